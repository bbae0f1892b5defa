/-
  No cell of these rows narrows 'for every input' (looked for: loops, veiled, ifaces, maps, wideKeys, modest, calm, conditions, laid).
  DERIVED. THE GIVEN ROWS OF THIS SEAT. 5 by the template 'for every input the law returns true; each argument reads behind the call as it read before'; 0 by the template 'total and deterministic' (their statements: YtnnpmbjicpndeaaTotals.lean).
  GIVEN WITH THE SEED: the statements are not yours to turn. If you find one false, say at which input.
  Laid BY PROGRAM, IN A SANDBOX (cutbox-rows.mjs): the forced cells as the released guide's own fill.sh prints them over the translation b33276395dad81cb… (all of the seat's roots in one cut). By AI agents, Wed Nov 11 2026. No macro, syntax, notation, axiom, sorry.
-/
import Derived.Test.YtnnpmbjicpndeaaChecked
import GoSem.Claim
import GoSem.ClaimJoined
import GoSem.ClaimMapViews
import Derived.JoinedTies
import Derived.KernelRfl
namespace Go.Proofs.Ytnnpmbjicpndeaa
/- THE CELL 'sum', in the pinned program and in every row, IS THE sha256 OF THE DUMP (.gsa) THAT YtnnpmbjicpndeaaProg.lean LOADS. Nothing in Lean hashes anything: it is a label: what it is worth is what the hold of that sum in a sandbox is worth. -/
noncomputable def Try.pinned : Pinned := { name := "ytnnpmbjicpndeaa", sum := "b33276395dad81cb7c3f7e95e8e74c6dc48650355bb6d5c3cc80c346bca95aeb", checked := Try.checked }
namespace Rows
def none {H : Type} : Left H := { results := [], args := [] }

/-- 'siphonlaw13.FdbFinds': WHATEVER THE INPUT: true; the input reads as it did. -/
def fdbFindsSpec : ChangeSpec := { name := "fdbFinds", fn := fun _ => fun
  | [d1, d2, d3] => { results := [.lit (.bool true)], args := [d1, d2, d3] }
  | _ => none }
def fdbFindsRow : OpenClaim := { program := "ytnnpmbjicpndeaa", sum := "b33276395dad81cb7c3f7e95e8e74c6dc48650355bb6d5c3cc80c346bca95aeb", func := "siphon/siphonlaw13.FdbFinds", spec := "fdbFinds", unfollowed := true, recurses := true, plainKeys := false, apart := false }
def FdbFindsSaid : Prop := fdbFindsRow.holds Try.pinned (OpenSpec.ofChange fdbFindsSpec)

/-- ITS FALSE NEIGHBOUR: 'it returns false'. Refute it at one input. -/
def fdbFindsWrong : ChangeSpec := { name := "fdbFinds", fn := fun _ => fun
  | [d1, d2, d3] => { results := [.lit (.bool false)], args := [d1, d2, d3] }
  | _ => none }
def FdbFindsWrongFalsely : Prop := fdbFindsRow.holds Try.pinned (OpenSpec.ofChange fdbFindsWrong)

/-- 'siphonlaw13.FdbApart': WHATEVER THE INPUT: true; the input reads as it did. -/
def fdbApartSpec : ChangeSpec := { name := "fdbApart", fn := fun _ => fun
  | [d1, d2, d3] => { results := [.lit (.bool true)], args := [d1, d2, d3] }
  | _ => none }
def fdbApartRow : OpenClaim := { program := "ytnnpmbjicpndeaa", sum := "b33276395dad81cb7c3f7e95e8e74c6dc48650355bb6d5c3cc80c346bca95aeb", func := "siphon/siphonlaw13.FdbApart", spec := "fdbApart", unfollowed := true, recurses := true, plainKeys := false, apart := false }
def FdbApartSaid : Prop := fdbApartRow.holds Try.pinned (OpenSpec.ofChange fdbApartSpec)

/-- ITS FALSE NEIGHBOUR: 'it returns false'. Refute it at one input. -/
def fdbApartWrong : ChangeSpec := { name := "fdbApart", fn := fun _ => fun
  | [d1, d2, d3] => { results := [.lit (.bool false)], args := [d1, d2, d3] }
  | _ => none }
def FdbApartWrongFalsely : Prop := fdbApartRow.holds Try.pinned (OpenSpec.ofChange fdbApartWrong)

/-- 'siphonlaw13.FdbScripts': WHATEVER THE INPUT: true; the input reads as it did. -/
def fdbScriptsSpec : ChangeSpec := { name := "fdbScripts", fn := fun _ => fun
  | [d1, d2, d3] => { results := [.lit (.bool true)], args := [d1, d2, d3] }
  | _ => none }
def fdbScriptsRow : OpenClaim := { program := "ytnnpmbjicpndeaa", sum := "b33276395dad81cb7c3f7e95e8e74c6dc48650355bb6d5c3cc80c346bca95aeb", func := "siphon/siphonlaw13.FdbScripts", spec := "fdbScripts", unfollowed := true, recurses := true, plainKeys := false, apart := false }
def FdbScriptsSaid : Prop := fdbScriptsRow.holds Try.pinned (OpenSpec.ofChange fdbScriptsSpec)

/-- ITS FALSE NEIGHBOUR: 'it returns false'. Refute it at one input. -/
def fdbScriptsWrong : ChangeSpec := { name := "fdbScripts", fn := fun _ => fun
  | [d1, d2, d3] => { results := [.lit (.bool false)], args := [d1, d2, d3] }
  | _ => none }
def FdbScriptsWrongFalsely : Prop := fdbScriptsRow.holds Try.pinned (OpenSpec.ofChange fdbScriptsWrong)

/-- 'siphonlaw13.FdbNil': WHATEVER THE INPUT: true; the input reads as it did. -/
def fdbNilSpec : ChangeSpec := { name := "fdbNil", fn := fun _ => fun
  | [d] => { results := [.lit (.bool true)], args := [d] }
  | _ => none }
def fdbNilRow : OpenClaim := { program := "ytnnpmbjicpndeaa", sum := "b33276395dad81cb7c3f7e95e8e74c6dc48650355bb6d5c3cc80c346bca95aeb", func := "siphon/siphonlaw13.FdbNil", spec := "fdbNil", unfollowed := true, recurses := true, plainKeys := false, apart := false }
def FdbNilSaid : Prop := fdbNilRow.holds Try.pinned (OpenSpec.ofChange fdbNilSpec)

/-- ITS FALSE NEIGHBOUR: 'it returns false'. Refute it at one input. -/
def fdbNilWrong : ChangeSpec := { name := "fdbNil", fn := fun _ => fun
  | [d] => { results := [.lit (.bool false)], args := [d] }
  | _ => none }
def FdbNilWrongFalsely : Prop := fdbNilRow.holds Try.pinned (OpenSpec.ofChange fdbNilWrong)

/-- 'siphonlaw13.FdbFlushes': WHATEVER THE INPUT: true; the input reads as it did. -/
def fdbFlushesSpec : ChangeSpec := { name := "fdbFlushes", fn := fun _ => fun
  | [d1, d2, d3] => { results := [.lit (.bool true)], args := [d1, d2, d3] }
  | _ => none }
def fdbFlushesRow : OpenClaim := { program := "ytnnpmbjicpndeaa", sum := "b33276395dad81cb7c3f7e95e8e74c6dc48650355bb6d5c3cc80c346bca95aeb", func := "siphon/siphonlaw13.FdbFlushes", spec := "fdbFlushes", unfollowed := true, recurses := true, plainKeys := false, apart := false }
def FdbFlushesSaid : Prop := fdbFlushesRow.holds Try.pinned (OpenSpec.ofChange fdbFlushesSpec)

/-- ITS FALSE NEIGHBOUR: 'it returns false'. Refute it at one input. -/
def fdbFlushesWrong : ChangeSpec := { name := "fdbFlushes", fn := fun _ => fun
  | [d1, d2, d3] => { results := [.lit (.bool false)], args := [d1, d2, d3] }
  | _ => none }
def FdbFlushesWrongFalsely : Prop := fdbFlushesRow.holds Try.pinned (OpenSpec.ofChange fdbFlushesWrong)

/- THE SECOND FORM. 'bulk': how many values and letters a reading holds, each counted each time it is reached (what is shared counts as often as it is met; a slice's spare places count too). A statement '..UptoSaid' is the law's where the arguments, and the package variables that the reading takes, are together of bulk at most 1048576: NARROWER than '..Said'. Prove '..Said' where nothing that the law and all that it calls make is longer than what came in: it says more and counts as full. Else prove '..UptoSaid'. A law counts once. -/
mutual
def uptoBulk {H : Type} : DataW H → Nat
  | .lit (.string bytes) => bytes.length + 1
  | .lit _ => 1
  | .nil => 1
  | .ptr d => uptoBulk d + 1
  | .slice elems spare => uptoBulkAll elems + uptoBulkAll spare + 1
  | .agg parts => uptoBulkAll parts + 1
  | .iface _ d => uptoBulk d + 1
  | .map entries => uptoBulkEntries entries + 1
  | .held _ => 1
def uptoBulkAll {H : Type} : List (DataW H) → Nat
  | [] => 0
  | d :: r => uptoBulk d + uptoBulkAll r
def uptoBulkEntries {H : Type} : List (Lit × DataW H) → Nat
  | [] => 0
  | x :: r => uptoBulkEntry x + uptoBulkEntries r
def uptoBulkEntry {H : Type} : Lit × DataW H → Nat
  | (.string bytes, d) => bytes.length + uptoBulk d + 1
  | (_, d) => uptoBulk d + 1
 end
def uptoSmall : (H : Type) → List (DataW H) → Bool := fun _ ds => decide (uptoBulkAll ds ≤ 1048576)
def OpenSpec.upto (s : _root_.Go.ChangeSpec) : _root_.Go.OpenSpec := { _root_.Go.OpenSpec.ofChange s with cond := some uptoSmall }

/-- 'siphonlaw13.FdbFinds', WHERE WHAT IT READS IS OF BULK AT MOST 1048576: true; the input reads as it did. -/
def fdbFindsUptoRow : OpenClaim := { program := "ytnnpmbjicpndeaa", sum := "b33276395dad81cb7c3f7e95e8e74c6dc48650355bb6d5c3cc80c346bca95aeb", func := "siphon/siphonlaw13.FdbFinds", spec := "fdbFinds", unfollowed := true, recurses := true, plainKeys := false, apart := false, narrowed := true }
def FdbFindsUptoSaid : Prop := fdbFindsUptoRow.holds Try.pinned (OpenSpec.upto fdbFindsSpec)

/-- 'siphonlaw13.FdbApart', WHERE WHAT IT READS IS OF BULK AT MOST 1048576: true; the input reads as it did. -/
def fdbApartUptoRow : OpenClaim := { program := "ytnnpmbjicpndeaa", sum := "b33276395dad81cb7c3f7e95e8e74c6dc48650355bb6d5c3cc80c346bca95aeb", func := "siphon/siphonlaw13.FdbApart", spec := "fdbApart", unfollowed := true, recurses := true, plainKeys := false, apart := false, narrowed := true }
def FdbApartUptoSaid : Prop := fdbApartUptoRow.holds Try.pinned (OpenSpec.upto fdbApartSpec)

/-- 'siphonlaw13.FdbScripts', WHERE WHAT IT READS IS OF BULK AT MOST 1048576: true; the input reads as it did. -/
def fdbScriptsUptoRow : OpenClaim := { program := "ytnnpmbjicpndeaa", sum := "b33276395dad81cb7c3f7e95e8e74c6dc48650355bb6d5c3cc80c346bca95aeb", func := "siphon/siphonlaw13.FdbScripts", spec := "fdbScripts", unfollowed := true, recurses := true, plainKeys := false, apart := false, narrowed := true }
def FdbScriptsUptoSaid : Prop := fdbScriptsUptoRow.holds Try.pinned (OpenSpec.upto fdbScriptsSpec)

/-- 'siphonlaw13.FdbNil', WHERE WHAT IT READS IS OF BULK AT MOST 1048576: true; the input reads as it did. -/
def fdbNilUptoRow : OpenClaim := { program := "ytnnpmbjicpndeaa", sum := "b33276395dad81cb7c3f7e95e8e74c6dc48650355bb6d5c3cc80c346bca95aeb", func := "siphon/siphonlaw13.FdbNil", spec := "fdbNil", unfollowed := true, recurses := true, plainKeys := false, apart := false, narrowed := true }
def FdbNilUptoSaid : Prop := fdbNilUptoRow.holds Try.pinned (OpenSpec.upto fdbNilSpec)

/-- 'siphonlaw13.FdbFlushes', WHERE WHAT IT READS IS OF BULK AT MOST 1048576: true; the input reads as it did. -/
def fdbFlushesUptoRow : OpenClaim := { program := "ytnnpmbjicpndeaa", sum := "b33276395dad81cb7c3f7e95e8e74c6dc48650355bb6d5c3cc80c346bca95aeb", func := "siphon/siphonlaw13.FdbFlushes", spec := "fdbFlushes", unfollowed := true, recurses := true, plainKeys := false, apart := false, narrowed := true }
def FdbFlushesUptoSaid : Prop := fdbFlushesUptoRow.holds Try.pinned (OpenSpec.upto fdbFlushesSpec)

end Rows
end Go.Proofs.Ytnnpmbjicpndeaa
