/-
  No cell of these rows narrows 'for every input' (looked for: loops, veiled, ifaces, maps, wideKeys, modest, calm, conditions, laid).
  DERIVED. THE GIVEN ROWS OF THIS SEAT. 6 by the template 'for every input the law returns true; each argument reads behind the call as it read before'; 0 by the template 'total and deterministic' (their statements: YtdgbemafhhhceaaTotals.lean).
  GIVEN WITH THE SEED: the statements are not yours to turn. If you find one false, say at which input.
  Laid BY PROGRAM, IN A SANDBOX (cutbox-rows.mjs): the forced cells as the released guide's own fill.sh prints them over the translation 124d1567fe9b4574… (all of the seat's roots in one cut). By AI agents, Wed Nov 11 2026. No macro, syntax, notation, axiom, sorry.
-/
import Derived.Test.YtdgbemafhhhceaaChecked
import GoSem.Claim
import GoSem.ClaimJoined
import GoSem.ClaimMapViews
import Derived.JoinedTies
import Derived.KernelRfl
namespace Go.Proofs.Ytdgbemafhhhceaa
/- THE CELL 'sum', in the pinned program and in every row, IS THE sha256 OF THE DUMP (.gsa) THAT YtdgbemafhhhceaaProg.lean LOADS. Nothing in Lean hashes anything: it is a label: what it is worth is what the hold of that sum in a sandbox is worth. -/
noncomputable def Try.pinned : Pinned := { name := "ytdgbemafhhhceaa", sum := "124d1567fe9b457475079d48c20728ff42e382d3d99eab982f098887c0fcb0f7", checked := Try.checked }
namespace Rows
def none {H : Type} : Left H := { results := [], args := [] }

/-- 'siphonlaw16.TreeChecks': WHATEVER THE INPUT: true; the input reads as it did. -/
def treeChecksSpec : ChangeSpec := { name := "treeChecks", fn := fun _ => fun
  | [d1, d2] => { results := [.lit (.bool true)], args := [d1, d2] }
  | _ => none }
def treeChecksRow : OpenClaim := { program := "ytdgbemafhhhceaa", sum := "124d1567fe9b457475079d48c20728ff42e382d3d99eab982f098887c0fcb0f7", func := "siphon/siphonlaw16.TreeChecks", spec := "treeChecks", unfollowed := true, recurses := true, plainKeys := false, apart := false }
def TreeChecksSaid : Prop := treeChecksRow.holds Try.pinned (OpenSpec.ofChange treeChecksSpec)

/-- ITS FALSE NEIGHBOUR: 'it returns false'. Refute it at one input. -/
def treeChecksWrong : ChangeSpec := { name := "treeChecks", fn := fun _ => fun
  | [d1, d2] => { results := [.lit (.bool false)], args := [d1, d2] }
  | _ => none }
def TreeChecksWrongFalsely : Prop := treeChecksRow.holds Try.pinned (OpenSpec.ofChange treeChecksWrong)

/-- 'siphonlaw16.TreeRests': WHATEVER THE INPUT: true; the input reads as it did. -/
def treeRestsSpec : ChangeSpec := { name := "treeRests", fn := fun _ => fun
  | [d1, d2] => { results := [.lit (.bool true)], args := [d1, d2] }
  | _ => none }
def treeRestsRow : OpenClaim := { program := "ytdgbemafhhhceaa", sum := "124d1567fe9b457475079d48c20728ff42e382d3d99eab982f098887c0fcb0f7", func := "siphon/siphonlaw16.TreeRests", spec := "treeRests", unfollowed := true, recurses := true, plainKeys := false, apart := false }
def TreeRestsSaid : Prop := treeRestsRow.holds Try.pinned (OpenSpec.ofChange treeRestsSpec)

/-- ITS FALSE NEIGHBOUR: 'it returns false'. Refute it at one input. -/
def treeRestsWrong : ChangeSpec := { name := "treeRests", fn := fun _ => fun
  | [d1, d2] => { results := [.lit (.bool false)], args := [d1, d2] }
  | _ => none }
def TreeRestsWrongFalsely : Prop := treeRestsRow.holds Try.pinned (OpenSpec.ofChange treeRestsWrong)

/-- 'siphonlaw16.TreeSpans': WHATEVER THE INPUT: true; the input reads as it did. -/
def treeSpansSpec : ChangeSpec := { name := "treeSpans", fn := fun _ => fun
  | [d1, d2] => { results := [.lit (.bool true)], args := [d1, d2] }
  | _ => none }
def treeSpansRow : OpenClaim := { program := "ytdgbemafhhhceaa", sum := "124d1567fe9b457475079d48c20728ff42e382d3d99eab982f098887c0fcb0f7", func := "siphon/siphonlaw16.TreeSpans", spec := "treeSpans", unfollowed := true, recurses := true, plainKeys := false, apart := false }
def TreeSpansSaid : Prop := treeSpansRow.holds Try.pinned (OpenSpec.ofChange treeSpansSpec)

/-- ITS FALSE NEIGHBOUR: 'it returns false'. Refute it at one input. -/
def treeSpansWrong : ChangeSpec := { name := "treeSpans", fn := fun _ => fun
  | [d1, d2] => { results := [.lit (.bool false)], args := [d1, d2] }
  | _ => none }
def TreeSpansWrongFalsely : Prop := treeSpansRow.holds Try.pinned (OpenSpec.ofChange treeSpansWrong)

/-- 'siphonlaw16.TreeRoots': WHATEVER THE INPUT: true; the input reads as it did. -/
def treeRootsSpec : ChangeSpec := { name := "treeRoots", fn := fun _ => fun
  | [d1, d2] => { results := [.lit (.bool true)], args := [d1, d2] }
  | _ => none }
def treeRootsRow : OpenClaim := { program := "ytdgbemafhhhceaa", sum := "124d1567fe9b457475079d48c20728ff42e382d3d99eab982f098887c0fcb0f7", func := "siphon/siphonlaw16.TreeRoots", spec := "treeRoots", unfollowed := true, recurses := true, plainKeys := false, apart := false }
def TreeRootsSaid : Prop := treeRootsRow.holds Try.pinned (OpenSpec.ofChange treeRootsSpec)

/-- ITS FALSE NEIGHBOUR: 'it returns false'. Refute it at one input. -/
def treeRootsWrong : ChangeSpec := { name := "treeRoots", fn := fun _ => fun
  | [d1, d2] => { results := [.lit (.bool false)], args := [d1, d2] }
  | _ => none }
def TreeRootsWrongFalsely : Prop := treeRootsRow.holds Try.pinned (OpenSpec.ofChange treeRootsWrong)

/-- 'siphonlaw16.TreeOne': WHATEVER THE INPUT: true; the input reads as it did. -/
def treeOneSpec : ChangeSpec := { name := "treeOne", fn := fun _ => fun
  | [d1, d2] => { results := [.lit (.bool true)], args := [d1, d2] }
  | _ => none }
def treeOneRow : OpenClaim := { program := "ytdgbemafhhhceaa", sum := "124d1567fe9b457475079d48c20728ff42e382d3d99eab982f098887c0fcb0f7", func := "siphon/siphonlaw16.TreeOne", spec := "treeOne", unfollowed := true, recurses := true, plainKeys := false, apart := false }
def TreeOneSaid : Prop := treeOneRow.holds Try.pinned (OpenSpec.ofChange treeOneSpec)

/-- ITS FALSE NEIGHBOUR: 'it returns false'. Refute it at one input. -/
def treeOneWrong : ChangeSpec := { name := "treeOne", fn := fun _ => fun
  | [d1, d2] => { results := [.lit (.bool false)], args := [d1, d2] }
  | _ => none }
def TreeOneWrongFalsely : Prop := treeOneRow.holds Try.pinned (OpenSpec.ofChange treeOneWrong)

/-- 'siphonlaw16.TreeScaled': WHATEVER THE INPUT: true; the input reads as it did. -/
def treeScaledSpec : ChangeSpec := { name := "treeScaled", fn := fun _ => fun
  | [d1, d2] => { results := [.lit (.bool true)], args := [d1, d2] }
  | _ => none }
def treeScaledRow : OpenClaim := { program := "ytdgbemafhhhceaa", sum := "124d1567fe9b457475079d48c20728ff42e382d3d99eab982f098887c0fcb0f7", func := "siphon/siphonlaw16.TreeScaled", spec := "treeScaled", unfollowed := true, recurses := true, plainKeys := false, apart := false }
def TreeScaledSaid : Prop := treeScaledRow.holds Try.pinned (OpenSpec.ofChange treeScaledSpec)

/-- ITS FALSE NEIGHBOUR: 'it returns false'. Refute it at one input. -/
def treeScaledWrong : ChangeSpec := { name := "treeScaled", fn := fun _ => fun
  | [d1, d2] => { results := [.lit (.bool false)], args := [d1, d2] }
  | _ => none }
def TreeScaledWrongFalsely : Prop := treeScaledRow.holds Try.pinned (OpenSpec.ofChange treeScaledWrong)

/- THE SECOND FORM. 'bulk': how many values and letters a reading holds, each counted each time it is reached (what is shared counts as often as it is met; a slice's spare places count too). A statement '..UptoSaid' is the law's where the arguments, and the package variables that the reading takes, are together of bulk at most 1048576: NARROWER than '..Said'. Prove '..Said' where nothing that the law and all that it calls make is longer than what came in: it says more and counts as full. Else prove '..UptoSaid'. A law counts once. -/
mutual
def uptoBulk {H : Type} : DataW H → Nat
  | .lit (.string bytes) => bytes.length + 1
  | .lit _ => 1
  | .nil => 1
  | .ptr d => uptoBulk d + 1
  | .slice elems spare => uptoBulkAll elems + uptoBulkAll spare + 1
  | .agg parts => uptoBulkAll parts + 1
  | .iface _ d => uptoBulk d + 1
  | .map entries => uptoBulkEntries entries + 1
  | .held _ => 1
def uptoBulkAll {H : Type} : List (DataW H) → Nat
  | [] => 0
  | d :: r => uptoBulk d + uptoBulkAll r
def uptoBulkEntries {H : Type} : List (Lit × DataW H) → Nat
  | [] => 0
  | x :: r => uptoBulkEntry x + uptoBulkEntries r
def uptoBulkEntry {H : Type} : Lit × DataW H → Nat
  | (.string bytes, d) => bytes.length + uptoBulk d + 1
  | (_, d) => uptoBulk d + 1
 end
def uptoSmall : (H : Type) → List (DataW H) → Bool := fun _ ds => decide (uptoBulkAll ds ≤ 1048576)
def OpenSpec.upto (s : _root_.Go.ChangeSpec) : _root_.Go.OpenSpec := { _root_.Go.OpenSpec.ofChange s with cond := some uptoSmall }

/-- 'siphonlaw16.TreeChecks', WHERE WHAT IT READS IS OF BULK AT MOST 1048576: true; the input reads as it did. -/
def treeChecksUptoRow : OpenClaim := { program := "ytdgbemafhhhceaa", sum := "124d1567fe9b457475079d48c20728ff42e382d3d99eab982f098887c0fcb0f7", func := "siphon/siphonlaw16.TreeChecks", spec := "treeChecks", unfollowed := true, recurses := true, plainKeys := false, apart := false, narrowed := true }
def TreeChecksUptoSaid : Prop := treeChecksUptoRow.holds Try.pinned (OpenSpec.upto treeChecksSpec)

/-- 'siphonlaw16.TreeRests', WHERE WHAT IT READS IS OF BULK AT MOST 1048576: true; the input reads as it did. -/
def treeRestsUptoRow : OpenClaim := { program := "ytdgbemafhhhceaa", sum := "124d1567fe9b457475079d48c20728ff42e382d3d99eab982f098887c0fcb0f7", func := "siphon/siphonlaw16.TreeRests", spec := "treeRests", unfollowed := true, recurses := true, plainKeys := false, apart := false, narrowed := true }
def TreeRestsUptoSaid : Prop := treeRestsUptoRow.holds Try.pinned (OpenSpec.upto treeRestsSpec)

/-- 'siphonlaw16.TreeSpans', WHERE WHAT IT READS IS OF BULK AT MOST 1048576: true; the input reads as it did. -/
def treeSpansUptoRow : OpenClaim := { program := "ytdgbemafhhhceaa", sum := "124d1567fe9b457475079d48c20728ff42e382d3d99eab982f098887c0fcb0f7", func := "siphon/siphonlaw16.TreeSpans", spec := "treeSpans", unfollowed := true, recurses := true, plainKeys := false, apart := false, narrowed := true }
def TreeSpansUptoSaid : Prop := treeSpansUptoRow.holds Try.pinned (OpenSpec.upto treeSpansSpec)

/-- 'siphonlaw16.TreeRoots', WHERE WHAT IT READS IS OF BULK AT MOST 1048576: true; the input reads as it did. -/
def treeRootsUptoRow : OpenClaim := { program := "ytdgbemafhhhceaa", sum := "124d1567fe9b457475079d48c20728ff42e382d3d99eab982f098887c0fcb0f7", func := "siphon/siphonlaw16.TreeRoots", spec := "treeRoots", unfollowed := true, recurses := true, plainKeys := false, apart := false, narrowed := true }
def TreeRootsUptoSaid : Prop := treeRootsUptoRow.holds Try.pinned (OpenSpec.upto treeRootsSpec)

/-- 'siphonlaw16.TreeOne', WHERE WHAT IT READS IS OF BULK AT MOST 1048576: true; the input reads as it did. -/
def treeOneUptoRow : OpenClaim := { program := "ytdgbemafhhhceaa", sum := "124d1567fe9b457475079d48c20728ff42e382d3d99eab982f098887c0fcb0f7", func := "siphon/siphonlaw16.TreeOne", spec := "treeOne", unfollowed := true, recurses := true, plainKeys := false, apart := false, narrowed := true }
def TreeOneUptoSaid : Prop := treeOneUptoRow.holds Try.pinned (OpenSpec.upto treeOneSpec)

/-- 'siphonlaw16.TreeScaled', WHERE WHAT IT READS IS OF BULK AT MOST 1048576: true; the input reads as it did. -/
def treeScaledUptoRow : OpenClaim := { program := "ytdgbemafhhhceaa", sum := "124d1567fe9b457475079d48c20728ff42e382d3d99eab982f098887c0fcb0f7", func := "siphon/siphonlaw16.TreeScaled", spec := "treeScaled", unfollowed := true, recurses := true, plainKeys := false, apart := false, narrowed := true }
def TreeScaledUptoSaid : Prop := treeScaledUptoRow.holds Try.pinned (OpenSpec.upto treeScaledSpec)

end Rows
end Go.Proofs.Ytdgbemafhhhceaa
