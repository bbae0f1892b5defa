/-
  No cell of these rows narrows 'for every input' (looked for: loops, veiled, ifaces, maps, wideKeys, modest, calm, conditions, laid).
  DERIVED. THE GIVEN ROWS OF THIS SEAT. 6 by the template 'for every input the law returns true; each argument reads behind the call as it read before'; 0 by the template 'total and deterministic' (their statements: YtifhjbboddfbcaaTotals.lean).
  GIVEN WITH THE SEED: the statements are not yours to turn. If you find one false, say at which input.
  Laid BY PROGRAM, IN A SANDBOX (cutbox-rows.mjs): the forced cells as the released guide's own fill.sh prints them over the translation b9f6a3e5535ecdd4… (all of the seat's roots in one cut). By AI agents, Wed Nov 11 2026. No macro, syntax, notation, axiom, sorry.
-/
import Derived.Test.YtifhjbboddfbcaaChecked
import GoSem.Claim
import GoSem.ClaimJoined
import GoSem.ClaimMapViews
import Derived.JoinedTies
import Derived.KernelRfl
namespace Go.Proofs.Ytifhjbboddfbcaa
/- THE CELL 'sum', in the pinned program and in every row, IS THE sha256 OF THE DUMP (.gsa) THAT YtifhjbboddfbcaaProg.lean LOADS. Nothing in Lean hashes anything: it is a label: what it is worth is what the hold of that sum in a sandbox is worth. -/
noncomputable def Try.pinned : Pinned := { name := "ytifhjbboddfbcaa", sum := "b9f6a3e5535ecdd4f34196b80b41bc4ba0afb331a6a0ecae28cea2b72f85f094", checked := Try.checked }
namespace Rows
def none {H : Type} : Left H := { results := [], args := [] }

/-- 'siphonlaw10.WheelAll': WHATEVER THE INPUT: true; the input reads as it did. -/
def wheelAllSpec : ChangeSpec := { name := "wheelAll", fn := fun _ => fun
  | [d] => { results := [.lit (.bool true)], args := [d] }
  | _ => none }
def wheelAllRow : OpenClaim := { program := "ytifhjbboddfbcaa", sum := "b9f6a3e5535ecdd4f34196b80b41bc4ba0afb331a6a0ecae28cea2b72f85f094", func := "siphon/siphonlaw10.WheelAll", spec := "wheelAll", unfollowed := true, recurses := true, apart := false }
def WheelAllSaid : Prop := wheelAllRow.holds Try.pinned (OpenSpec.ofChange wheelAllSpec)

/-- ITS FALSE NEIGHBOUR: 'it returns false'. Refute it at one input. -/
def wheelAllWrong : ChangeSpec := { name := "wheelAll", fn := fun _ => fun
  | [d] => { results := [.lit (.bool false)], args := [d] }
  | _ => none }
def WheelAllWrongFalsely : Prop := wheelAllRow.holds Try.pinned (OpenSpec.ofChange wheelAllWrong)

/-- 'siphonlaw10.WheelParts': WHATEVER THE INPUT: true; the input reads as it did. -/
def wheelPartsSpec : ChangeSpec := { name := "wheelParts", fn := fun _ => fun
  | [d1, d2, d3] => { results := [.lit (.bool true)], args := [d1, d2, d3] }
  | _ => none }
def wheelPartsRow : OpenClaim := { program := "ytifhjbboddfbcaa", sum := "b9f6a3e5535ecdd4f34196b80b41bc4ba0afb331a6a0ecae28cea2b72f85f094", func := "siphon/siphonlaw10.WheelParts", spec := "wheelParts", unfollowed := true, recurses := true, apart := false }
def WheelPartsSaid : Prop := wheelPartsRow.holds Try.pinned (OpenSpec.ofChange wheelPartsSpec)

/-- ITS FALSE NEIGHBOUR: 'it returns false'. Refute it at one input. -/
def wheelPartsWrong : ChangeSpec := { name := "wheelParts", fn := fun _ => fun
  | [d1, d2, d3] => { results := [.lit (.bool false)], args := [d1, d2, d3] }
  | _ => none }
def WheelPartsWrongFalsely : Prop := wheelPartsRow.holds Try.pinned (OpenSpec.ofChange wheelPartsWrong)

/-- 'siphonlaw10.WheelNext': WHATEVER THE INPUT: true; the input reads as it did. -/
def wheelNextSpec : ChangeSpec := { name := "wheelNext", fn := fun _ => fun
  | [d] => { results := [.lit (.bool true)], args := [d] }
  | _ => none }
def wheelNextRow : OpenClaim := { program := "ytifhjbboddfbcaa", sum := "b9f6a3e5535ecdd4f34196b80b41bc4ba0afb331a6a0ecae28cea2b72f85f094", func := "siphon/siphonlaw10.WheelNext", spec := "wheelNext", unfollowed := true, recurses := true, apart := false }
def WheelNextSaid : Prop := wheelNextRow.holds Try.pinned (OpenSpec.ofChange wheelNextSpec)

/-- ITS FALSE NEIGHBOUR: 'it returns false'. Refute it at one input. -/
def wheelNextWrong : ChangeSpec := { name := "wheelNext", fn := fun _ => fun
  | [d] => { results := [.lit (.bool false)], args := [d] }
  | _ => none }
def WheelNextWrongFalsely : Prop := wheelNextRow.holds Try.pinned (OpenSpec.ofChange wheelNextWrong)

/-- 'siphonlaw10.WheelApart': WHATEVER THE INPUT: true; the input reads as it did. -/
def wheelApartSpec : ChangeSpec := { name := "wheelApart", fn := fun _ => fun
  | [d1, d2] => { results := [.lit (.bool true)], args := [d1, d2] }
  | _ => none }
def wheelApartRow : OpenClaim := { program := "ytifhjbboddfbcaa", sum := "b9f6a3e5535ecdd4f34196b80b41bc4ba0afb331a6a0ecae28cea2b72f85f094", func := "siphon/siphonlaw10.WheelApart", spec := "wheelApart", unfollowed := true, recurses := true, apart := false }
def WheelApartSaid : Prop := wheelApartRow.holds Try.pinned (OpenSpec.ofChange wheelApartSpec)

/-- ITS FALSE NEIGHBOUR: 'it returns false'. Refute it at one input. -/
def wheelApartWrong : ChangeSpec := { name := "wheelApart", fn := fun _ => fun
  | [d1, d2] => { results := [.lit (.bool false)], args := [d1, d2] }
  | _ => none }
def WheelApartWrongFalsely : Prop := wheelApartRow.holds Try.pinned (OpenSpec.ofChange wheelApartWrong)

/-- 'siphonlaw10.WheelScripts': WHATEVER THE INPUT: true; the input reads as it did. -/
def wheelScriptsSpec : ChangeSpec := { name := "wheelScripts", fn := fun _ => fun
  | [d1, d2] => { results := [.lit (.bool true)], args := [d1, d2] }
  | _ => none }
def wheelScriptsRow : OpenClaim := { program := "ytifhjbboddfbcaa", sum := "b9f6a3e5535ecdd4f34196b80b41bc4ba0afb331a6a0ecae28cea2b72f85f094", func := "siphon/siphonlaw10.WheelScripts", spec := "wheelScripts", unfollowed := true, recurses := true, apart := false }
def WheelScriptsSaid : Prop := wheelScriptsRow.holds Try.pinned (OpenSpec.ofChange wheelScriptsSpec)

/-- ITS FALSE NEIGHBOUR: 'it returns false'. Refute it at one input. -/
def wheelScriptsWrong : ChangeSpec := { name := "wheelScripts", fn := fun _ => fun
  | [d1, d2] => { results := [.lit (.bool false)], args := [d1, d2] }
  | _ => none }
def WheelScriptsWrongFalsely : Prop := wheelScriptsRow.holds Try.pinned (OpenSpec.ofChange wheelScriptsWrong)

/-- 'siphonlaw10.WheelNil': WHATEVER THE INPUT: true; the input reads as it did. -/
def wheelNilSpec : ChangeSpec := { name := "wheelNil", fn := fun _ => fun
  | [d1, d2] => { results := [.lit (.bool true)], args := [d1, d2] }
  | _ => none }
def wheelNilRow : OpenClaim := { program := "ytifhjbboddfbcaa", sum := "b9f6a3e5535ecdd4f34196b80b41bc4ba0afb331a6a0ecae28cea2b72f85f094", func := "siphon/siphonlaw10.WheelNil", spec := "wheelNil", unfollowed := true, recurses := true, apart := false }
def WheelNilSaid : Prop := wheelNilRow.holds Try.pinned (OpenSpec.ofChange wheelNilSpec)

/-- ITS FALSE NEIGHBOUR: 'it returns false'. Refute it at one input. -/
def wheelNilWrong : ChangeSpec := { name := "wheelNil", fn := fun _ => fun
  | [d1, d2] => { results := [.lit (.bool false)], args := [d1, d2] }
  | _ => none }
def WheelNilWrongFalsely : Prop := wheelNilRow.holds Try.pinned (OpenSpec.ofChange wheelNilWrong)

/- THE SECOND FORM. 'bulk': how many values and letters a reading holds, each counted each time it is reached (what is shared counts as often as it is met; a slice's spare places count too). A statement '..UptoSaid' is the law's where the arguments, and the package variables that the reading takes, are together of bulk at most 1048576: NARROWER than '..Said'. Prove '..Said' where nothing that the law and all that it calls make is longer than what came in: it says more and counts as full. Else prove '..UptoSaid'. A law counts once. -/
mutual
def uptoBulk {H : Type} : DataW H → Nat
  | .lit (.string bytes) => bytes.length + 1
  | .lit _ => 1
  | .nil => 1
  | .ptr d => uptoBulk d + 1
  | .slice elems spare => uptoBulkAll elems + uptoBulkAll spare + 1
  | .agg parts => uptoBulkAll parts + 1
  | .iface _ d => uptoBulk d + 1
  | .map entries => uptoBulkEntries entries + 1
  | .held _ => 1
def uptoBulkAll {H : Type} : List (DataW H) → Nat
  | [] => 0
  | d :: r => uptoBulk d + uptoBulkAll r
def uptoBulkEntries {H : Type} : List (Lit × DataW H) → Nat
  | [] => 0
  | x :: r => uptoBulkEntry x + uptoBulkEntries r
def uptoBulkEntry {H : Type} : Lit × DataW H → Nat
  | (.string bytes, d) => bytes.length + uptoBulk d + 1
  | (_, d) => uptoBulk d + 1
 end
def uptoSmall : (H : Type) → List (DataW H) → Bool := fun _ ds => decide (uptoBulkAll ds ≤ 1048576)
def OpenSpec.upto (s : _root_.Go.ChangeSpec) : _root_.Go.OpenSpec := { _root_.Go.OpenSpec.ofChange s with cond := some uptoSmall }

/-- 'siphonlaw10.WheelAll', WHERE WHAT IT READS IS OF BULK AT MOST 1048576: true; the input reads as it did. -/
def wheelAllUptoRow : OpenClaim := { program := "ytifhjbboddfbcaa", sum := "b9f6a3e5535ecdd4f34196b80b41bc4ba0afb331a6a0ecae28cea2b72f85f094", func := "siphon/siphonlaw10.WheelAll", spec := "wheelAll", unfollowed := true, recurses := true, apart := false, narrowed := true }
def WheelAllUptoSaid : Prop := wheelAllUptoRow.holds Try.pinned (OpenSpec.upto wheelAllSpec)

/-- 'siphonlaw10.WheelParts', WHERE WHAT IT READS IS OF BULK AT MOST 1048576: true; the input reads as it did. -/
def wheelPartsUptoRow : OpenClaim := { program := "ytifhjbboddfbcaa", sum := "b9f6a3e5535ecdd4f34196b80b41bc4ba0afb331a6a0ecae28cea2b72f85f094", func := "siphon/siphonlaw10.WheelParts", spec := "wheelParts", unfollowed := true, recurses := true, apart := false, narrowed := true }
def WheelPartsUptoSaid : Prop := wheelPartsUptoRow.holds Try.pinned (OpenSpec.upto wheelPartsSpec)

/-- 'siphonlaw10.WheelNext', WHERE WHAT IT READS IS OF BULK AT MOST 1048576: true; the input reads as it did. -/
def wheelNextUptoRow : OpenClaim := { program := "ytifhjbboddfbcaa", sum := "b9f6a3e5535ecdd4f34196b80b41bc4ba0afb331a6a0ecae28cea2b72f85f094", func := "siphon/siphonlaw10.WheelNext", spec := "wheelNext", unfollowed := true, recurses := true, apart := false, narrowed := true }
def WheelNextUptoSaid : Prop := wheelNextUptoRow.holds Try.pinned (OpenSpec.upto wheelNextSpec)

/-- 'siphonlaw10.WheelApart', WHERE WHAT IT READS IS OF BULK AT MOST 1048576: true; the input reads as it did. -/
def wheelApartUptoRow : OpenClaim := { program := "ytifhjbboddfbcaa", sum := "b9f6a3e5535ecdd4f34196b80b41bc4ba0afb331a6a0ecae28cea2b72f85f094", func := "siphon/siphonlaw10.WheelApart", spec := "wheelApart", unfollowed := true, recurses := true, apart := false, narrowed := true }
def WheelApartUptoSaid : Prop := wheelApartUptoRow.holds Try.pinned (OpenSpec.upto wheelApartSpec)

/-- 'siphonlaw10.WheelScripts', WHERE WHAT IT READS IS OF BULK AT MOST 1048576: true; the input reads as it did. -/
def wheelScriptsUptoRow : OpenClaim := { program := "ytifhjbboddfbcaa", sum := "b9f6a3e5535ecdd4f34196b80b41bc4ba0afb331a6a0ecae28cea2b72f85f094", func := "siphon/siphonlaw10.WheelScripts", spec := "wheelScripts", unfollowed := true, recurses := true, apart := false, narrowed := true }
def WheelScriptsUptoSaid : Prop := wheelScriptsUptoRow.holds Try.pinned (OpenSpec.upto wheelScriptsSpec)

/-- 'siphonlaw10.WheelNil', WHERE WHAT IT READS IS OF BULK AT MOST 1048576: true; the input reads as it did. -/
def wheelNilUptoRow : OpenClaim := { program := "ytifhjbboddfbcaa", sum := "b9f6a3e5535ecdd4f34196b80b41bc4ba0afb331a6a0ecae28cea2b72f85f094", func := "siphon/siphonlaw10.WheelNil", spec := "wheelNil", unfollowed := true, recurses := true, apart := false, narrowed := true }
def WheelNilUptoSaid : Prop := wheelNilUptoRow.holds Try.pinned (OpenSpec.upto wheelNilSpec)

end Rows
end Go.Proofs.Ytifhjbboddfbcaa
