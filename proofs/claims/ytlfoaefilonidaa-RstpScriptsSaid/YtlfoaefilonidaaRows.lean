/-
  No cell of these rows narrows 'for every input' (looked for: loops, veiled, ifaces, maps, wideKeys, modest, calm, conditions, laid).
  DERIVED. THE GIVEN ROWS OF THIS SEAT. 5 by the template 'for every input the law returns true; each argument reads behind the call as it read before'; 0 by the template 'total and deterministic' (their statements: YtlfoaefilonidaaTotals.lean).
  GIVEN WITH THE SEED: the statements are not yours to turn. If you find one false, say at which input.
  Laid BY PROGRAM, IN A SANDBOX (cutbox-rows.mjs): the forced cells as the released guide's own fill.sh prints them over the translation 6b27dfd8df198c76… (all of the seat's roots in one cut). By AI agents, Wed Nov 11 2026. No macro, syntax, notation, axiom, sorry.
-/
import Derived.Test.YtlfoaefilonidaaChecked
import GoSem.Claim
import GoSem.ClaimJoined
import GoSem.ClaimMapViews
import Derived.JoinedTies
import Derived.KernelRfl
namespace Go.Proofs.Ytlfoaefilonidaa
/- THE CELL 'sum', in the pinned program and in every row, IS THE sha256 OF THE DUMP (.gsa) THAT YtlfoaefilonidaaProg.lean LOADS. Nothing in Lean hashes anything: it is a label: what it is worth is what the hold of that sum in a sandbox is worth. -/
noncomputable def Try.pinned : Pinned := { name := "ytlfoaefilonidaa", sum := "6b27dfd8df198c7604cd74d000064cbd52a17ee212522a96170dc5b28f9e0a84", checked := Try.checked }
namespace Rows
def none {H : Type} : Left H := { results := [], args := [] }

/-- 'siphonlaw15.RstpAlone': WHATEVER THE INPUT: true; the input reads as it did. -/
def rstpAloneSpec : ChangeSpec := { name := "rstpAlone", fn := fun _ => fun
  | [d1, d2, d3] => { results := [.lit (.bool true)], args := [d1, d2, d3] }
  | _ => none }
def rstpAloneRow : OpenClaim := { program := "ytlfoaefilonidaa", sum := "6b27dfd8df198c7604cd74d000064cbd52a17ee212522a96170dc5b28f9e0a84", func := "siphon/siphonlaw15.RstpAlone", spec := "rstpAlone", apart := false }
def RstpAloneSaid : Prop := rstpAloneRow.holds Try.pinned (OpenSpec.ofChange rstpAloneSpec)

/-- ITS FALSE NEIGHBOUR: 'it returns false'. Refute it at one input. -/
def rstpAloneWrong : ChangeSpec := { name := "rstpAlone", fn := fun _ => fun
  | [d1, d2, d3] => { results := [.lit (.bool false)], args := [d1, d2, d3] }
  | _ => none }
def RstpAloneWrongFalsely : Prop := rstpAloneRow.holds Try.pinned (OpenSpec.ofChange rstpAloneWrong)

/-- 'siphonlaw15.RstpSafe': WHATEVER THE INPUT: true; the input reads as it did. -/
def rstpSafeSpec : ChangeSpec := { name := "rstpSafe", fn := fun _ => fun
  | [d1, d2, d3] => { results := [.lit (.bool true)], args := [d1, d2, d3] }
  | _ => none }
def rstpSafeRow : OpenClaim := { program := "ytlfoaefilonidaa", sum := "6b27dfd8df198c7604cd74d000064cbd52a17ee212522a96170dc5b28f9e0a84", func := "siphon/siphonlaw15.RstpSafe", spec := "rstpSafe", apart := false }
def RstpSafeSaid : Prop := rstpSafeRow.holds Try.pinned (OpenSpec.ofChange rstpSafeSpec)

/-- ITS FALSE NEIGHBOUR: 'it returns false'. Refute it at one input. -/
def rstpSafeWrong : ChangeSpec := { name := "rstpSafe", fn := fun _ => fun
  | [d1, d2, d3] => { results := [.lit (.bool false)], args := [d1, d2, d3] }
  | _ => none }
def RstpSafeWrongFalsely : Prop := rstpSafeRow.holds Try.pinned (OpenSpec.ofChange rstpSafeWrong)

/-- 'siphonlaw15.RstpScripts': WHATEVER THE INPUT: true; the input reads as it did. -/
def rstpScriptsSpec : ChangeSpec := { name := "rstpScripts", fn := fun _ => fun
  | [d1, d2, d3] => { results := [.lit (.bool true)], args := [d1, d2, d3] }
  | _ => none }
def rstpScriptsRow : OpenClaim := { program := "ytlfoaefilonidaa", sum := "6b27dfd8df198c7604cd74d000064cbd52a17ee212522a96170dc5b28f9e0a84", func := "siphon/siphonlaw15.RstpScripts", spec := "rstpScripts", apart := false }
def RstpScriptsSaid : Prop := rstpScriptsRow.holds Try.pinned (OpenSpec.ofChange rstpScriptsSpec)

/-- ITS FALSE NEIGHBOUR: 'it returns false'. Refute it at one input. -/
def rstpScriptsWrong : ChangeSpec := { name := "rstpScripts", fn := fun _ => fun
  | [d1, d2, d3] => { results := [.lit (.bool false)], args := [d1, d2, d3] }
  | _ => none }
def RstpScriptsWrongFalsely : Prop := rstpScriptsRow.holds Try.pinned (OpenSpec.ofChange rstpScriptsWrong)

/-- 'siphonlaw15.RstpNil': WHATEVER THE INPUT: true; the input reads as it did. -/
def rstpNilSpec : ChangeSpec := { name := "rstpNil", fn := fun _ => fun
  | [d] => { results := [.lit (.bool true)], args := [d] }
  | _ => none }
def rstpNilRow : OpenClaim := { program := "ytlfoaefilonidaa", sum := "6b27dfd8df198c7604cd74d000064cbd52a17ee212522a96170dc5b28f9e0a84", func := "siphon/siphonlaw15.RstpNil", spec := "rstpNil", apart := false }
def RstpNilSaid : Prop := rstpNilRow.holds Try.pinned (OpenSpec.ofChange rstpNilSpec)

/-- ITS FALSE NEIGHBOUR: 'it returns false'. Refute it at one input. -/
def rstpNilWrong : ChangeSpec := { name := "rstpNil", fn := fun _ => fun
  | [d] => { results := [.lit (.bool false)], args := [d] }
  | _ => none }
def RstpNilWrongFalsely : Prop := rstpNilRow.holds Try.pinned (OpenSpec.ofChange rstpNilWrong)

/-- 'siphonlaw15.RstpForgets': WHATEVER THE INPUT: true; the input reads as it did. -/
def rstpForgetsSpec : ChangeSpec := { name := "rstpForgets", fn := fun _ => fun
  | [d1, d2, d3] => { results := [.lit (.bool true)], args := [d1, d2, d3] }
  | _ => none }
def rstpForgetsRow : OpenClaim := { program := "ytlfoaefilonidaa", sum := "6b27dfd8df198c7604cd74d000064cbd52a17ee212522a96170dc5b28f9e0a84", func := "siphon/siphonlaw15.RstpForgets", spec := "rstpForgets", apart := false }
def RstpForgetsSaid : Prop := rstpForgetsRow.holds Try.pinned (OpenSpec.ofChange rstpForgetsSpec)

/-- ITS FALSE NEIGHBOUR: 'it returns false'. Refute it at one input. -/
def rstpForgetsWrong : ChangeSpec := { name := "rstpForgets", fn := fun _ => fun
  | [d1, d2, d3] => { results := [.lit (.bool false)], args := [d1, d2, d3] }
  | _ => none }
def RstpForgetsWrongFalsely : Prop := rstpForgetsRow.holds Try.pinned (OpenSpec.ofChange rstpForgetsWrong)

/- THE SECOND FORM. 'bulk': how many values and letters a reading holds, each counted each time it is reached (what is shared counts as often as it is met; a slice's spare places count too). A statement '..UptoSaid' is the law's where the arguments, and the package variables that the reading takes, are together of bulk at most 1048576: NARROWER than '..Said'. Prove '..Said' where nothing that the law and all that it calls make is longer than what came in: it says more and counts as full. Else prove '..UptoSaid'. A law counts once. -/
mutual
def uptoBulk {H : Type} : DataW H → Nat
  | .lit (.string bytes) => bytes.length + 1
  | .lit _ => 1
  | .nil => 1
  | .ptr d => uptoBulk d + 1
  | .slice elems spare => uptoBulkAll elems + uptoBulkAll spare + 1
  | .agg parts => uptoBulkAll parts + 1
  | .iface _ d => uptoBulk d + 1
  | .map entries => uptoBulkEntries entries + 1
  | .held _ => 1
def uptoBulkAll {H : Type} : List (DataW H) → Nat
  | [] => 0
  | d :: r => uptoBulk d + uptoBulkAll r
def uptoBulkEntries {H : Type} : List (Lit × DataW H) → Nat
  | [] => 0
  | x :: r => uptoBulkEntry x + uptoBulkEntries r
def uptoBulkEntry {H : Type} : Lit × DataW H → Nat
  | (.string bytes, d) => bytes.length + uptoBulk d + 1
  | (_, d) => uptoBulk d + 1
 end
def uptoSmall : (H : Type) → List (DataW H) → Bool := fun _ ds => decide (uptoBulkAll ds ≤ 1048576)
def OpenSpec.upto (s : _root_.Go.ChangeSpec) : _root_.Go.OpenSpec := { _root_.Go.OpenSpec.ofChange s with cond := some uptoSmall }

/-- 'siphonlaw15.RstpAlone', WHERE WHAT IT READS IS OF BULK AT MOST 1048576: true; the input reads as it did. -/
def rstpAloneUptoRow : OpenClaim := { program := "ytlfoaefilonidaa", sum := "6b27dfd8df198c7604cd74d000064cbd52a17ee212522a96170dc5b28f9e0a84", func := "siphon/siphonlaw15.RstpAlone", spec := "rstpAlone", apart := false, narrowed := true }
def RstpAloneUptoSaid : Prop := rstpAloneUptoRow.holds Try.pinned (OpenSpec.upto rstpAloneSpec)

/-- 'siphonlaw15.RstpSafe', WHERE WHAT IT READS IS OF BULK AT MOST 1048576: true; the input reads as it did. -/
def rstpSafeUptoRow : OpenClaim := { program := "ytlfoaefilonidaa", sum := "6b27dfd8df198c7604cd74d000064cbd52a17ee212522a96170dc5b28f9e0a84", func := "siphon/siphonlaw15.RstpSafe", spec := "rstpSafe", apart := false, narrowed := true }
def RstpSafeUptoSaid : Prop := rstpSafeUptoRow.holds Try.pinned (OpenSpec.upto rstpSafeSpec)

/-- 'siphonlaw15.RstpScripts', WHERE WHAT IT READS IS OF BULK AT MOST 1048576: true; the input reads as it did. -/
def rstpScriptsUptoRow : OpenClaim := { program := "ytlfoaefilonidaa", sum := "6b27dfd8df198c7604cd74d000064cbd52a17ee212522a96170dc5b28f9e0a84", func := "siphon/siphonlaw15.RstpScripts", spec := "rstpScripts", apart := false, narrowed := true }
def RstpScriptsUptoSaid : Prop := rstpScriptsUptoRow.holds Try.pinned (OpenSpec.upto rstpScriptsSpec)

/-- 'siphonlaw15.RstpNil', WHERE WHAT IT READS IS OF BULK AT MOST 1048576: true; the input reads as it did. -/
def rstpNilUptoRow : OpenClaim := { program := "ytlfoaefilonidaa", sum := "6b27dfd8df198c7604cd74d000064cbd52a17ee212522a96170dc5b28f9e0a84", func := "siphon/siphonlaw15.RstpNil", spec := "rstpNil", apart := false, narrowed := true }
def RstpNilUptoSaid : Prop := rstpNilUptoRow.holds Try.pinned (OpenSpec.upto rstpNilSpec)

/-- 'siphonlaw15.RstpForgets', WHERE WHAT IT READS IS OF BULK AT MOST 1048576: true; the input reads as it did. -/
def rstpForgetsUptoRow : OpenClaim := { program := "ytlfoaefilonidaa", sum := "6b27dfd8df198c7604cd74d000064cbd52a17ee212522a96170dc5b28f9e0a84", func := "siphon/siphonlaw15.RstpForgets", spec := "rstpForgets", apart := false, narrowed := true }
def RstpForgetsUptoSaid : Prop := rstpForgetsUptoRow.holds Try.pinned (OpenSpec.upto rstpForgetsSpec)

end Rows
end Go.Proofs.Ytlfoaefilonidaa
