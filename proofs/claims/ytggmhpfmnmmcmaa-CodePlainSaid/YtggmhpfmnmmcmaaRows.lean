/-
  No cell of these rows narrows 'for every input' (looked for: loops, veiled, ifaces, maps, wideKeys, modest, calm, conditions, laid).
  DERIVED. THE GIVEN ROWS OF THIS SEAT. 6 by the template 'for every input the law returns true; each argument reads behind the call as it read before'; 0 by the template 'total and deterministic' (their statements: YtggmhpfmnmmcmaaTotals.lean).
  GIVEN WITH THE SEED: the statements are not yours to turn. If you find one false, say at which input.
  Laid BY PROGRAM, IN A SANDBOX (cutbox-rows.mjs): the forced cells as the released guide's own fill.sh prints them over the translation 0a9ed313a0234aee… (all of the seat's roots in one cut). By AI agents, Wed Nov 11 2026. No macro, syntax, notation, axiom, sorry.
-/
import Derived.Test.YtggmhpfmnmmcmaaChecked
import GoSem.Claim
import GoSem.ClaimJoined
import GoSem.ClaimMapViews
import Derived.JoinedTies
import Derived.KernelRfl
namespace Go.Proofs.Ytggmhpfmnmmcmaa
/- THE CELL 'sum', in the pinned program and in every row, IS THE sha256 OF THE DUMP (.gsa) THAT YtggmhpfmnmmcmaaProg.lean LOADS. Nothing in Lean hashes anything: it is a label: what it is worth is what the hold of that sum in a sandbox is worth. -/
noncomputable def Try.pinned : Pinned := { name := "ytggmhpfmnmmcmaa", sum := "0a9ed313a0234aeee708e06f787feb98e716bc1de1a362ed1cbb4adcaad26577", checked := Try.checked }
namespace Rows
def none {H : Type} : Left H := { results := [], args := [] }

/-- 'siphonlaw07.CodeDecs': WHATEVER THE INPUT: true; the input reads as it did. -/
def codeDecsSpec : ChangeSpec := { name := "codeDecs", fn := fun _ => fun
  | [d] => { results := [.lit (.bool true)], args := [d] }
  | _ => none }
def codeDecsRow : OpenClaim := { program := "ytggmhpfmnmmcmaa", sum := "0a9ed313a0234aeee708e06f787feb98e716bc1de1a362ed1cbb4adcaad26577", func := "siphon/siphonlaw07.CodeDecs", spec := "codeDecs", apart := false }
def CodeDecsSaid : Prop := codeDecsRow.holds Try.pinned (OpenSpec.ofChange codeDecsSpec)

/-- ITS FALSE NEIGHBOUR: 'it returns false'. Refute it at one input. -/
def codeDecsWrong : ChangeSpec := { name := "codeDecs", fn := fun _ => fun
  | [d] => { results := [.lit (.bool false)], args := [d] }
  | _ => none }
def CodeDecsWrongFalsely : Prop := codeDecsRow.holds Try.pinned (OpenSpec.ofChange codeDecsWrong)

/-- 'siphonlaw07.CodeEncs': WHATEVER THE INPUT: true; the input reads as it did. -/
def codeEncsSpec : ChangeSpec := { name := "codeEncs", fn := fun _ => fun
  | [d] => { results := [.lit (.bool true)], args := [d] }
  | _ => none }
def codeEncsRow : OpenClaim := { program := "ytggmhpfmnmmcmaa", sum := "0a9ed313a0234aeee708e06f787feb98e716bc1de1a362ed1cbb4adcaad26577", func := "siphon/siphonlaw07.CodeEncs", spec := "codeEncs", apart := false }
def CodeEncsSaid : Prop := codeEncsRow.holds Try.pinned (OpenSpec.ofChange codeEncsSpec)

/-- ITS FALSE NEIGHBOUR: 'it returns false'. Refute it at one input. -/
def codeEncsWrong : ChangeSpec := { name := "codeEncs", fn := fun _ => fun
  | [d] => { results := [.lit (.bool false)], args := [d] }
  | _ => none }
def CodeEncsWrongFalsely : Prop := codeEncsRow.holds Try.pinned (OpenSpec.ofChange codeEncsWrong)

/-- 'siphonlaw07.CodeBack': WHATEVER THE INPUT: true; the input reads as it did. -/
def codeBackSpec : ChangeSpec := { name := "codeBack", fn := fun _ => fun
  | [d] => { results := [.lit (.bool true)], args := [d] }
  | _ => none }
def codeBackRow : OpenClaim := { program := "ytggmhpfmnmmcmaa", sum := "0a9ed313a0234aeee708e06f787feb98e716bc1de1a362ed1cbb4adcaad26577", func := "siphon/siphonlaw07.CodeBack", spec := "codeBack", apart := false }
def CodeBackSaid : Prop := codeBackRow.holds Try.pinned (OpenSpec.ofChange codeBackSpec)

/-- ITS FALSE NEIGHBOUR: 'it returns false'. Refute it at one input. -/
def codeBackWrong : ChangeSpec := { name := "codeBack", fn := fun _ => fun
  | [d] => { results := [.lit (.bool false)], args := [d] }
  | _ => none }
def CodeBackWrongFalsely : Prop := codeBackRow.holds Try.pinned (OpenSpec.ofChange codeBackWrong)

/-- 'siphonlaw07.CodeRises': WHATEVER THE INPUT: true; the input reads as it did. -/
def codeRisesSpec : ChangeSpec := { name := "codeRises", fn := fun _ => fun
  | [d] => { results := [.lit (.bool true)], args := [d] }
  | _ => none }
def codeRisesRow : OpenClaim := { program := "ytggmhpfmnmmcmaa", sum := "0a9ed313a0234aeee708e06f787feb98e716bc1de1a362ed1cbb4adcaad26577", func := "siphon/siphonlaw07.CodeRises", spec := "codeRises", apart := false }
def CodeRisesSaid : Prop := codeRisesRow.holds Try.pinned (OpenSpec.ofChange codeRisesSpec)

/-- ITS FALSE NEIGHBOUR: 'it returns false'. Refute it at one input. -/
def codeRisesWrong : ChangeSpec := { name := "codeRises", fn := fun _ => fun
  | [d] => { results := [.lit (.bool false)], args := [d] }
  | _ => none }
def CodeRisesWrongFalsely : Prop := codeRisesRow.holds Try.pinned (OpenSpec.ofChange codeRisesWrong)

/-- 'siphonlaw07.CodeNear': WHATEVER THE INPUT: true; the input reads as it did. -/
def codeNearSpec : ChangeSpec := { name := "codeNear", fn := fun _ => fun
  | [d] => { results := [.lit (.bool true)], args := [d] }
  | _ => none }
def codeNearRow : OpenClaim := { program := "ytggmhpfmnmmcmaa", sum := "0a9ed313a0234aeee708e06f787feb98e716bc1de1a362ed1cbb4adcaad26577", func := "siphon/siphonlaw07.CodeNear", spec := "codeNear", apart := false }
def CodeNearSaid : Prop := codeNearRow.holds Try.pinned (OpenSpec.ofChange codeNearSpec)

/-- ITS FALSE NEIGHBOUR: 'it returns false'. Refute it at one input. -/
def codeNearWrong : ChangeSpec := { name := "codeNear", fn := fun _ => fun
  | [d] => { results := [.lit (.bool false)], args := [d] }
  | _ => none }
def CodeNearWrongFalsely : Prop := codeNearRow.holds Try.pinned (OpenSpec.ofChange codeNearWrong)

/-- 'siphonlaw07.CodePlain': WHATEVER THE INPUT: true; the input reads as it did. -/
def codePlainSpec : ChangeSpec := { name := "codePlain", fn := fun _ => fun
  | [d] => { results := [.lit (.bool true)], args := [d] }
  | _ => none }
def codePlainRow : OpenClaim := { program := "ytggmhpfmnmmcmaa", sum := "0a9ed313a0234aeee708e06f787feb98e716bc1de1a362ed1cbb4adcaad26577", func := "siphon/siphonlaw07.CodePlain", spec := "codePlain", apart := false }
def CodePlainSaid : Prop := codePlainRow.holds Try.pinned (OpenSpec.ofChange codePlainSpec)

/-- ITS FALSE NEIGHBOUR: 'it returns false'. Refute it at one input. -/
def codePlainWrong : ChangeSpec := { name := "codePlain", fn := fun _ => fun
  | [d] => { results := [.lit (.bool false)], args := [d] }
  | _ => none }
def CodePlainWrongFalsely : Prop := codePlainRow.holds Try.pinned (OpenSpec.ofChange codePlainWrong)

/- THE SECOND FORM. 'bulk': how many values and letters a reading holds, each counted each time it is reached (what is shared counts as often as it is met; a slice's spare places count too). A statement '..UptoSaid' is the law's where the arguments, and the package variables that the reading takes, are together of bulk at most 1048576: NARROWER than '..Said'. Prove '..Said' where nothing that the law and all that it calls make is longer than what came in: it says more and counts as full. Else prove '..UptoSaid'. A law counts once. -/
mutual
def uptoBulk {H : Type} : DataW H → Nat
  | .lit (.string bytes) => bytes.length + 1
  | .lit _ => 1
  | .nil => 1
  | .ptr d => uptoBulk d + 1
  | .slice elems spare => uptoBulkAll elems + uptoBulkAll spare + 1
  | .agg parts => uptoBulkAll parts + 1
  | .iface _ d => uptoBulk d + 1
  | .map entries => uptoBulkEntries entries + 1
  | .held _ => 1
def uptoBulkAll {H : Type} : List (DataW H) → Nat
  | [] => 0
  | d :: r => uptoBulk d + uptoBulkAll r
def uptoBulkEntries {H : Type} : List (Lit × DataW H) → Nat
  | [] => 0
  | x :: r => uptoBulkEntry x + uptoBulkEntries r
def uptoBulkEntry {H : Type} : Lit × DataW H → Nat
  | (.string bytes, d) => bytes.length + uptoBulk d + 1
  | (_, d) => uptoBulk d + 1
 end
def uptoSmall : (H : Type) → List (DataW H) → Bool := fun _ ds => decide (uptoBulkAll ds ≤ 1048576)
def OpenSpec.upto (s : _root_.Go.ChangeSpec) : _root_.Go.OpenSpec := { _root_.Go.OpenSpec.ofChange s with cond := some uptoSmall }

/-- 'siphonlaw07.CodeDecs', WHERE WHAT IT READS IS OF BULK AT MOST 1048576: true; the input reads as it did. -/
def codeDecsUptoRow : OpenClaim := { program := "ytggmhpfmnmmcmaa", sum := "0a9ed313a0234aeee708e06f787feb98e716bc1de1a362ed1cbb4adcaad26577", func := "siphon/siphonlaw07.CodeDecs", spec := "codeDecs", apart := false, narrowed := true }
def CodeDecsUptoSaid : Prop := codeDecsUptoRow.holds Try.pinned (OpenSpec.upto codeDecsSpec)

/-- 'siphonlaw07.CodeEncs', WHERE WHAT IT READS IS OF BULK AT MOST 1048576: true; the input reads as it did. -/
def codeEncsUptoRow : OpenClaim := { program := "ytggmhpfmnmmcmaa", sum := "0a9ed313a0234aeee708e06f787feb98e716bc1de1a362ed1cbb4adcaad26577", func := "siphon/siphonlaw07.CodeEncs", spec := "codeEncs", apart := false, narrowed := true }
def CodeEncsUptoSaid : Prop := codeEncsUptoRow.holds Try.pinned (OpenSpec.upto codeEncsSpec)

/-- 'siphonlaw07.CodeBack', WHERE WHAT IT READS IS OF BULK AT MOST 1048576: true; the input reads as it did. -/
def codeBackUptoRow : OpenClaim := { program := "ytggmhpfmnmmcmaa", sum := "0a9ed313a0234aeee708e06f787feb98e716bc1de1a362ed1cbb4adcaad26577", func := "siphon/siphonlaw07.CodeBack", spec := "codeBack", apart := false, narrowed := true }
def CodeBackUptoSaid : Prop := codeBackUptoRow.holds Try.pinned (OpenSpec.upto codeBackSpec)

/-- 'siphonlaw07.CodeRises', WHERE WHAT IT READS IS OF BULK AT MOST 1048576: true; the input reads as it did. -/
def codeRisesUptoRow : OpenClaim := { program := "ytggmhpfmnmmcmaa", sum := "0a9ed313a0234aeee708e06f787feb98e716bc1de1a362ed1cbb4adcaad26577", func := "siphon/siphonlaw07.CodeRises", spec := "codeRises", apart := false, narrowed := true }
def CodeRisesUptoSaid : Prop := codeRisesUptoRow.holds Try.pinned (OpenSpec.upto codeRisesSpec)

/-- 'siphonlaw07.CodeNear', WHERE WHAT IT READS IS OF BULK AT MOST 1048576: true; the input reads as it did. -/
def codeNearUptoRow : OpenClaim := { program := "ytggmhpfmnmmcmaa", sum := "0a9ed313a0234aeee708e06f787feb98e716bc1de1a362ed1cbb4adcaad26577", func := "siphon/siphonlaw07.CodeNear", spec := "codeNear", apart := false, narrowed := true }
def CodeNearUptoSaid : Prop := codeNearUptoRow.holds Try.pinned (OpenSpec.upto codeNearSpec)

/-- 'siphonlaw07.CodePlain', WHERE WHAT IT READS IS OF BULK AT MOST 1048576: true; the input reads as it did. -/
def codePlainUptoRow : OpenClaim := { program := "ytggmhpfmnmmcmaa", sum := "0a9ed313a0234aeee708e06f787feb98e716bc1de1a362ed1cbb4adcaad26577", func := "siphon/siphonlaw07.CodePlain", spec := "codePlain", apart := false, narrowed := true }
def CodePlainUptoSaid : Prop := codePlainUptoRow.holds Try.pinned (OpenSpec.upto codePlainSpec)

end Rows
end Go.Proofs.Ytggmhpfmnmmcmaa
