/-
  No cell of these rows narrows 'for every input' (looked for: loops, veiled, ifaces, maps, wideKeys, modest, calm, conditions, laid).
  DERIVED. THE GIVEN ROWS OF THIS SEAT. 6 by the template 'for every input the law returns true; each argument reads behind the call as it read before'; 0 by the template 'total and deterministic' (their statements: YtjklleoeganmhaaTotals.lean).
  GIVEN WITH THE SEED: the statements are not yours to turn. If you find one false, say at which input.
  Laid BY PROGRAM, IN A SANDBOX (cutbox-rows.mjs): the forced cells as the released guide's own fill.sh prints them over the translation 5f777c3cb8448570… (all of the seat's roots in one cut). By AI agents, Wed Nov 11 2026. No macro, syntax, notation, axiom, sorry.
-/
import Derived.Test.YtjklleoeganmhaaChecked
import GoSem.Claim
import GoSem.ClaimJoined
import GoSem.ClaimMapViews
import Derived.JoinedTies
import Derived.KernelRfl
namespace Go.Proofs.Ytjklleoeganmhaa
/- THE CELL 'sum', in the pinned program and in every row, IS THE sha256 OF THE DUMP (.gsa) THAT YtjklleoeganmhaaProg.lean LOADS. Nothing in Lean hashes anything: it is a label: what it is worth is what the hold of that sum in a sandbox is worth. -/
noncomputable def Try.pinned : Pinned := { name := "ytjklleoeganmhaa", sum := "5f777c3cb8448570de1c835a6439f64061ff98d072718b43b0fbee6f778dde6e", checked := Try.checked }
namespace Rows
def none {H : Type} : Left H := { results := [], args := [] }

/-- 'siphonlaw14.PrioCompares': WHATEVER THE INPUT: true; the input reads as it did. -/
def prioComparesSpec : ChangeSpec := { name := "prioCompares", fn := fun _ => fun
  | [d1, d2] => { results := [.lit (.bool true)], args := [d1, d2] }
  | _ => none }
def prioComparesRow : OpenClaim := { program := "ytjklleoeganmhaa", sum := "5f777c3cb8448570de1c835a6439f64061ff98d072718b43b0fbee6f778dde6e", func := "siphon/siphonlaw14.PrioCompares", spec := "prioCompares", apart := false }
def PrioComparesSaid : Prop := prioComparesRow.holds Try.pinned (OpenSpec.ofChange prioComparesSpec)

/-- ITS FALSE NEIGHBOUR: 'it returns false'. Refute it at one input. -/
def prioComparesWrong : ChangeSpec := { name := "prioCompares", fn := fun _ => fun
  | [d1, d2] => { results := [.lit (.bool false)], args := [d1, d2] }
  | _ => none }
def PrioComparesWrongFalsely : Prop := prioComparesRow.holds Try.pinned (OpenSpec.ofChange prioComparesWrong)

/-- 'siphonlaw14.PrioThrough': WHATEVER THE INPUT: true; the input reads as it did. -/
def prioThroughSpec : ChangeSpec := { name := "prioThrough", fn := fun _ => fun
  | [d1, d2] => { results := [.lit (.bool true)], args := [d1, d2] }
  | _ => none }
def prioThroughRow : OpenClaim := { program := "ytjklleoeganmhaa", sum := "5f777c3cb8448570de1c835a6439f64061ff98d072718b43b0fbee6f778dde6e", func := "siphon/siphonlaw14.PrioThrough", spec := "prioThrough", apart := false }
def PrioThroughSaid : Prop := prioThroughRow.holds Try.pinned (OpenSpec.ofChange prioThroughSpec)

/-- ITS FALSE NEIGHBOUR: 'it returns false'. Refute it at one input. -/
def prioThroughWrong : ChangeSpec := { name := "prioThrough", fn := fun _ => fun
  | [d1, d2] => { results := [.lit (.bool false)], args := [d1, d2] }
  | _ => none }
def PrioThroughWrongFalsely : Prop := prioThroughRow.holds Try.pinned (OpenSpec.ofChange prioThroughWrong)

/-- 'siphonlaw14.PrioRoles': WHATEVER THE INPUT: true; the input reads as it did. -/
def prioRolesSpec : ChangeSpec := { name := "prioRoles", fn := fun _ => fun
  | [d1, d2] => { results := [.lit (.bool true)], args := [d1, d2] }
  | _ => none }
def prioRolesRow : OpenClaim := { program := "ytjklleoeganmhaa", sum := "5f777c3cb8448570de1c835a6439f64061ff98d072718b43b0fbee6f778dde6e", func := "siphon/siphonlaw14.PrioRoles", spec := "prioRoles", apart := false }
def PrioRolesSaid : Prop := prioRolesRow.holds Try.pinned (OpenSpec.ofChange prioRolesSpec)

/-- ITS FALSE NEIGHBOUR: 'it returns false'. Refute it at one input. -/
def prioRolesWrong : ChangeSpec := { name := "prioRoles", fn := fun _ => fun
  | [d1, d2] => { results := [.lit (.bool false)], args := [d1, d2] }
  | _ => none }
def PrioRolesWrongFalsely : Prop := prioRolesRow.holds Try.pinned (OpenSpec.ofChange prioRolesWrong)

/-- 'siphonlaw14.PrioOrder': WHATEVER THE INPUT: true; the input reads as it did. -/
def prioOrderSpec : ChangeSpec := { name := "prioOrder", fn := fun _ => fun
  | [d1, d2, d3] => { results := [.lit (.bool true)], args := [d1, d2, d3] }
  | _ => none }
def prioOrderRow : OpenClaim := { program := "ytjklleoeganmhaa", sum := "5f777c3cb8448570de1c835a6439f64061ff98d072718b43b0fbee6f778dde6e", func := "siphon/siphonlaw14.PrioOrder", spec := "prioOrder", apart := false }
def PrioOrderSaid : Prop := prioOrderRow.holds Try.pinned (OpenSpec.ofChange prioOrderSpec)

/-- ITS FALSE NEIGHBOUR: 'it returns false'. Refute it at one input. -/
def prioOrderWrong : ChangeSpec := { name := "prioOrder", fn := fun _ => fun
  | [d1, d2, d3] => { results := [.lit (.bool false)], args := [d1, d2, d3] }
  | _ => none }
def PrioOrderWrongFalsely : Prop := prioOrderRow.holds Try.pinned (OpenSpec.ofChange prioOrderWrong)

/-- 'siphonlaw14.PrioOne': WHATEVER THE INPUT: true; the input reads as it did. -/
def prioOneSpec : ChangeSpec := { name := "prioOne", fn := fun _ => fun
  | [d1, d2] => { results := [.lit (.bool true)], args := [d1, d2] }
  | _ => none }
def prioOneRow : OpenClaim := { program := "ytjklleoeganmhaa", sum := "5f777c3cb8448570de1c835a6439f64061ff98d072718b43b0fbee6f778dde6e", func := "siphon/siphonlaw14.PrioOne", spec := "prioOne", apart := false }
def PrioOneSaid : Prop := prioOneRow.holds Try.pinned (OpenSpec.ofChange prioOneSpec)

/-- ITS FALSE NEIGHBOUR: 'it returns false'. Refute it at one input. -/
def prioOneWrong : ChangeSpec := { name := "prioOne", fn := fun _ => fun
  | [d1, d2] => { results := [.lit (.bool false)], args := [d1, d2] }
  | _ => none }
def PrioOneWrongFalsely : Prop := prioOneRow.holds Try.pinned (OpenSpec.ofChange prioOneWrong)

/-- 'siphonlaw14.PrioRises': WHATEVER THE INPUT: true; the input reads as it did. -/
def prioRisesSpec : ChangeSpec := { name := "prioRises", fn := fun _ => fun
  | [d1, d2, d3] => { results := [.lit (.bool true)], args := [d1, d2, d3] }
  | _ => none }
def prioRisesRow : OpenClaim := { program := "ytjklleoeganmhaa", sum := "5f777c3cb8448570de1c835a6439f64061ff98d072718b43b0fbee6f778dde6e", func := "siphon/siphonlaw14.PrioRises", spec := "prioRises", apart := false }
def PrioRisesSaid : Prop := prioRisesRow.holds Try.pinned (OpenSpec.ofChange prioRisesSpec)

/-- ITS FALSE NEIGHBOUR: 'it returns false'. Refute it at one input. -/
def prioRisesWrong : ChangeSpec := { name := "prioRises", fn := fun _ => fun
  | [d1, d2, d3] => { results := [.lit (.bool false)], args := [d1, d2, d3] }
  | _ => none }
def PrioRisesWrongFalsely : Prop := prioRisesRow.holds Try.pinned (OpenSpec.ofChange prioRisesWrong)

/- THE SECOND FORM. 'bulk': how many values and letters a reading holds, each counted each time it is reached (what is shared counts as often as it is met; a slice's spare places count too). A statement '..UptoSaid' is the law's where the arguments, and the package variables that the reading takes, are together of bulk at most 1048576: NARROWER than '..Said'. Prove '..Said' where nothing that the law and all that it calls make is longer than what came in: it says more and counts as full. Else prove '..UptoSaid'. A law counts once. -/
mutual
def uptoBulk {H : Type} : DataW H → Nat
  | .lit (.string bytes) => bytes.length + 1
  | .lit _ => 1
  | .nil => 1
  | .ptr d => uptoBulk d + 1
  | .slice elems spare => uptoBulkAll elems + uptoBulkAll spare + 1
  | .agg parts => uptoBulkAll parts + 1
  | .iface _ d => uptoBulk d + 1
  | .map entries => uptoBulkEntries entries + 1
  | .held _ => 1
def uptoBulkAll {H : Type} : List (DataW H) → Nat
  | [] => 0
  | d :: r => uptoBulk d + uptoBulkAll r
def uptoBulkEntries {H : Type} : List (Lit × DataW H) → Nat
  | [] => 0
  | x :: r => uptoBulkEntry x + uptoBulkEntries r
def uptoBulkEntry {H : Type} : Lit × DataW H → Nat
  | (.string bytes, d) => bytes.length + uptoBulk d + 1
  | (_, d) => uptoBulk d + 1
 end
def uptoSmall : (H : Type) → List (DataW H) → Bool := fun _ ds => decide (uptoBulkAll ds ≤ 1048576)
def OpenSpec.upto (s : _root_.Go.ChangeSpec) : _root_.Go.OpenSpec := { _root_.Go.OpenSpec.ofChange s with cond := some uptoSmall }

/-- 'siphonlaw14.PrioCompares', WHERE WHAT IT READS IS OF BULK AT MOST 1048576: true; the input reads as it did. -/
def prioComparesUptoRow : OpenClaim := { program := "ytjklleoeganmhaa", sum := "5f777c3cb8448570de1c835a6439f64061ff98d072718b43b0fbee6f778dde6e", func := "siphon/siphonlaw14.PrioCompares", spec := "prioCompares", apart := false, narrowed := true }
def PrioComparesUptoSaid : Prop := prioComparesUptoRow.holds Try.pinned (OpenSpec.upto prioComparesSpec)

/-- 'siphonlaw14.PrioThrough', WHERE WHAT IT READS IS OF BULK AT MOST 1048576: true; the input reads as it did. -/
def prioThroughUptoRow : OpenClaim := { program := "ytjklleoeganmhaa", sum := "5f777c3cb8448570de1c835a6439f64061ff98d072718b43b0fbee6f778dde6e", func := "siphon/siphonlaw14.PrioThrough", spec := "prioThrough", apart := false, narrowed := true }
def PrioThroughUptoSaid : Prop := prioThroughUptoRow.holds Try.pinned (OpenSpec.upto prioThroughSpec)

/-- 'siphonlaw14.PrioRoles', WHERE WHAT IT READS IS OF BULK AT MOST 1048576: true; the input reads as it did. -/
def prioRolesUptoRow : OpenClaim := { program := "ytjklleoeganmhaa", sum := "5f777c3cb8448570de1c835a6439f64061ff98d072718b43b0fbee6f778dde6e", func := "siphon/siphonlaw14.PrioRoles", spec := "prioRoles", apart := false, narrowed := true }
def PrioRolesUptoSaid : Prop := prioRolesUptoRow.holds Try.pinned (OpenSpec.upto prioRolesSpec)

/-- 'siphonlaw14.PrioOrder', WHERE WHAT IT READS IS OF BULK AT MOST 1048576: true; the input reads as it did. -/
def prioOrderUptoRow : OpenClaim := { program := "ytjklleoeganmhaa", sum := "5f777c3cb8448570de1c835a6439f64061ff98d072718b43b0fbee6f778dde6e", func := "siphon/siphonlaw14.PrioOrder", spec := "prioOrder", apart := false, narrowed := true }
def PrioOrderUptoSaid : Prop := prioOrderUptoRow.holds Try.pinned (OpenSpec.upto prioOrderSpec)

/-- 'siphonlaw14.PrioOne', WHERE WHAT IT READS IS OF BULK AT MOST 1048576: true; the input reads as it did. -/
def prioOneUptoRow : OpenClaim := { program := "ytjklleoeganmhaa", sum := "5f777c3cb8448570de1c835a6439f64061ff98d072718b43b0fbee6f778dde6e", func := "siphon/siphonlaw14.PrioOne", spec := "prioOne", apart := false, narrowed := true }
def PrioOneUptoSaid : Prop := prioOneUptoRow.holds Try.pinned (OpenSpec.upto prioOneSpec)

/-- 'siphonlaw14.PrioRises', WHERE WHAT IT READS IS OF BULK AT MOST 1048576: true; the input reads as it did. -/
def prioRisesUptoRow : OpenClaim := { program := "ytjklleoeganmhaa", sum := "5f777c3cb8448570de1c835a6439f64061ff98d072718b43b0fbee6f778dde6e", func := "siphon/siphonlaw14.PrioRises", spec := "prioRises", apart := false, narrowed := true }
def PrioRisesUptoSaid : Prop := prioRisesUptoRow.holds Try.pinned (OpenSpec.upto prioRisesSpec)

end Rows
end Go.Proofs.Ytjklleoeganmhaa
