/-
  What a part tells at a tick: the plain model.
-/
import Derived.Test.YtlfoaefilonidaaRstpMath
namespace Go.Proofs.Ytlfoaefilonidaa.Rstp
set_option linter.unusedVariables false
set_option linter.unusedSimpArgs false
open Go.Proofs.Ytlfoaefilonidaa.Prio
structure Ou where
  port : Int
  b : Bp
def ageT (t : Tr) : Int := if t.root = -1 then 0 else match t.ps[t.root.toNat]? with
  | some p => p.age + 1
  | none => 0
def changesT (t : Tr) : Bool := (t.change != -1) && decide (t.now - t.change < 4)
def outP (t : Tr) (i : Nat) (p : Pt) : Ou := ⟨i, ⟨⟨t.best.root, t.best.cost, t.bridge, i⟩, ageT t, changesT t, learnsP t.now p, p.fwd⟩⟩
def outsTo (t : Tr) : Nat → List Ou
  | 0 => []
  | k + 1 => match t.ps[k]? with
    | some p => if p.role = 2 then outsTo t k ++ [outP t k p] else outsTo t k
    | none => outsTo t k
theorem outsTo_yes {t : Tr} {k : Nat} {p : Pt} (h : t.ps[k]? = some p) (hr : p.role = 2) : outsTo t (k + 1) = outsTo t k ++ [outP t k p] := by simp [outsTo, h, hr]
theorem outsTo_no {t : Tr} {k : Nat} {p : Pt} (h : t.ps[k]? = some p) (hr : ¬ p.role = 2) : outsTo t (k + 1) = outsTo t k := by simp [outsTo, h, hr]
theorem outsTo_le (t : Tr) : ∀ k, (outsTo t k).length ≤ k
  | 0 => Nat.le_refl _
  | k + 1 => by
    have := outsTo_le t k
    unfold outsTo
    split
    · split
      · simp; omega
      · omega
    · omega
def silent (t : Tr) (now : Int) : Bool := (now % 2 == 1) || decide (20 ≤ ageT t)
def outsT (t : Tr) (now : Int) : List Ou := if silent t now = true then [] else outsTo t t.ps.length
theorem bestTo_is (b : Int) (l : List Heard) : ∀ k, k ≤ l.length → (bestTo b l k).1 = -1 ∨ ∃ i : Nat, (bestTo b l k).1 = i ∧ i < k ∧ ∃ h, l[i]? = some h ∧ h.is = true
  | 0, _ => .inl rfl
  | k + 1, hk => by
    have hg : l[k]? = some l[k] := List.getElem?_eq_getElem (by omega)
    cases hb : better b (bestTo b l k).2 l[k] with
    | true =>
      rw [bestTo_yes hg hb]
      exact .inr ⟨k, rfl, by omega, l[k], hg, ((better_iff _ _ _).1 hb).1⟩
    | false =>
      rw [bestTo_no hg hb]
      rcases bestTo_is b l k (by omega) with h | ⟨i, h1, h2, h3⟩
      · exact .inl h
      · exact .inr ⟨i, h1, by omega, h3⟩
/-- the Root port of a part that is set right is there, and its message is not old -/
theorem root_ok (t : Tr) : (settleT t).root = -1 ∨ ∃ (i : Nat) (p : Pt), (settleT t).root = i ∧ (settleT t).ps[i]? = some p ∧ p.age < 20 ∧ p.up = true := by
  rcases bestTo_is t.bridge (heardT t) (heardT t).length (Nat.le_refl _) with h | ⟨i, h1, h2, x, h3, h4⟩
  · exact .inl h
  · rw [heardT, List.getElem?_map] at h3
    obtain ⟨q, hq, rfl⟩ := Option.map_eq_some_iff.1 h3
    have hq' := hq
    rw [dropped, List.getElem?_map] at hq'
    obtain ⟨p, hp, rfl⟩ := Option.map_eq_some_iff.1 hq'
    refine .inr ⟨i, stepP t.now ((rolesT t).getD i 0) (dropP t.now p), h1, ?_, ?_, ?_⟩
    · simp only [settleT, List.getElem?_mapIdx, hq, Option.map_some]
      rfl
    · simp [heardP, dropP] at h4
      exact h4.2.2.2
    · simp [heardP, dropP] at h4
      exact h4.1
end Go.Proofs.Ytlfoaefilonidaa.Rstp
