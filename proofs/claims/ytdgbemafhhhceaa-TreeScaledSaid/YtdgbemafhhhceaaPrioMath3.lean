/-
  Plain laws of priorities: the best of a list and the roles; what PrioOne asks of them.
-/
import Derived.Test.YtdgbemafhhhceaaPrioMath2
namespace Go.Proofs.Ytdgbemafhhhceaa.Prio
set_option linter.unusedVariables false
set_option linter.unusedSimpArgs false
theorem cmpV_le_lt_trans (a b c : Vec) (h : cmpV a b ≤ 0) (k : cmpV b c < 0) : cmpV a c < 0 := by
  rw [cmpV_lt_iff] at *
  rw [cmpV_le_iff] at h
  omega
theorem cmpV_lt_le_trans (a b c : Vec) (h : cmpV a b < 0) (k : cmpV b c ≤ 0) : cmpV a c < 0 := by
  rw [cmpV_lt_iff] at *
  rw [cmpV_le_iff] at k
  omega
theorem better_iff (b : Int) (best : Vec) (h : Heard) : better b best h = true ↔ h.is = true ∧ h.v.bridge ≠ b ∧ te h.v h.cost = 0 ∧ cmpV (tv h.v h.cost) best < 0 := by
  simp [better]
theorem bestTo_inv (b : Int) (l : List Heard) : ∀ k, k ≤ l.length →
    ((bestTo b l k).1 = -1 ∧ (bestTo b l k).2 = own b ∨ 0 ≤ (bestTo b l k).1 ∧ (bestTo b l k).1 < k ∧ cmpV (bestTo b l k).2 (own b) < 0) ∧
    ∀ j h, j < k → l[j]? = some h → h.is = true → h.v.bridge ≠ b → te h.v h.cost = 0 → ¬ cmpV (tv h.v h.cost) (bestTo b l k).2 < 0
  | 0, _ => ⟨.inl ⟨rfl, rfl⟩, fun j h hj => by omega⟩
  | k + 1, hk => by
    obtain ⟨h1, h2⟩ := bestTo_inv b l k (by omega)
    have hg : l[k]? = some l[k] := List.getElem?_eq_getElem (by omega)
    cases hb : better b (bestTo b l k).2 l[k] with
    | true =>
      rw [bestTo_yes hg hb]
      rw [better_iff] at hb
      refine ⟨.inr ⟨by simp, by simp; omega, ?_⟩, fun j h hj hl hi hbr hte hlt => ?_⟩
      · rcases h1 with ⟨_, e⟩ | ⟨_, _, e⟩
        · rw [← e]; exact hb.2.2.2
        · exact cmpV_lt_trans _ _ _ hb.2.2.2 e
      · by_cases hjk : j = k
        · subst hjk
          rw [hg] at hl
          injection hl with hl
          subst hl
          simp only at hlt
          rw [cmpV_self] at hlt
          omega
        · exact h2 j h (by omega) hl hi hbr hte (cmpV_lt_trans _ _ _ hlt hb.2.2.2)
    | false =>
      rw [bestTo_no hg hb]
      refine ⟨?_, fun j h hj hl hi hbr hte hlt => ?_⟩
      · rcases h1 with e | ⟨e1, e2, e3⟩
        · exact .inl e
        · exact .inr ⟨e1, by omega, e3⟩
      · by_cases hjk : j = k
        · subst hjk
          rw [hg] at hl
          injection hl with hl
          subst hl
          have := (better_iff b (bestTo b l j).2 l[j]).2 ⟨hi, hbr, hte, hlt⟩
          rw [hb] at this
          cases this
        · exact h2 j h (by omega) hl hi hbr hte hlt
theorem bestOf_cases (b : Int) (l : List Heard) : (bestOf b l).1 = -1 ∧ (bestOf b l).2 = own b ∨ 0 ≤ (bestOf b l).1 ∧ (bestOf b l).1 < l.length ∧ cmpV (bestOf b l).2 (own b) < 0 :=
  (bestTo_inv b l l.length (Nat.le_refl _)).1
theorem bestOf_least {b : Int} {l : List Heard} {j : Nat} {h : Heard} (hl : l[j]? = some h) (h1 : h.is = true) (h2 : h.v.bridge ≠ b) (h3 : te h.v h.cost = 0) : ¬ cmpV (tv h.v h.cost) (bestOf b l).2 < 0 := by
  have hj : j < l.length := by
    rcases Nat.lt_or_ge j l.length with h | h
    · exact h
    · rw [List.getElem?_eq_none h] at hl; cases hl
  exact (bestTo_inv b l l.length (Nat.le_refl _)).2 j h hj hl h1 h2 h3
theorem rolesTo_at (b : Int) (st : Int × Vec) (l : List Heard) (j : Nat) (h : Heard) (hl : l[j]? = some h) : ∀ k, k ≤ l.length → j < k → (rolesTo b st l k)[j]? = some (roleAt b st j h)
  | 0, _, hj => by omega
  | k + 1, hk, hj => by
    have hg : l[k]? = some l[k] := List.getElem?_eq_getElem (by omega)
    rw [rolesTo_step hg rfl]
    have hlen := rolesTo_length b st l k (by omega)
    by_cases hjk : j = k
    · subst hjk
      rw [hg] at hl
      injection hl with hl
      subst hl
      rw [List.getElem?_append_right (by omega), hlen]
      simp
    · rw [List.getElem?_append_left (by omega)]
      exact rolesTo_at b st l j h hl k (by omega) (by omega)
theorem rolesOf_at {b : Int} {l : List Heard} {j : Nat} {h : Heard} (hl : l[j]? = some h) : (rolesOf b l)[j]? = some (roleAt b (bestOf b l) j h) := by
  have hj : j < l.length := by
    rcases Nat.lt_or_ge j l.length with h | h
    · exact h
    · rw [List.getElem?_eq_none h] at hl; cases hl
  exact rolesTo_at b _ l j h hl l.length (Nat.le_refl _) hj
/-- how many of the first k ports are Root -/
def roots (p : Int) (k : Nat) : Int := if 0 ≤ p ∧ p < k then 1 else 0
theorem roots_yes {p : Int} {k : Nat} (h : (k : Int) = p) : roots p k = 0 ∧ roots p (k + 1) = 1 := by
  unfold roots
  constructor
  · rw [if_neg (by omega)]
  · rw [if_pos (by omega)]
theorem roots_no {p : Int} {k : Nat} (h : ¬ (k : Int) = p) : roots p (k + 1) = roots p k := by
  unfold roots
  by_cases h1 : 0 ≤ p ∧ p < k
  · rw [if_pos h1, if_pos (by omega)]
  · rw [if_neg h1, if_neg (by omega)]
theorem roots_le (p : Int) (k : Nat) : 0 ≤ roots p k ∧ roots p k ≤ 1 := by unfold roots; split <;> omega
theorem role_root {b : Int} {st : Int × Vec} {i : Nat} {h : Heard} (e : (i : Int) = st.1) : roleAt b st i h = 1 := by simp [roleAt, e]
theorem role_other {b : Int} {st : Int × Vec} {i : Nat} {h : Heard} (e : ¬ (i : Int) = st.1) : roleAt b st i h = 2 ∧ (h.is = true → cmpV ⟨st.2.root, st.2.cost, b, i⟩ h.v ≤ 0) ∨ roleAt b st i h = 3 := by
  unfold roleAt
  rw [if_neg e]
  split
  · rename_i hc
    refine .inl ⟨rfl, fun hi => ?_⟩
    rcases hc with hc | hc
    · rw [hi] at hc; cases hc
    · exact hc
  · exact .inr rfl
end Go.Proofs.Ytdgbemafhhhceaa.Prio
