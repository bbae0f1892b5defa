/-
  Plain words for the laws of Wheel[int]: what is armed by a list of times, one after another.
-/
import Derived.Test.YtifhjbboddfbcaaWhlAI
namespace Go.Proofs.Ytifhjbboddfbcaa
set_option linter.unusedVariables false
set_option linter.unusedSimpArgs false
open Go.RowKit Go.Maps
namespace WhlL
open Whl WhlC WhlI
theorem wf_small {k : Int} (h0 : 0 ≤ k) (h1 : k < 1000000) : (Lit.int .i64 k).wf = true := by
  simp [Lit.wf, IntKind.min, IntKind.max, IntKind.signed, IntKind.bits]
  omega
def T (l : List Int) : Nat → List Tm
  | 0 => []
  | k + 1 => match l[k]? with
    | some a => if a < 0 then T l k else T l k ++ [((k : Int), a, ((T l k).length : Int) + 1)]
    | none => T l k
theorem T_neg {l : List Int} {k : Nat} {a : Int} (h : l[k]? = some a) (ha : a < 0) : T l (k + 1) = T l k := by
  rw [T, h]; simp only; rw [if_pos ha]
theorem T_ok {l : List Int} {k : Nat} {a : Int} (h : l[k]? = some a) (ha : ¬ a < 0) : T l (k + 1) = T l k ++ [((k : Int), a, ((T l k).length : Int) + 1)] := by
  rw [T, h]; simp only; rw [if_neg ha]
theorem T_none {l : List Int} {k : Nat} (h : l[k]? = none) : T l (k + 1) = T l k := by
  rw [T, h]
theorem T_mem (l : List Int) : ∀ (k : Nat) {x : Tm}, x ∈ T l k → ∃ i : Nat, i < k ∧ x.1 = i ∧ l[i]? = some x.2.1 ∧ 0 ≤ x.2.1
  | 0, x, h => by simp [T] at h
  | k + 1, x, h => by
    cases hk : l[k]? with
    | none =>
      rw [T_none hk] at h
      obtain ⟨i, h1, h2⟩ := T_mem l k h
      exact ⟨i, by omega, h2⟩
    | some a =>
      by_cases ha : a < 0
      · rw [T_neg hk ha] at h
        obtain ⟨i, h1, h2⟩ := T_mem l k h
        exact ⟨i, by omega, h2⟩
      · rw [T_ok hk ha] at h
        rcases List.mem_append.1 h with h | h
        · obtain ⟨i, h1, h2⟩ := T_mem l k h
          exact ⟨i, by omega, h2⟩
        · simp at h
          subst h
          exact ⟨k, by omega, rfl, hk, by simp; omega⟩
theorem T_has (l : List Int) : ∀ (k : Nat) {i : Nat} {a : Int}, i < k → l[i]? = some a → 0 ≤ a → ∃ x ∈ T l k, x.1 = i ∧ x.2.1 = a
  | 0, i, a, h, _, _ => absurd h (by omega)
  | k + 1, i, a, h, hi, ha => by
    by_cases hik : i < k
    · obtain ⟨x, hx, h2⟩ := T_has l k hik hi ha
      cases hk : l[k]? with
      | none => exact ⟨x, by rw [T_none hk]; exact hx, h2⟩
      | some b =>
        by_cases hb : b < 0
        · exact ⟨x, by rw [T_neg hk hb]; exact hx, h2⟩
        · exact ⟨x, by rw [T_ok hk hb]; exact List.mem_append_left _ hx, h2⟩
    · have e : i = k := by omega
      subst e
      exact ⟨((i : Int), a, ((T l i).length : Int) + 1), by rw [T_ok hi (by omega)]; simp, rfl, rfl⟩
theorem T_len (l : List Int) : ∀ k, (T l k).length ≤ k
  | 0 => by simp [T]
  | k + 1 => by
    have ih := T_len l k
    cases hk : l[k]? with
    | none => rw [T_none hk]; omega
    | some a =>
      by_cases ha : a < 0
      · rw [T_neg hk ha]; omega
      · rw [T_ok hk ha]; simp; omega
theorem T_top (l : List Int) : ∀ (k : Nat) {x : Tm}, x ∈ T l k → x.2.2 < ((T l k).length : Int) + 1
| 0, x, h => by simp [T] at h
| k + 1, x, h => by
  cases hk : l[k]? with
  | none => rw [T_none hk] at h ⊢; exact T_top l k h
  | some a =>
    by_cases ha : a < 0
    · rw [T_neg hk ha] at h ⊢; exact T_top l k h
    · rw [T_ok hk ha] at h ⊢
      rcases List.mem_append.1 h with h | h
      · have := T_top l k h
        rw [List.length_append]; simp; omega
      · simp at h; subst h; simp only [List.length_append, List.length_singleton]; omega
theorem T_keys (l : List Int) : ∀ k, (T l k).Pairwise fun x y => x.1 < y.1 ∧ x.2.2 < y.2.2
  | 0 => by simp [T]
  | k + 1 => by
    have ih := T_keys l k
    cases hk : l[k]? with
    | none => rw [T_none hk]; exact ih
    | some a =>
      by_cases ha : a < 0
      · rw [T_neg hk ha]; exact ih
      · rw [T_ok hk ha, List.pairwise_append]
        refine ⟨ih, List.pairwise_singleton _ _, fun x hx y hy => ?_⟩
        simp at hy; subst hy
        obtain ⟨i, h1, h2, _⟩ := T_mem l k hx
        exact ⟨by simp only; omega, T_top l k hx⟩
theorem T_new (l : List Int) (k : Nat) : (T l k).any (keyIs (k : Int)) = false := by
  rw [List.any_eq_false]
  intro x hx
  obtain ⟨i, h1, h2, _⟩ := T_mem l k hx
  simp [keyIs]; omega
theorem T_filter (l : List Int) (k : Nat) : (T l k).filter (fun x => !keyIs (k : Int) x) = T l k := List.filter_eq_self.2 fun x hx => by
  obtain ⟨i, h1, h2, _⟩ := T_mem l k hx
  simp [keyIs]; omega
theorem armS_T {l : List Int} {k : Nat} {a : Int} (hk : k < 60) (h : l[k]? = some a) :
    armS 60 ((T l k).length : Int) (T l k) (k : Int) a = (if a < 0 then 1 else 0, ((T l (k + 1)).length : Int), T l (k + 1)) := by
  have hl := T_len l k
  unfold armS
  by_cases ha : a < 0
  · rw [if_pos ha, if_pos ha, T_neg h ha]
  · rw [if_neg ha, if_neg ha, if_neg (by simp [T_new]; omega), T_filter, T_ok h ha, List.length_append]
    rfl
end WhlL
end Go.Proofs.Ytifhjbboddfbcaa
