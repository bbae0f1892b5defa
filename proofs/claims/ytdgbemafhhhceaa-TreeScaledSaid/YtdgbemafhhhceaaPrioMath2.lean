/-
  Plain laws of priorities: the order of vectors, and how a way changes it.
-/
import Derived.Test.YtdgbemafhhhceaaPrioMath
namespace Go.Proofs.Ytdgbemafhhhceaa.Prio
set_option linter.unusedVariables false
set_option linter.unusedSimpArgs false
theorem cmpV_self (a : Vec) : cmpV a a = 0 := by simp [cmpV, first4, cmpI_self]
theorem cmpV_anti (a b : Vec) : cmpV b a = - cmpV a b := by
  rcases cmpV_cases a b with h | h | h | h | h | h | h | h | h <;> rcases cmpV_cases b a with k | k | k | k | k | k | k | k | k <;> omega
theorem cmpV_range (a b : Vec) : cmpV a b = -1 ∨ cmpV a b = 0 ∨ cmpV a b = 1 := by
  rcases cmpV_cases a b with h | h | h | h | h | h | h | h | h <;> omega
theorem cmpV_zero (a b : Vec) (h : cmpV a b = 0) : a = b := by
  rcases cmpV_cases a b with k | k | k | k | k | k | k | k | k <;> try omega
  obtain ⟨k1, k2, k3, k4, _⟩ := k
  cases a; cases b
  simp_all
theorem cmpV_le_iff (a b : Vec) : cmpV a b ≤ 0 ↔ a.root < b.root ∨ (a.root = b.root ∧ (a.cost < b.cost ∨ (a.cost = b.cost ∧ (a.bridge < b.bridge ∨ (a.bridge = b.bridge ∧ a.port ≤ b.port))))) := by
  rcases cmpV_cases a b with h | h | h | h | h | h | h | h | h <;> omega
theorem cmpV_lt_iff (a b : Vec) : cmpV a b < 0 ↔ a.root < b.root ∨ (a.root = b.root ∧ (a.cost < b.cost ∨ (a.cost = b.cost ∧ (a.bridge < b.bridge ∨ (a.bridge = b.bridge ∧ a.port < b.port))))) := by
  rcases cmpV_cases a b with h | h | h | h | h | h | h | h | h <;> omega
theorem cmpV_trans (a b c : Vec) (h : cmpV a b ≤ 0) (k : cmpV b c ≤ 0) : cmpV a c ≤ 0 := by
  rw [cmpV_le_iff] at *
  omega
theorem cmpV_lt_trans (a b c : Vec) (h : cmpV a b < 0) (k : cmpV b c < 0) : cmpV a c < 0 := by
  rw [cmpV_lt_iff] at *
  omega
/-- over a way a vector is not better than it was -/
theorem cmp_tv (v : Vec) (c : Int) (h : te v c = 0) : cmpV v (tv v c) ≤ 0 := by
  unfold te at h
  split at h
  · rename_i hok
    have hok' := hok
    simp only [thrOk, Bool.and_eq_true, decide_eq_true_eq] at hok'
    have e : tv v c = { v with cost := costTo v.cost c } := by simp [tv, hok]
    rw [e, cmpV_le_iff]
    have := costTo_cases v.cost c
    simp
    omega
  · omega
/-- over one way the better one stays so -/
theorem rises (a b : Vec) (c : Int) (ha : te a c = 0) (hb : te b c = 0) (h : cmpV a b ≤ 0) :
    (a.root = b.root ∧ a.cost ≠ b.cost ∧ (tv a c).cost = (tv b c).cost → (tv a c).cost = 4294967295) ∧
    (¬ (a.root = b.root ∧ a.cost ≠ b.cost ∧ (tv a c).cost = (tv b c).cost) → cmpV (tv a c) (tv b c) ≤ 0) := by
  unfold te at ha hb
  split at ha <;> split at hb <;> try omega
  rename_i h1 h2
  have e1 : tv a c = { a with cost := costTo a.cost c } := by simp [tv, h1]
  have e2 : tv b c = { b with cost := costTo b.cost c } := by simp [tv, h2]
  simp only [thrOk, Bool.and_eq_true, decide_eq_true_eq] at h1 h2
  rw [e1, e2, cmpV_le_iff]
  rw [cmpV_le_iff] at h
  have k1 := costTo_cases a.cost c
  have k2 := costTo_cases b.cost c
  simp only
  omega
end Go.Proofs.Ytdgbemafhhhceaa.Prio
