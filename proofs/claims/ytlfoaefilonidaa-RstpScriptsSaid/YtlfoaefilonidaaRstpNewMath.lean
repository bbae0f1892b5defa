/-
  A part that was made just now: the plain model.
-/
import Derived.Test.YtlfoaefilonidaaRstpMath
namespace Go.Proofs.Ytlfoaefilonidaa.Rstp
set_option linter.unusedVariables false
set_option linter.unusedSimpArgs false
open Go.Proofs.Ytlfoaefilonidaa.Prio
def costOk (c : Int) : Bool := decide (1 ≤ c) && decide (c ≤ 200000000)
theorem costOk_iff {c : Int} : costOk c = true ↔ 1 ≤ c ∧ c ≤ 200000000 := by simp [costOk]
def mayT (cs : List Int) : Bool := decide (1 ≤ cs.length) && (decide (cs.length ≤ 16) && cs.all costOk)
def newP (c : Int) : Pt := ⟨c, 0, -1, false, false, false, ⟨0, 0, 0, 0⟩, 0, false, false, false, 0⟩
def newT (b : Int) (cs : List Int) : Tr := ⟨b, cs.map newP, 0, -1, -1, own b⟩
theorem mayT_len {cs : List Int} (h : cs.length < 1 ∨ 16 < cs.length) : mayT cs = false := by
  cases hm : mayT cs
  · rfl
  · simp [mayT] at hm
    omega
theorem mayT_bad {cs : List Int} {k : Nat} {c : Int} (hc : cs[k]? = some c) (h : costOk c = false) : mayT cs = false := by
  cases hm : mayT cs
  · rfl
  · simp only [mayT, Bool.and_eq_true, List.all_eq_true] at hm
    rw [hm.2.2 c (List.mem_of_getElem? hc)] at h
    cases h
theorem mayT_good {cs : List Int} (h1 : 1 ≤ cs.length) (h2 : cs.length ≤ 16) (h : ∀ c ∈ cs, costOk c = true) : mayT cs = true := by
  simp only [mayT, Bool.and_eq_true, List.all_eq_true]
  exact ⟨decide_eq_true h1, decide_eq_true h2, h⟩
theorem mayT_iff {cs : List Int} : mayT cs = true ↔ 1 ≤ cs.length ∧ cs.length ≤ 16 ∧ ∀ c ∈ cs, costOk c = true := by
  simp only [mayT, Bool.and_eq_true, List.all_eq_true, decide_eq_true_eq]
theorem good_snoc {cs : List Int} {k : Nat} {c : Int} (hc : cs[k]? = some c) (h : costOk c = true) (hk : ∀ c ∈ cs.take k, costOk c = true) : ∀ c ∈ cs.take (k + 1), costOk c = true := by
  intro x hx
  obtain ⟨hl, e⟩ := List.getElem?_eq_some_iff.1 hc
  rw [List.take_succ_eq_append_getElem hl, List.mem_append] at hx
  rcases hx with hx | hx
  · exact hk x hx
  · rw [List.mem_singleton.1 hx, e]
    exact h
theorem Wf.new (b : Int) {cs : List Int} (h : mayT cs = true) : Wf (newT b cs) := by
  obtain ⟨h1, h2, _⟩ := mayT_iff.1 h
  refine ⟨by simp [newT], by simp [newT], by simpa [newT] using h1, by simpa [newT] using h2, by simp [newT], by simp [newT], fun q hq => ?_⟩
  simp only [newT, List.mem_map] at hq
  obtain ⟨c, _, rfl⟩ := hq
  exact ⟨by simp [newP], by simp [newP, newT], by simp [newP], by simp [newP, newT], by simp [newP], by simp [newP]⟩
end Go.Proofs.Ytlfoaefilonidaa.Rstp
