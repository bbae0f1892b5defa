/-
  Plain words and laws of questions that wait: what a call of Due tells, and that this is one thing alone.
-/
import Derived.Test.YtdpppljobikjhaaDoorVWhlAI
namespace Go.Proofs.YtdpppljobikjhaaDoor
set_option linter.unusedVariables false
set_option linter.unusedSimpArgs false
open Go.RowKit
namespace Ask
/-- what is asked -/
structure Qn where
  v : Int
  g : ByteArray
  ss : List ByteArray
/-- a question, when it is asked next, and how often still -/
structure Wait where
  q : Qn
  at_ : Int
  left : Int
def cut {α : Type} (L : List α) (i : Nat) : List α := L.take i ++ L.drop (i + 1)
/-- the place of the first one of the earliest ones, of the first k -/
def BestIs (L : List Wait) (k i : Nat) : Prop := ∃ x, L[i]? = some x ∧ i < k ∧ (∀ y ∈ L.take i, x.at_ < y.at_) ∧ ∀ y ∈ L.take k, x.at_ ≤ y.at_
theorem best_one {L : List Wait} {i j : Nat} (h : BestIs L L.length i) (h' : BestIs L L.length j) : i = j := by
  obtain ⟨x, hx, hi, h1, h2⟩ := h
  obtain ⟨y, hy, hj, k1, k2⟩ := h'
  rw [List.take_length] at h2 k2
  have ex := List.mem_of_getElem? hx
  have ey := List.mem_of_getElem? hy
  have a := h2 y ey
  have b := k2 x ex
  rcases Nat.lt_trichotomy i j with h | h | h
  · have := k1 x (List.mem_take_iff_getElem.2 ⟨i, by omega, (List.getElem?_eq_some_iff.1 hx).2⟩)
    omega
  · exact h
  · have := h1 y (List.mem_take_iff_getElem.2 ⟨j, by omega, (List.getElem?_eq_some_iff.1 hy).2⟩)
    omega
/-- what is left once the one at a place has been told -/
def next (gap : Int) (L : List Wait) (i : Nat) (x : Wait) : List Wait := if 1 < x.left then cut L i ++ [⟨x.q, x.at_ + gap, x.left - 1⟩] else cut L i
/-- one after another the first ones are told -/
def Path (gap now : Int) : List Qn → List Wait → List Wait → Prop
  | [], L, L' => L' = L
  | q :: out, L, L' => ∃ i x, BestIs L L.length i ∧ L[i]? = some x ∧ x.at_ ≤ now ∧ q = x.q ∧ Path gap now out (next gap L i x) L'
def Quiet (now : Int) (L : List Wait) : Prop := ∀ x ∈ L, now < x.at_
theorem Path.snoc {gap now : Int} : ∀ {out : List Qn} {L L' : List Wait}, Path gap now out L L' → ∀ {i : Nat} {x : Wait}, BestIs L' L'.length i → L'[i]? = some x → x.at_ ≤ now → Path gap now (out ++ [x.q]) L (next gap L' i x)
  | [], L, L', h, i, x, hb, hx, ha => by
    have h' : L' = L := h
    subst h'
    exact ⟨i, x, hb, hx, ha, rfl, rfl⟩
  | q :: out, L, L', h, i, x, hb, hx, ha => by
    obtain ⟨j, y, h1, h2, h3, h4, h5⟩ := h
    exact ⟨j, y, h1, h2, h3, h4, Path.snoc h5 hb hx ha⟩
theorem Path.one {gap now : Int} : ∀ {out out' : List Qn} {L a b : List Wait}, Path gap now out L a → Quiet now a → Path gap now out' L b → Quiet now b → out = out' ∧ a = b
  | [], [], L, a, b, h, _, h', _ => by
    have e : a = L := h
    have e' : b = L := h'
    exact ⟨rfl, by rw [e, e']⟩
  | [], _ :: _, L, a, b, h, hq, h', _ => by
    have e : a = L := h
    subst e
    obtain ⟨i, x, _, hx, ha, _⟩ := h'
    have := hq x (List.mem_of_getElem? hx)
    omega
  | _ :: _, [], L, a, b, h, _, h', hq => by
    have e : b = L := h'
    subst e
    obtain ⟨i, x, _, hx, ha, _⟩ := h
    have := hq x (List.mem_of_getElem? hx)
    omega
  | q :: out, q' :: out', L, a, b, h, hq, h', hq' => by
    obtain ⟨i, x, h1, h2, h3, h4, h5⟩ := h
    obtain ⟨j, y, k1, k2, k3, k4, k5⟩ := h'
    obtain rfl := best_one h1 k1
    rw [h2] at k2
    cases k2
    obtain ⟨e1, e2⟩ := Path.one h5 hq k5 hq'
    exact ⟨by rw [h4, k4, e1], e2⟩
theorem best_start {L : List Wait} (h : 0 < L.length) : BestIs L 1 0 := by
  cases L with
  | nil => simp at h
  | cons a r => exact ⟨a, rfl, by omega, by simp, by simp⟩
theorem best_new {L : List Wait} {k i : Nat} {x y : Wait} (hb : BestIs L k i) (hx : L[i]? = some x) (hy : L[k]? = some y) (hc : y.at_ < x.at_) : BestIs L (k + 1) k := by
  obtain ⟨x', hx', hi, h1, h2⟩ := hb
  rw [hx] at hx'; cases hx'
  refine ⟨y, hy, by omega, fun z hz => by have := h2 z hz; omega, ?_⟩
  rw [List.take_add_one, hy]
  intro z hz
  rcases List.mem_append.1 hz with hz | hz
  · have := h2 z hz; omega
  · simp at hz; subst hz; exact Int.le_refl _
theorem best_old {L : List Wait} {k i : Nat} {x y : Wait} (hb : BestIs L k i) (hx : L[i]? = some x) (hy : L[k]? = some y) (hc : ¬ y.at_ < x.at_) : BestIs L (k + 1) i := by
  obtain ⟨x', hx', hi, h1, h2⟩ := hb
  rw [hx] at hx'; cases hx'
  refine ⟨x, hx, by omega, h1, ?_⟩
  rw [List.take_add_one, hy]
  intro z hz
  rcases List.mem_append.1 hz with hz | hz
  · exact h2 z hz
  · simp at hz; subst hz; omega
/-- how often all will still be told -/
def load (L : List Wait) : Nat := (L.map fun x => x.left.toNat).sum
theorem load_cut {L : List Wait} {i : Nat} {x : Wait} (h : L[i]? = some x) : load (cut L i) + x.left.toNat = load L := by
  obtain ⟨hi, e⟩ := List.getElem?_eq_some_iff.1 h
  have e1 : L = L.take i ++ x :: L.drop (i + 1) := by rw [← e, ← List.drop_eq_getElem_cons hi, List.take_append_drop]
  unfold load cut
  conv => rhs; rw [e1]
  simp only [List.map_append, List.map_cons, List.sum_append, List.sum_cons]
  omega
theorem load_next {gap : Int} {L : List Wait} {i : Nat} {x : Wait} (h : L[i]? = some x) (h1 : 1 ≤ x.left) : load (next gap L i x) + 1 = load L := by
  have hc := load_cut h
  unfold next
  split
  · have e : load (cut L i ++ [⟨x.q, x.at_ + gap, x.left - 1⟩]) = load (cut L i) + (x.left - 1).toNat := by simp [load]
    rw [e]
    omega
  · omega
theorem Path.load {gap now : Int} : ∀ {out : List Qn} {L L' : List Wait}, Path gap now out L L' → (∀ x ∈ L, 1 ≤ x.left) → Ask.load L' + out.length = Ask.load L ∧ ∀ x ∈ L', 1 ≤ x.left
  | [], L, L', h, hl => by
    have h' : L' = L := h
    subst h'
    exact ⟨rfl, hl⟩
  | q :: out, L, L', h, hl => by
    obtain ⟨i, x, _, hx, _, _, hp⟩ := h
    have hx1 := hl x (List.mem_of_getElem? hx)
    have hn := load_next (gap := gap) hx hx1
    obtain ⟨h1, h2⟩ := Path.load hp (fun y hy => by
      have hcut : ∀ y ∈ cut L i, 1 ≤ y.left := fun y hy => by
        rcases List.mem_append.1 hy with hy | hy
        · exact hl y (List.mem_of_mem_take hy)
        · exact hl y (List.mem_of_mem_drop hy)
      unfold next at hy
      split at hy
      · rcases List.mem_append.1 hy with hy | hy
        · exact hcut y hy
        · simp at hy; subst hy; simp only; omega
      · exact hcut y hy)
    exact ⟨by rw [List.length_cons]; omega, h2⟩
theorem load_len {L : List Wait} (h : ∀ x ∈ L, 1 ≤ x.left) : L.length ≤ load L := by
  induction L with
  | nil => exact Nat.le_refl _
  | cons a r ih =>
    have h1 := h a (by simp)
    have h2 := ih (fun x hx => h x (by simp [hx]))
    simp only [load, List.map_cons, List.sum_cons, List.length_cons] at h2 ⊢
    omega
end Ask
end Go.Proofs.YtdpppljobikjhaaDoor
