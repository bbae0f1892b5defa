/-
  What comes in: a slice of things of m cells each, as a list.
-/
import Derived.Test.YtdgbemafhhhceaaKeep
import Derived.Test.YtdgbemafhhhceaaRows
import Derived.ProofKit
import Derived.OpenShut
import Derived.ShutString
import Derived.ChangeOld
import Derived.Deep.Slices
import Derived.Lib.SmallJoins
namespace Go.Proofs.Ytdgbemafhhhceaa
set_option linter.unusedVariables false
set_option linter.unusedSimpArgs false
open Go.ChangeShapes Go.WideShapes Go.ChangeAt Go.RowKit Go.Deep
theorem choose_list {α : Type} {P : Nat → α → Prop} : ∀ n : Nat, (∀ i, i < n → ∃ x, P i x) → ∃ l : List α, l.length = n ∧ ∀ i, i < n → ∃ x, l[i]? = some x ∧ P i x
  | 0, _ => ⟨[], rfl, fun i hi => absurd hi (by omega)⟩
  | n + 1, h => by
    obtain ⟨l, hl, hp⟩ := choose_list n (fun i hi => h i (by omega))
    obtain ⟨x, hx⟩ := h n (by omega)
    refine ⟨l ++ [x], by simp [hl], fun i hi => ?_⟩
    by_cases hin : i < n
    · obtain ⟨y, hy, hq⟩ := hp i hin
      exact ⟨y, by rw [List.getElem?_append_left (by omega)]; exact hy, hq⟩
    · have : i = n := by omega
      subst this
      exact ⟨x, by rw [List.getElem?_append_right (by omega), hl]; simp, hx⟩
theorem of_len1 {α : Type} (l : List α) (h : l.length = 1) : ∃ a, l = [a] := by
  match l, h with
  | [a], _ => exact ⟨a, rfl⟩
theorem of_succ {α : Type} {m : Nat} (l : List α) (h : l.length = m + 1) : ∃ a t, l = a :: t ∧ t.length = m := by
  match l, h with
  | a :: t, h => exact ⟨a, t, rfl, by simpa using h⟩
section
variable {H : Type} {enc : TypeId × Value → H} {w : World} {base : Nat} {spare : Nat → Bool} {held : Bool}
theorem open_chunks {α : Type} (f : α → List Value) (m : Nat) (hm0 : 0 < m) (hf : ∀ a, (f a).length = m) {t e : TypeId} (ht : Try.prog.underlying t = some (.slice e)) (hc : Try.prog.cellsOf e = m)
    (hcell : ∀ {fuel : Nat} {cs : List Value} {x : DataW H × List MemPlace}, DataW.trod enc Try.prog w base spare held fuel e cs = some x → ∃ k, cs = f k)
    {A : Option Addr} {len cap : Nat} {d : DataW H} {p : List MemPlace} (h : DataW.Trod enc Try.prog w base spare held t (.slice A len cap) d p) :
    ∃ xs : List α, Reads w w.heap.size m A len (xs.flatMap f) := by
  obtain ⟨fuel, hfu⟩ := h
  rcases open_slice ht hfu with ⟨hcs, _⟩ | ⟨a, l, c, m', n, D, Pl, hcs, _, hl, _, hm, _, hi⟩
  · simp [Value.cells] at hcs
    obtain ⟨rfl, rfl, rfl⟩ := hcs
    exact ⟨[], Reads.none_⟩
  · simp [Value.cells] at hcs
    obtain ⟨rfl, rfl, rfl⟩ := hcs
    rw [hc] at hi
    have hlm : len ≤ m' := by rw [hm]; split <;> omega
    obtain ⟨xs, hhl, hp⟩ := choose_list (P := fun i (k : α) => ∀ j, j < m → w.cell? ((a.add (i * m)).add j) = (f k)[j]?) len (fun i him => by
      obtain ⟨cs', hcell', ht'⟩ := hi i (by omega)
      obtain ⟨k, rfl⟩ := hcell ht'
      obtain ⟨_, _, hat⟩ := World.cells?_some hcell'
      exact ⟨k, hat⟩)
    refine ⟨xs, by rw [flat_len f m hf, hhl], fun hn => ⟨a, rfl, ?_, fun j u hu => ?_⟩⟩
    · obtain ⟨k, _, hk⟩ := hp 0 hn
      have h0 := hk 0 (by omega)
      have hfl := hf k
      have h1 := World.block_lt_of_cell? w _ (h0.trans (List.getElem?_eq_getElem (by omega)))
      simpa [block_of_add] using h1
    · have hj : j < len * m := by
        have := (List.getElem?_eq_some_iff.1 hu).1
        rw [flat_len f m hf, hhl] at this
        exact this
      obtain ⟨k, hk1, hk2⟩ := hp (j / m) ((Nat.div_lt_iff_lt_mul hm0).2 hj)
      have hjm : j % m < m := Nat.mod_lt _ hm0
      have e := flat_at f m hf k (j % m) hjm xs (j / m) hk1
      have e2 : j / m * m + j % m = j := by rw [Nat.mul_comm]; exact Nat.div_add_mod j m
      rw [e2] at e
      have h2 := hk2 (j % m) hjm
      rw [add_of_add, e2] at h2
      rw [h2, ← e]
      exact hu
end
end Go.Proofs.Ytdgbemafhhhceaa
