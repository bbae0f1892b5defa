/-
  Words for memory, continued: 'Keep xs w w'': from w to w' blocks were made, and of those that were there only the ones of the list xs were written.
-/
import Derived.Test.YtdgbemafhhhceaaWords
namespace Go.Proofs.Ytdgbemafhhhceaa
set_option linter.unusedVariables false
set_option linter.unusedSimpArgs false
open Go.RowKit
structure Keep (xs : List Nat) (w w' : World) : Prop where
  os : w'.os = w.os
  tape : w'.tape = w.tape
  output : w'.output = w.output
  size : w.heap.size ≤ w'.heap.size
  block : ∀ k, k < w.heap.size → k ∉ xs → w'.heap[k]? = w.heap[k]?
section
variable {xs ys : List Nat} {a b c w w' : World}
theorem Keep.refl (xs : List Nat) (w : World) : Keep xs w w := ⟨rfl, rfl, rfl, Nat.le_refl _, fun _ _ _ => rfl⟩
theorem Keep.trans (h : Keep xs a b) (k : Keep xs b c) : Keep xs a c :=
  ⟨k.os.trans h.os, k.tape.trans h.tape, k.output.trans h.output, Nat.le_trans h.size k.size, fun i hi hx => (k.block i (Nat.lt_of_lt_of_le hi h.size) hx).trans (h.block i hi hx)⟩
theorem Keep.mono (h : Keep xs a b) (hs : ∀ x ∈ xs, x ∈ ys ∨ a.heap.size ≤ x) : Keep ys a b :=
  ⟨h.os, h.tape, h.output, h.size, fun i hi hx => h.block i hi fun hm => by
    rcases hs i hm with h1 | h1
    · exact hx h1
    · omega⟩
/-- what is done behind may also write what was made meanwhile -/
theorem Keep.then (h : Keep xs a b) (k : Keep ys b c) (hs : ∀ x ∈ ys, x ∈ xs ∨ a.heap.size ≤ x) : Keep xs a c :=
  ⟨k.os.trans h.os, k.tape.trans h.tape, k.output.trans h.output, Nat.le_trans h.size k.size, fun i hi hx => (k.block i (Nat.lt_of_lt_of_le hi h.size) fun hm => by
    rcases hs i hm with h1 | h1
    · exact hx h1
    · omega).trans (h.block i hi hx)⟩
theorem Keep.of_below (h : Below a.heap.size a b) (xs : List Nat) : Keep xs a b := ⟨h.os, h.tape, h.output, h.size, fun i hi _ => h.block i hi⟩
theorem Keep.of_grown {row : Option Nat} (h : a.grownBy b row) (hr : ∀ g, row = some g → g ∈ xs) : Keep xs a b :=
  ⟨h.os, h.tape, h.output, h.size, fun i hi hx => h.block i hi fun e => hx (hr _ e.symm)⟩
theorem Keep.drew (h : Keep xs a b) : Keep xs a b.drew := ⟨h.os, h.tape, h.output, h.size, h.block⟩
theorem Keep.drewN (h : Keep xs a b) (n : Nat) : Keep xs a (b.drewN n) := ⟨h.os, h.tape, h.output, h.size, h.block⟩
theorem Keep.alloc (h : Keep xs a b) (o : Obj) : Keep xs a (b.alloc o) :=
  h.trans (Keep.of_below ((Below.refl _ _).alloc (Nat.le_refl _) o) xs)
theorem Keep.set_ (h : Keep xs a b) {p : Addr} (hp : p.block ∈ xs ∨ a.heap.size ≤ p.block) (u : Value) : Keep xs a (b.setCell p u) :=
  ⟨h.os, h.tape, h.output, by have := h.size; simpa [World.setCell] using this, fun i hi hx => (Below.heap_setCell b p u i (fun e => by
    rcases hp with h1 | h1
    · exact hx (e ▸ h1)
    · omega)).trans (h.block i hi hx)⟩
theorem Keep.below {B : Nat} (h : Keep xs a b) (hB : B ≤ a.heap.size) (hx : ∀ x ∈ xs, B ≤ x) : Below B a b :=
  ⟨h.os, h.tape, h.output, h.size, fun i hi => h.block i (by omega) fun hm => by have := hx i hm; omega⟩
theorem Keep.blk {g : Nat} {t : TypeId} {cs : Array Value} (h : Keep xs a b) (hb : Blk a g t cs) (hg : g ∉ xs) : Blk b g t cs := (h.block g hb.lt hg).trans hb
theorem Keep.reads {B size n : Nat} {A : Option Addr} {l : List Value} (h : Keep xs a b) (hr : Reads a B size A n l) (hB : B ≤ a.heap.size) (hx : ∀ x ∈ xs, B ≤ x) : Reads b B size A n l :=
  hr.below (h.below hB hx)
theorem Keep.cells (h : Keep xs a b) : ∀ g o, g < a.heap.size → g ∉ xs → b.cell? ⟨g, o, none⟩ = a.cell? ⟨g, o, none⟩ := fun g _ h1 h2 => World.cell?_of_block (h.block g h1 h2)
end
/-- what a call that makes memory alone left as it was -/
theorem bkeep {w w' : World} (hb : Below w.heap.size w w') {g o : Nat} {v : Value} (hg : g < w.heap.size) (h : w.cell? ⟨g, o, none⟩ = some v) : w'.cell? ⟨g, o, none⟩ = some v := ((bcell hb).1 g o hg).trans h
theorem alloc_cell (w : World) (x : Obj) (b o : Nat) (h : b < w.heap.size) : (w.alloc x).cell? ⟨b, o, none⟩ = w.cell? ⟨b, o, none⟩ := World.cell?_alloc_lt w x _ h
/-- a list of things, each of m cells -/
theorem flat_len {α : Type} (f : α → List Value) (m : Nat) (hf : ∀ a, (f a).length = m) : ∀ xs : List α, (xs.flatMap f).length = xs.length * m
  | [] => by simp
  | a :: xs => by rw [List.flatMap_cons, List.length_append, flat_len f m hf xs, hf, List.length_cons, Nat.add_mul]; omega
theorem flat_at {α : Type} (f : α → List Value) (m : Nat) (hf : ∀ a, (f a).length = m) (a : α) (j : Nat) (hj : j < m) : ∀ (xs : List α) (k : Nat), xs[k]? = some a → (xs.flatMap f)[k * m + j]? = (f a)[j]?
  | [], k, h => by simp at h
  | b :: xs, 0, h => by
    simp at h
    subst h
    rw [List.flatMap_cons, List.getElem?_append_left (by rw [hf]; omega)]
    simp
  | b :: xs, k + 1, h => by
    simp only [List.getElem?_cons_succ] at h
    rw [List.flatMap_cons, List.getElem?_append_right (by rw [hf, Nat.add_mul]; omega), hf]
    have e : (k + 1) * m + j - m = k * m + j := by rw [Nat.add_mul]; omega
    rw [e]
    exact flat_at f m hf a j hj xs k h
theorem flat_take {α : Type} (f : α → List Value) (xs : List α) (k : Nat) (a : α) (h : xs[k]? = some a) : (xs.take (k + 1)).flatMap f = (xs.take k).flatMap f ++ f a := by
  obtain ⟨hk, e⟩ := List.getElem?_eq_some_iff.1 h
  rw [List.take_succ_eq_append_getElem hk, List.flatMap_append, e]
  simp
theorem Reads.chunk {α : Type} (f : α → List Value) (m : Nat) (hm : 0 < m) (hf : ∀ a, (f a).length = m) {w : World} {B n : Nat} {A : Option Addr} {xs : List α} (hr : Reads w B m A n (xs.flatMap f)) {k : Nat} (hk : k < n) :
    ∃ (b off : Nat) (a : α), A = some ⟨b, off, none⟩ ∧ b < B ∧ xs[k]? = some a ∧ ∀ j u, (f a)[j]? = some u → w.cell? ⟨b, off + k * m + j, none⟩ = some u := by
  have hl := hr.1
  rw [flat_len f m hf] at hl
  have hlen : xs.length = n := Nat.eq_of_mul_eq_mul_right hm hl
  obtain ⟨b, off, hA, hb, hc⟩ := hr.flat (by omega) (by rw [flat_len f m hf, hlen]; exact Nat.mul_pos (by omega) hm)
  have hk' : xs[k]? = some xs[k] := List.getElem?_eq_getElem (by omega)
  refine ⟨b, off, xs[k], hA, hb, hk', fun j u hu => ?_⟩
  have hj : j < m := by rw [← hf xs[k]]; exact (List.getElem?_eq_some_iff.1 hu).1
  rw [Nat.add_assoc]
  exact hc _ u ((flat_at f m hf xs[k] j hj xs k hk').trans hu)
theorem Reads.len {α : Type} (f : α → List Value) (m : Nat) (hm : 0 < m) (hf : ∀ a, (f a).length = m) {w : World} {B n : Nat} {A : Option Addr} {xs : List α} (hr : Reads w B m A n (xs.flatMap f)) : xs.length = n := by
  have hl := hr.1
  rw [flat_len f m hf] at hl
  exact Nat.eq_of_mul_eq_mul_right hm hl
end Go.Proofs.Ytdgbemafhhhceaa
