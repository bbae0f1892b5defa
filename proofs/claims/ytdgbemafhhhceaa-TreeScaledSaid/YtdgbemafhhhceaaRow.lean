/-
  Words for memory, continued: 'Row w g t xs': block g begins with the cells xs; what stands behind is not said. Stores into it.
-/
import Derived.Test.YtdgbemafhhhceaaKeep
namespace Go.Proofs.Ytdgbemafhhhceaa
set_option linter.unusedVariables false
set_option linter.unusedSimpArgs false
open Go.RowKit
@[irreducible] def SW (P : Program) (ops : Array Oper) (w : World) (Q : Act → Prop) (l : List Oper) (a : Act) : Prop := wpStill P ops w Q l a
section
variable {P : Program} {ops : Array Oper} {w : World} {Q K : Act → Prop} {a : Act} {o : Oper} {l rest : List Oper}
theorem SW.un (h : SW P ops w Q l a) : wpStill P ops w Q l a := by unfold SW at h; exact h
theorem SW.mk (h : wpStill P ops w Q l a) : SW P ops w Q l a := by unfold SW; exact h
theorem SW.nil (h : Q a) : SW P ops w Q [] a := SW.mk (wpStill_nil h)
theorem SW.skip (hw : Region.wanted o (yielded ops a.tmps) = false) (h : ∀ K : Act → Prop, (∀ a, SW P ops w Q rest a → K a) → K (a.put o.dst undef)) : SW P ops w Q (o :: rest) a :=
  SW.mk (wpStill_step fun K hK => by rw [hw]; exact h K fun a h => hK a h.un)
theorem SW.want (hw : Region.wanted o (yielded ops a.tmps) = true) (h : ∀ K : Act → Prop, (∀ a, SW P ops w Q rest a → K a) → o.still P a w K) : SW P ops w Q (o :: rest) a :=
  SW.mk (wpStill_step fun K hK => by rw [hw]; exact h K fun a h => hK a h.un)
theorem SW.on (hk : Hid (∀ a, SW P ops w Q rest a → K a)) (h : SW P ops w Q rest a) : K a := hk a h
end
theorem max_cases' (a b : Int) : (a < b ∧ max a b = b) ∨ (¬ a < b ∧ max a b = a) := by omega
theorem retb {a b : Bool} (h : a = b) : Ending.returned (.bool a) = .returned (.bool b) := by rw [h]
theorem reti {a b : Int} (h : a = b) : Ending.returned (.int .i64 a) = .returned (.int .i64 b) := by rw [h]
def Row (w : World) (g : Nat) (t : TypeId) (xs : List Value) : Prop := ∃ cur : Array Value, w.heap[g]? = some (.cells cur t (0, 0)) ∧ cur.toList.take xs.length = xs
section
variable {w w' : World} {g : Nat} {t : TypeId} {xs : List Value}
theorem Row.lt (h : Row w g t xs) : g < w.heap.size := by
  obtain ⟨cur, h, _⟩ := h
  exact Blk.lt (t := t) (cs := cur) h
theorem Row.cell (h : Row w g t xs) {i : Nat} {u : Value} (hu : xs[i]? = some u) : w.cell? ⟨g, i, none⟩ = some u := by
  obtain ⟨cur, h, e⟩ := h
  have hi : i < xs.length := (List.getElem?_eq_some_iff.1 hu).1
  rw [Blk.cell (t := t) (cs := cur) h, ← hu, ← e, List.getElem?_take_of_lt (by rw [← e, List.length_take] at hi; omega)]
  simp
theorem Row.frozen (h : Row w g t xs) (i : Nat) : w.frozen? ⟨g, i, none⟩ = false := by
  obtain ⟨cur, h, _⟩ := h
  exact Blk.frozen (t := t) (cs := cur) h i
theorem Row.set_ (h : Row w g t xs) (i : Nat) (u : Value) : Row (w.setCell ⟨g, i, none⟩ u) g t (xs.set i u) := by
  obtain ⟨cur, h, e⟩ := h
  refine ⟨_, Blk.set_ (t := t) (cs := cur) h i u, ?_⟩
  rw [List.length_set]
  conv => rhs; rw [← e]
  rw [Array.toList_setIfInBounds, List.take_set]
theorem Row.drew (h : Row w g t xs) : Row w.drew g t xs := h
theorem Row.drewN (h : Row w g t xs) (n : Nat) : Row (w.drewN n) g t xs := h
theorem Row.alloc (h : Row w g t xs) (o : Obj) : Row (w.alloc o) g t xs := by
  obtain ⟨cur, h, e⟩ := h
  exact ⟨cur, Blk.alloc (t := t) (cs := cur) h o, e⟩
theorem Row.far (h : Row w g t xs) {p : Addr} (hp : g ≠ p.block) (u : Value) : Row (w.setCell p u) g t xs := by
  obtain ⟨cur, h, e⟩ := h
  exact ⟨cur, Blk.far (t := t) (cs := cur) h hp u, e⟩
theorem Row.below {B : Nat} (h : Row w g t xs) (hb : Below B w w') (hg : g < B) : Row w' g t xs := by
  obtain ⟨cur, h, e⟩ := h
  exact ⟨cur, Blk.below (t := t) (cs := cur) h hb hg, e⟩
theorem Row.keep {ys : List Nat} (h : Row w g t xs) (hk : Keep ys w w') (hg : g ∉ ys) : Row w' g t xs := by
  obtain ⟨cur, h, e⟩ := h
  exact ⟨cur, Keep.blk hk (t := t) (cs := cur) h hg, e⟩
theorem Row.grown {row : Option Nat} (h : Row w g t xs) (hb : w.grownBy w' row) (hg : some g ≠ row) : Row w' g t xs := by
  obtain ⟨cur, h, e⟩ := h
  exact ⟨cur, Blk.grown (t := t) (cs := cur) h hb hg, e⟩
theorem Row.reads (h : Row w g t xs) {B size n : Nat} (hl : xs.length = n * size) (hg : g < B) : Reads w B size (some ⟨g, 0, none⟩) n xs :=
  ⟨hl, fun _ => ⟨⟨g, 0, none⟩, rfl, hg, fun j u hu => by
    have := h.cell hu
    unfold Addr.add
    split
    · rename_i hj; subst hj; exact this
    · simpa using this⟩⟩
theorem Row.of_own {base : Nat} {size n : Nat} {v : Value} (h : w.ownsRow base t size v n xs) (hn : 0 < n) : ∃ g cap, v = .slice (some ⟨g, 0, none⟩) n cap ∧ base ≤ g ∧ n ≤ cap ∧ cap ≤ maxLen ∧ Row w g t xs := by
  obtain ⟨hl, ⟨_, h0⟩ | ⟨g, cap, cur, hv, hb, hg, hnc, hcm, hsz, hx⟩⟩ := h
  · omega
  · exact ⟨g, cap, hv, hb, hnc, hcm, cur, hg, by rw [hl]; exact hx⟩
end
/-- a store into the j-th cell of the k-th thing -/
theorem flat_set {α : Type} (f : α → List Value) (m : Nat) (hf : ∀ a, (f a).length = m) (a a' : α) (j : Nat) (hj : j < m) (u : Value) (ha : f a' = (f a).set j u) :
    ∀ (xs : List α) (k : Nat), xs[k]? = some a → (xs.flatMap f).set (k * m + j) u = (xs.set k a').flatMap f
  | [], k, h => by simp at h
  | b :: xs, 0, h => by
    simp at h
    subst h
    rw [List.flatMap_cons, List.set_append_left _ _ (by rw [hf]; omega), List.set_cons_zero, List.flatMap_cons, ha]
    simp
  | b :: xs, k + 1, h => by
    simp only [List.getElem?_cons_succ] at h
    have e : (k + 1) * m + j - m = k * m + j := by rw [Nat.add_mul]; omega
    rw [List.flatMap_cons, List.set_append_right _ _ (by rw [hf, Nat.add_mul]; omega), hf, e, flat_set f m hf a a' j hj u ha xs k h, List.set_cons_succ, List.flatMap_cons]
theorem Row.at_ {α : Type} {f : α → List Value} {m : Nat} (hf : ∀ a, (f a).length = m) {w : World} {g : Nat} {t : TypeId} {xs : List α} (h : Row w g t (xs.flatMap f)) {k : Nat} {a : α} (ha : xs[k]? = some a) {j : Nat} {u : Value} (hj : j < m) (hu : (f a)[j]? = some u) :
    w.cell? ⟨g, k * m + j, none⟩ = some u := h.cell ((flat_at f m hf a j hj xs k ha).trans hu)
theorem Row.put {α : Type} {f : α → List Value} {m : Nat} (hf : ∀ a, (f a).length = m) {w : World} {g : Nat} {t : TypeId} {xs : List α} (h : Row w g t (xs.flatMap f)) {k : Nat} {a : α} (ha : xs[k]? = some a) (a' : α) (j : Nat) (u : Value) (hj : j < m) (hu : f a' = (f a).set j u) :
    Row (w.setCell ⟨g, k * m + j, none⟩ u) g t ((xs.set k a').flatMap f) := by
  have := h.set_ (k * m + j) u
  rw [flat_set f m hf a a' j hj u hu xs k ha] at this
  exact this
theorem set_at {α : Type} {xs : List α} {k : Nat} {a : α} (a' : α) (h : xs[k]? = some a) : (xs.set k a')[k]? = some a' := by
  have := (List.getElem?_eq_some_iff.1 h).1
  simp [this]
theorem set_set {α : Type} (xs : List α) (k : Nat) (a b : α) : (xs.set k a).set k b = xs.set k b := by simp
end Go.Proofs.Ytdgbemafhhhceaa
