/-
  slices.SortFunc at elements of one cell, of a row that the call owns: the row holds a permutation, sorted; nothing else is changed.
-/
import Derived.Shelf.SlSortCmp.NoneTotal
import Derived.Test.YtdgbemafhhhceaaRow
namespace Go.Proofs.Ytdgbemafhhhceaa
set_option linter.unusedVariables false
set_option linter.unusedSimpArgs false
open Go.RowKit Go.Shelf Go.Lib Go.Sort Go.Proofs
namespace Srt
/-- some draws, and some blocks laid -/
def Gr (w w' : World) : Prop := ∃ q os, w' = grow (w.drewN q) os
section
variable {a b c w w' : World}
theorem Gr.refl (w : World) : Gr w w := ⟨0, #[], by rw [grow_empty]; rfl⟩
theorem Gr.drew (h : Gr a b) : Gr a b.drew := by
  obtain ⟨q, os, rfl⟩ := h
  exact ⟨q + 1, os, rfl⟩
theorem Gr.drewN (h : Gr a b) (n : Nat) : Gr a (b.drewN n) := by
  obtain ⟨q, os, rfl⟩ := h
  exact ⟨q + n, os, by simp [World.drewN, grow, Nat.add_assoc]⟩
theorem Gr.alloc (h : Gr a b) (o : Obj) : Gr a (b.alloc o) := by
  obtain ⟨q, os, rfl⟩ := h
  exact ⟨q, os ++ #[o], by rw [alloc_eq_grow, grow_grow]⟩
theorem Gr.trans (h : Gr a b) (k : Gr b c) : Gr a c := by
  obtain ⟨q, os, rfl⟩ := h
  obtain ⟨r, os', rfl⟩ := k
  refine ⟨q + r, os ++ os', ?_⟩
  rw [show (grow (a.drewN q) os).drewN r = grow (a.drewN (q + r)) os from by simp [World.drewN, grow, Nat.add_assoc], grow_grow]
theorem Gr.below (h : Gr a b) : Below a.heap.size a b := by
  obtain ⟨q, os, rfl⟩ := h
  refine ⟨rfl, rfl, rfl, by simp [grow, World.drewN], fun k hk => ?_⟩
  rw [heap_grow_old _ _ (by simpa [World.drewN] using hk)]
  rfl
end
section
variable {P : Program} {ρ : Ren} {α : Type} [Inhabited α] {enc : α → Value} {w w' : World} {g n cap base e : Nat} {ds : List α}
theorem own_mono {base' : Nat} {size : Nat} {v : Value} {xs : List Value} (h : w.ownsRow base e size v n xs) (hb : base' ≤ base) : w.ownsRow base' e size v n xs := by
  obtain ⟨h1, h2⟩ := h
  refine ⟨h1, ?_⟩
  rcases h2 with h2 | ⟨g, cap, cur, hv, hg, hr⟩
  · exact .inl h2
  · exact .inr ⟨g, cap, cur, hv, by omega, hr⟩
theorem holds_of_own (h : w.ownsRow base e 1 (.slice (some ⟨g, 0, none⟩) n cap) n (ds.map enc)) : Holds enc w g 0 ds.toArray := by
  intro j hj
  have hj' : j < ds.length := by simpa using hj
  have hc := h.cells (g := g) rfl j (enc ds[j]) (by simp [hj'])
  have hf : w.frozen? ⟨g, 0 + j, none⟩ = false := by
    rcases h.2 with ⟨h0, _⟩ | ⟨g', cap', cur, hv, _, hg, _⟩
    · cases h0
    · cases hv
      simp [World.frozen?, hg]
  refine ⟨?_, hf⟩
  have e1 : ds.toArray[j]! = ds[j] := by simp [hj']
  rw [e1]
  by_cases h0 : j = 0
  · subst h0; simpa [Addr.add] using hc
  · simpa [Addr.add, h0] using hc
theorem heap_sort {cur : Array Value} {fr : Nat × Nat} (d : Array α) (m : Nat) (os : Array Obj) (hb : w.heap[g]? = some (.cells cur e fr)) :
    (sortWorld enc w g 0 m d os).heap[g]? = some (.cells (putCells enc 0 d cur) e fr) := by
  have hg : g < w.heap.size := (Array.getElem?_eq_some_iff.1 hb).1
  unfold sortWorld
  rw [heap_grow_old _ _ (by simpa using hg)]
  simp [putRow, mapBlock, Sort.ahead, Array.getElem?_modify, hb, onCells]
theorem grownBy_sort (d : Array α) (m : Nat) (os : Array Obj) : w.grownBy (sortWorld enc w g 0 m d os) (some g) := by
  unfold sortWorld
  refine ⟨rfl, rfl, rfl, by simp, fun k hk hne => ?_⟩
  rw [heap_grow_old _ _ (by simpa using hk)]
  have : g ≠ k := fun e => hne (by rw [e])
  simp [putRow, mapBlock, Sort.ahead, Array.getElem?_modify, this]
theorem take_put (cur : Array Value) (ts : List α) (h : ts.length ≤ cur.size) : (putCells enc 0 ts.toArray cur).toList.take ts.length = ts.map enc := by
  apply List.ext_getElem?
  intro j
  by_cases hj : j < ts.length
  · rw [List.getElem?_take_of_lt hj, Array.getElem?_toList]
    simp [putCells, hj, show j < cur.size by omega]
  · rw [List.getElem?_take_eq_none (by omega), List.getElem?_eq_none (by simp; omega)]
theorem own_sort {ts : List α} (h : w.ownsRow base e 1 (.slice (some ⟨g, 0, none⟩) n cap) n (ds.map enc)) (hl : ts.length = n) (m : Nat) (os : Array Obj) :
    (sortWorld enc w g 0 m ts.toArray os).ownsRow base e 1 (.slice (some ⟨g, 0, none⟩) n cap) n (ts.map enc) := by
  rcases h.2 with ⟨h0, _⟩ | ⟨g', cap', cur, hv, hb, hg, hnc, hcm, hsz, hx⟩
  · cases h0
  · cases hv
    refine ⟨by simp [hl], .inr ⟨g, cap, _, rfl, hb, heap_sort _ m os hg, hnc, hcm, by simp [putCells, hsz], ?_⟩⟩
    rw [Nat.mul_one, ← hl]
    exact take_put cur ts (by omega)
set_option maxHeartbeats 1000000 in
theorem sort_ (L : SlLaysF.n6 P ρ) (L0 : SlLaysF0.n6 P ρ) (enc : α → Value) (h1 : OneCell enc) (cf : α → α → Int) (hO : SWO (ltOf cf)) (f : Nat) (cb : Array Value) (v : Value) (base e n : Nat) (ds : List α) (w : World)
    (eg : ∀ args w, (callFunc f args).run P w = .ok (.enter f args) w)
    (hcmp : ∀ W, w.grownBy W v.ownBlock → ∀ x y, Calls P f (#[enc x, enc y] ++ cb) W fun e w' => e = .returned (.int .i64 (cf x y)) ∧ Gr W w')
    (hown : w.ownsRow base e 1 v n (ds.map enc)) (hsz : n < 4611686018427387904) :
    Calls P (ρ.f 6) #[v, .func (.func f) #[] cb] w fun en w' => en = .returned (.tuple #[]) ∧ ∃ ds' : List α, ds'.Perm ds ∧ (ds'.Pairwise fun x y => ltOf cf y x = false) ∧ w'.ownsRow base e 1 v n (ds'.map enc) ∧ w.grownBy w' v.ownBlock := by
  have hl : ds.length = n := by have := hown.1; simpa using this
  have hown2 := hown
  rcases hown.2 with ⟨rfl, rfl⟩ | ⟨g, cap, cur, rfl, hb, hg, hnc, hcm, _, _⟩
  · have hd : ds = [] := List.eq_nil_of_length_eq_zero hl
    subst hd
    exact (AnyF.slices_SortFunc_none L0 none 0 _ w).mono fun _ _ ⟨he, hw⟩ => ⟨he, [], List.Perm.refl _, List.Pairwise.nil, by rw [hw]; exact hown2, by rw [hw]; exact World.grownBy.refl w _⟩
  · have hsd : ds.toArray.size = n := by simpa using hl
    have hgl : g < w.heap.size := (Array.getElem?_eq_some_iff.1 hg).1
    have hc := Any.slices_SortFunc L enc h1 cf hO f cb g 0 cap ds.toArray w eg (fun m os dk hs x y => (hcmp _ (grownBy_sort dk m os) x y).mono fun _ _ h => h) (holds_of_own hown2) hgl (by rw [hsd]; exact hsz)
    rw [hsd] at hc
    refine hc.mono ?_
    rintro en w' ⟨he, d', m, os, hp, hs, hw⟩
    subst hw
    obtain ⟨p1, _, p2⟩ := hp
    rw [hsd] at p1
    refine ⟨he, d'.toList, ?_, ?_, ?_, grownBy_sort d' m os⟩
    · have e1 : (d'.extract 0 n).toList = d'.toList := by rw [← p1]; simp
      have e2 : (ds.toArray.extract 0 n).toList = ds := by rw [← hl]; simp
      rw [e1, e2] at p2
      exact p2
    · rw [List.pairwise_iff_getElem]
      intro i j hi hj hij
      have hi' : i < d'.size := by simpa using hi
      have hj' : j < d'.size := by simpa using hj
      have h3 := hs i j (Nat.zero_le _) hij (by omega)
      simpa [hi', hj'] using h3
    · have h9 := own_sort (ts := d'.toList) hown2 (by simpa using p1) m os
      rw [Array.toArray_toList] at h9
      exact h9
end
end Srt
end Go.Proofs.Ytdgbemafhhhceaa
