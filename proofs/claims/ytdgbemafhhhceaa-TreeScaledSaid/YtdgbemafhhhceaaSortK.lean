/-
  slices.SortFunc at structs of k cells, of a row that the call owns: the row holds a permutation, sorted; nothing else is changed.
-/
import Derived.Test.YtdgbemafhhhceaaSort
namespace Go.Proofs.Ytdgbemafhhhceaa
set_option linter.unusedVariables false
set_option linter.unusedSimpArgs false
open Go.RowKit Go.Shelf Go.Lib Go.Sort Go.Proofs
namespace Srt
section
variable {P : Program} {ρ : Ren} {α : Type} [Inhabited α] {enc : α → List Value} {w w' : World} {g n cap base e k : Nat} {ds : List α} {xs : List Value}
theorem flat_toList (hk : ∀ x, (enc x).length = k) (h0 : 0 < k) (ds : List α) : flatK enc k ds.toArray = (ds.flatMap enc).toArray := by
  apply Array.ext
  · simp [flat_len enc k hk ds]
  · intro t h1 h2
    have ht : t < ds.length * k := by simpa using h1
    have hq : t / k < ds.length := (Nat.div_lt_iff_lt_mul h0).2 ht
    have hx : ds[t / k]? = some ds[t / k] := List.getElem?_eq_getElem hq
    have hf := flat_at enc k hk ds[t / k] (t % k) (Nat.mod_lt _ h0) ds (t / k) hx
    rw [Nat.mul_comm, Nat.div_add_mod] at hf
    have hm : t % k < (enc ds[t / k]).length := by rw [hk]; exact Nat.mod_lt _ h0
    have e1 : (flatK enc k ds.toArray)[t] = (enc ds[t / k])[t % k] := by
      simp [flatK, hq, hm]
    rw [e1]
    have e2 : (ds.flatMap enc)[t]? = some (ds.flatMap enc)[t] := List.getElem?_eq_getElem (by simpa using h2)
    rw [e2, List.getElem?_eq_getElem hm] at hf
    injection hf with hf
    rw [← hf]
    simp
theorem holds_id {size : Nat} (h : w.ownsRow base e size (.slice (some ⟨g, 0, none⟩) n cap) n xs) : Holds id w g 0 xs.toArray := by
  intro j hj
  have hj' : j < xs.length := by simpa using hj
  have hc := h.cells (g := g) rfl j xs[j] (by simp [hj'])
  have hf : w.frozen? ⟨g, 0 + j, none⟩ = false := by
    rcases h.2 with ⟨h0, _⟩ | ⟨g', cap', cur, hv, _, hg, _⟩
    · cases h0
    · cases hv
      simp [World.frozen?, hg]
  refine ⟨?_, hf⟩
  have e1 : xs.toArray[j]! = xs[j] := by simp [hj']
  rw [e1]
  by_cases h0 : j = 0
  · subst h0; simpa [Addr.add] using hc
  · simpa [Addr.add, h0] using hc
theorem own_id {size : Nat} {ys : List Value} (h : w.ownsRow base e size (.slice (some ⟨g, 0, none⟩) n cap) n xs) (hl : ys.length = n * size) (m : Nat) (os : Array Obj) :
    (sortWorld id w g 0 m ys.toArray os).ownsRow base e size (.slice (some ⟨g, 0, none⟩) n cap) n ys := by
  rcases h.2 with ⟨h0, _⟩ | ⟨g', cap', cur, hv, hb, hg, hnc, hcm, hsz, hx⟩
  · cases h0
  · cases hv
    refine ⟨hl, .inr ⟨g, cap, _, rfl, hb, heap_sort _ m os hg, hnc, hcm, by simp [putCells, hsz], ?_⟩⟩
    have hcs : n * size ≤ cur.size := by rw [hsz]; exact Nat.mul_le_mul_right _ hnc
    have := take_put (enc := id) cur ys (by omega)
    rw [hl] at this
    simpa using this
set_option maxHeartbeats 1000000 in
theorem sortK_ (L0 : SlLaysF0.n6 P ρ) (aE : ∀ w, (isAgg (ρ.t 24)).run P w = .ok true w) (zE : ∀ w, (Go.sizeOf (ρ.t 24)).run P w = .ok k w) (h0 : 0 < k) (enc : α → List Value) (hk : ∀ x, (enc x).length = k) (h1 : ∀ x, ∀ v ∈ enc x, v.oneCell' = true) (cf : α → α → Int) (hO : SWO (ltOf cf)) (f : Nat) (cb : Array Value) (v : Value) (base e n : Nat) (ds : List α) (w : World)
    (eg : ∀ args w, (callFunc f args).run P w = .ok (.enter f args) w)
    (hcmp : ∀ W, w.grownBy W v.ownBlock → ∀ x y, Calls P f (#[.agg (enc x).toArray, .agg (enc y).toArray] ++ cb) W fun e w' => e = .returned (.int .i64 (cf x y)) ∧ Gr W w')
    (hown : w.ownsRow base e k v n (ds.flatMap enc)) (hsz : n < 4611686018427387904) :
    Calls P (ρ.f 6) #[v, .func (.func f) #[] cb] w fun en w' => en = .returned (.tuple #[]) ∧ ∃ ds' : List α, ds'.Perm ds ∧ (ds'.Pairwise fun x y => ltOf cf y x = false) ∧ w'.ownsRow base e k v n (ds'.flatMap enc) ∧ w.grownBy w' v.ownBlock := by
  have hl : ds.length = n := by
    have := hown.1
    rw [flat_len enc k hk] at this
    exact Nat.eq_of_mul_eq_mul_right h0 this
  have hown2 := hown
  rcases hown.2 with ⟨rfl, rfl⟩ | ⟨g, cap, cur, rfl, hb, hg, hnc, hcm, _, _⟩
  · have hd : ds = [] := List.eq_nil_of_length_eq_zero hl
    subst hd
    exact (AnyF.slices_SortFunc_none L0 none 0 _ w).mono fun _ _ ⟨he, hw⟩ => ⟨he, [], List.Perm.refl _, List.Pairwise.nil, by rw [hw]; exact hown2, by rw [hw]; exact World.grownBy.refl w _⟩
  · have hsd : ds.toArray.size = n := by simpa using hl
    have hgl : g < w.heap.size := (Array.getElem?_eq_some_iff.1 hg).1
    have hH : HoldsK enc k w g 0 ds.toArray := by
      unfold HoldsK
      rw [flat_toList hk h0]
      exact holds_id hown2
    have hc := AnyQ.slices_SortFunc L0 k aE zE enc hk h1 cf hO f cb g 0 cap ds.toArray w eg (fun m os dk hs x y => (hcmp _ (grownBy_sort (enc := id) (flatK enc k dk) m os) x y).mono fun _ _ h => h) hH hgl (by rw [hsd]; exact hsz)
    rw [hsd] at hc
    refine hc.mono ?_
    rintro en w' ⟨he, d', m, os, hp, hs, hw⟩
    subst hw
    obtain ⟨p1, _, p2⟩ := hp
    rw [hsd] at p1
    refine ⟨he, d'.toList, ?_, ?_, ?_, grownBy_sort (enc := id) (flatK enc k d') m os⟩
    · have e1 : (d'.extract 0 n).toList = d'.toList := by rw [← p1]; simp
      have e2 : (ds.toArray.extract 0 n).toList = ds := by rw [← hl]; simp
      rw [e1, e2] at p2
      exact p2
    · rw [List.pairwise_iff_getElem]
      intro i j hi hj hij
      have hi' : i < d'.size := by simpa using hi
      have hj' : j < d'.size := by simpa using hj
      have h3 := hs i j (Nat.zero_le _) hij (by omega)
      simpa [hi', hj'] using h3
    · have h9 := own_id (ys := d'.toList.flatMap enc) hown2 (by rw [flat_len enc k hk]; simp [p1]) m os
      have e3 := flat_toList hk h0 d'.toList
      rw [Array.toArray_toList] at e3
      have e4 : sortWorldK enc k w g 0 m d' os = sortWorld id w g 0 m (flatK enc k d') os := rfl
      rw [e4, e3]
      exact h9
end
end Srt
end Go.Proofs.Ytdgbemafhhhceaa
