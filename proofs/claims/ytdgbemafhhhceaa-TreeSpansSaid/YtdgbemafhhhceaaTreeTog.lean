/-
  The walk of the document's Together.
-/
import Derived.Test.YtdgbemafhhhceaaTreeTogMath
import Derived.Test.YtdgbemafhhhceaaTreeLive
namespace Go.Proofs.Ytdgbemafhhhceaa
set_option linter.unusedVariables false
set_option linter.unusedSimpArgs false
open Go.RowKit
open Go.Proofs.Ytdgbemafhhhceaa.Prio
namespace Tree
theorem madeI (n : Nat) : (madeCells (Value.int .i64 0).cells (n * 1)).toList = (List.replicate n (0 : Int)).map (Value.int .i64) := by
  apply List.ext_getElem?
  intro i
  simp only [madeCells, Array.toList_map, Array.toList_range, List.getElem?_map, List.getElem?_replicate, Nat.mul_one]
  by_cases hi : i < n
  · rw [List.getElem?_range hi, if_pos hi]
    have e3 : i % (Value.int .i64 0).cells.size = 0 := Nat.mod_one i
    simp only [Option.map_some, e3]
    rfl
  · rw [List.getElem?_eq_none (by simp; omega), if_neg hi]
    rfl
theorem rowI_at {w : World} {g : Nat} {t : TypeId} {xs : List Int} (h : Row w g t (xs.map (Value.int .i64))) {k : Nat} {x : Int} (hx : xs[k]? = some x) : w.cell? ⟨g, k, none⟩ = some (.int .i64 x) := h.cell (by rw [List.getElem?_map, hx]; rfl)
theorem rowI_set {w : World} {g : Nat} {t : TypeId} {xs : List Int} (h : Row w g t (xs.map (Value.int .i64))) (k : Nat) (x : Int) : Row (w.setCell ⟨g, k, none⟩ (.int .i64 x)) g t ((xs.set k x).map (Value.int .i64)) := by
  have := h.set_ k (.int .i64 x)
  rw [List.map_set]
  exact this
set_option maxHeartbeats 8000000 in
set_option maxRecDepth 100000 in
theorem together_ (n : Nat) (A2 : Option Addr) (m c2 : Nat) (ls : List Lk) (A3 : Option Addr) (s c3 : Nat) (sm : List Int) (w : World) (h2 : Reads w w.heap.size 5 A2 m (ls.flatMap cellsL)) (h3 : Reads w w.heap.size 1 A3 s (sm.map (Value.int .i64)))
    (hn : n ≤ 1000) (hs : s ≤ 1000) (hl : ∀ l ∈ ls, ∃ a b : Nat, l.a = a ∧ l.b = b ∧ a < n ∧ b < n) (hsm : ∀ x ∈ sm, 0 ≤ x ∧ x < m) :
    Calls Try.prog 19 #[.int .i64 n, .slice A2 m c2, .slice A3 s c3] w fun e w' => (∃ A' c', e = .returned (.slice A' n c') ∧ Reads w' w'.heap.size 1 A' n ((tog n ls sm).map (Value.int .i64))) ∧ Below w.heap.size w w' := by
  obtain ⟨i0, hi, hz0, hz1, hz2⟩ := info_parts infoI
  have b2 : i0.bytes * n ≤ 281474976710656 := by rw [hz2]; omega
  have HLL := Lib.hid (len_of h2)
  have HSL : Hid (sm.length = s) := Lib.hid (by have := h3.1; simpa using this)
  have HL := Lib.hid hl
  have HS := Lib.hid hsm
  clear hl hsm
  go_enter Try.func19, Try.ntmps19
  go_wp2_with (at_make; refine wpList_make_full _ rfl (.tmp 13) (.tmp 13) 33 rfl w.heap.size 3 i0 _ 1 Try.underlying33 hi hz0 hz1 .i64 .i64 _ _ n rfl rfl rfl rfl b2 (by unfold maxLen; omega) (Nat.le_refl _) ?_; intro w1 hown hg1; rw [madeI] at hown; have HR1 := Lib.hid (row_own hown); have HB1 := Lib.hid (below_of_grown' hg1); clear hown hg1)
  go_loopw [8] (fun i wr => ∃ k : Nat, k ≤ n ∧ i = .int .i64 k ∧ Row wr w.heap.size 3 ((iotaZ n k).map (Value.int .i64)) ∧ Below w.heap.size w wr) (fun i _ => n - (intOf i).toNat)
  case atStart => exact ⟨0, Nat.zero_le _, rfl, HR1.out, HB1.out⟩
  case round =>
    clear HR1 HB1
    obtain ⟨k, hk, rfl, hrow, hbel⟩ := hrel
    have HROW := Lib.hid hrow
    have HB := Lib.hid hbel
    by_cases hlt : k < n
    · have hlt' : (k : Int) < (n : Int) := by omega
      have e0 : wr.cell? ⟨w.heap.size, k, none⟩ = some (.int .i64 ((iotaZ n k).getD k 0)) := rowI_at hrow (by rw [List.getD_eq_getElem?_getD, List.getElem?_eq_getElem (by rw [iotaZ_len hk]; exact hlt)]; rfl)
      have f0 := hrow.frozen k
      have HP := Lib.hid (rowI_set hrow k (k : Int))
      rw [iotaZ_set hlt] at HP
      clear hrow hbel
      go_wp2
      exact ⟨⟨k + 1, by omega, by go_num, HP.out, HB.out.setCell (Nat.le_refl _) _⟩, by simp [intOf]; omega⟩
    · have e : k = n := by omega
      have HR2 : Hid (Row wr w.heap.size 3 ((togTo n ls sm 0).map (Value.int .i64))) := Lib.hid (by have h9 := hrow; rw [e, iotaZ_all] at h9; exact h9)
      clear hrow hbel HROW
      subst e
      go_wp2
      go_loopw [9] (fun i wr => ∃ r : Nat, r ≤ k ∧ i = .int .i64 r ∧ Row wr w.heap.size 3 ((togTo k ls sm r).map (Value.int .i64)) ∧ Below w.heap.size w wr) (fun i _ => k - (intOf i).toNat)
      case atStart => exact ⟨0, Nat.zero_le _, rfl, HR2.out, HB.out⟩
      case round =>
        clear HR2 HB
        obtain ⟨r, hr, rfl, hrow, hbel⟩ := hrel
        have HROW := Lib.hid hrow
        have HB := Lib.hid hbel
        have hgl := hrow.lt
        clear hrow hbel
        by_cases hrl : r < k
        · have hrl' : (r : Int) < (k : Int) := by omega
          go_wp2
          go_loopw [10] (fun i wr => ∃ q : Nat, q ≤ s ∧ i = .int .i64 q ∧ Row wr w.heap.size 3 ((sweepTo ls sm (togTo k ls sm r) q).map (Value.int .i64)) ∧ Below w.heap.size w wr) (fun i _ => s - (intOf i).toNat)
          case atStart => exact ⟨0, Nat.zero_le _, rfl, HROW.out, HB.out⟩
          case round =>
            clear HROW HB
            obtain ⟨q, hq, rfl, hrow, hbel⟩ := hrel
            have HROW := Lib.hid hrow
            have HB := Lib.hid hbel
            have hbz := hbel.size
            have hgl := hrow.lt
            by_cases hql : q < s
            · have hql' : (q : Int) < (s : Int) := by omega
              obtain ⟨b3, o3, x, rfl, hb3, hx, c0⟩ := readI (h3.below hbel) hql
              obtain ⟨hx0, hx1⟩ := HS.out x (List.mem_of_getElem? hx)
              obtain ⟨t, rfl⟩ : ∃ t : Nat, x = t := ⟨x.toNat, by omega⟩
              have htl : t < m := by omega
              have htl' : (t : Int) < (m : Int) := by omega
              obtain ⟨b4, o4, l, rfl, hb4, hl4, d0, d1, d2, d3, d4⟩ := read5 (h2.below hbel) htl
              obtain ⟨a, b, ea, eb, ha, hb⟩ := HL.out l (List.mem_of_getElem? hl4)
              have HLK : Hid (linkAt ls sm q = l) := Lib.hid (by unfold linkAt; rw [getD_of hx, Int.toNat_natCast, getD_of hl4])
              obtain ⟨la, lpa, lb, lpb, lcost⟩ := l
              simp only at ea eb d0 d1 d2 d3 d4
              subst ea
              subst eb
              have ha' : (a : Int) < (k : Int) := by omega
              have hb' : (b : Int) < (k : Int) := by omega
              have HROWa := Lib.hid (hrow.alloc (.cells #[.int .i64 a, .int .i64 lpa, .int .i64 b, .int .i64 lpb, .int .i64 lcost] 42))
              have HBa := Lib.hid (hbel.alloc hbz (.cells #[.int .i64 a, .int .i64 lpa, .int .i64 b, .int .i64 lpb, .int .i64 lcost] 42))
              have HBX := Lib.hid (Blk.new wr 42 #[.int .i64 a, .int .i64 lpa, .int .i64 b, .int .i64 lpb, .int .i64 lcost])
              have hlen : (sweepTo ls sm (togTo k ls sm r) q).length = k := by rw [sweep_len, togTo_len]
              generalize hlab : sweepTo ls sm (togTo k ls sm r) q = lab at *
              have HLAB := Lib.hid hlab
              obtain ⟨x, hxa⟩ : ∃ x, lab[a]? = some x := ⟨_, List.getElem?_eq_getElem (by omega)⟩
              obtain ⟨y, hyb⟩ : ∃ y, lab[b]? = some y := ⟨_, List.getElem?_eq_getElem (by omega)⟩
              have HST : Hid (step1 lab ⟨a, lpa, b, lpb, lcost⟩ = (lab.set a (min x y)).set b (min x y)) := Lib.hid (by
                unfold step1 lesser
                simp only [Int.toNat_natCast]
                rw [getD_of hxa, getD_of hyb])
              have HXA := Lib.hid hxa
              have HYB := Lib.hid hyb
              have HLEN := Lib.hid hlen
              clear hlab hx hl4 hrow hbel hxa hyb hlen
              go_upto_region 13 with (fail)
              clear c0 d0 d1 d2 d3 d4
              generalize wr.alloc (.cells #[.int .i64 a, .int .i64 lpa, .int .i64 b, .int .i64 lpb, .int .i64 lcost] 42) = W at *
              have s0 : W.cell? ⟨wr.heap.size, 0, none⟩ = some (.int .i64 a) := HBX.out.cell 0
              have s2 : W.cell? ⟨wr.heap.size, 2, none⟩ = some (.int .i64 b) := HBX.out.cell 2
              have y0 : W.cell? ⟨w.heap.size, a, none⟩ = some (.int .i64 x) := rowI_at HROWa.out HXA.out
              have y1 : W.cell? ⟨w.heap.size, b, none⟩ = some (.int .i64 y) := rowI_at HROWa.out HYB.out
              have f0 := HROWa.out.frozen a
              have f1 := HROWa.out.frozen b
              go_wp2
              go_quiet (fail)
              have HROWq := Lib.hid (HROWa.out.drewN nq)
              have HBq := Lib.hid (below_drewN HBa.out nq)
              have HBXq := Lib.hid (HBX.out.drewN nq)
              clear s0 s2 y0 y1 f0 f1
              generalize W.drewN nq = W2 at *
              have s0 : W2.cell? ⟨wr.heap.size, 0, none⟩ = some (.int .i64 a) := HBXq.out.cell 0
              have y0 : W2.cell? ⟨w.heap.size, a, none⟩ = some (.int .i64 x) := rowI_at HROWq.out HXA.out
              have f0 := HROWq.out.frozen a
              have HROWb := Lib.hid ((rowI_set HROWq.out a (min x y)))
              have HBb := Lib.hid (HBq.out.setCell (p := ⟨w.heap.size, a, none⟩) (Nat.le_refl _) (.int .i64 (min x y)))
              have HBXb := Lib.hid (HBXq.out.far (p := ⟨w.heap.size, a, none⟩) (by show wr.heap.size ≠ w.heap.size; omega) (.int .i64 (min x y)))
              go_upto_region 15 with (fail)
              clear s0 y0 f0
              generalize W2.setCell ⟨w.heap.size, a, none⟩ (.int .i64 (min x y)) = W3 at *
              have s2 : W3.cell? ⟨wr.heap.size, 2, none⟩ = some (.int .i64 b) := HBXb.out.cell 2
              obtain ⟨z, hz⟩ : ∃ z, (lab.set a (min x y))[b]? = some z := ⟨_, List.getElem?_eq_getElem (by rw [List.length_set, HLEN.out]; omega)⟩
              have y1 : W3.cell? ⟨w.heap.size, b, none⟩ = some (.int .i64 z) := rowI_at HROWb.out hz
              have f1 := HROWb.out.frozen b
              clear hz
              have hP := Lib.hid (rowI_set HROWb.out b (min x y))
              go_wp2
              refine ⟨⟨q + 1, by omega, by go_num, ?_, HBb.out.setCell (Nat.le_refl _) _⟩, by simp [intOf]; omega⟩
              unfold sweepTo
              rw [HLAB.out, HLK.out, HST.out]
              exact hP.out
            · have e : q = s := by omega
              have HR9 : Hid (Row wr w.heap.size 3 ((togTo k ls sm (r + 1)).map (Value.int .i64))) := Lib.hid (by
                have h9 := hrow
                rw [e, ← HSL.out] at h9
                exact h9)
              clear hrow hbel
              go_wp2
              exact ⟨⟨r + 1, by omega, by go_num, HR9.out, HB.out⟩, by simp [intOf]; omega⟩
        · have e : r = k := by omega
          subst e
          go_wp2
          go_ret
          exact ⟨⟨_, _, rfl, HROW.out.reads (by rw [List.length_map, togTo_len, Nat.mul_one]) hgl⟩, HB.out⟩
end Tree
end Go.Proofs.Ytdgbemafhhhceaa
