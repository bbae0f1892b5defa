/-
  The walk of the program's settle: the rounds.
-/
import Derived.Test.YtdgbemafhhhceaaTreePRead
import Derived.Test.YtdgbemafhhhceaaTreePHears
import Derived.Test.YtdgbemafhhhceaaTreeSame
import Derived.Test.YtdgbemafhhhceaaTreeRSettled
namespace Go.Proofs.Ytdgbemafhhhceaa
set_option linter.unusedVariables false
set_option linter.unusedSimpArgs false
open Go.RowKit
open Go.Proofs.Ytdgbemafhhhceaa.Prio
namespace Tree
theorem put4 {w : World} {g : Nat} {t : TypeId} {xs : List Vec} (h : Row w g t (xs.flatMap cellsV)) {k : Nat} (hk : k < xs.length) (x : Vec) :
    Row ((((w.setCell ⟨g, k * 4, none⟩ (.int .u64 x.root)).setCell ⟨g, k * 4 + 1, none⟩ (.int .i64 x.cost)).setCell ⟨g, k * 4 + 2, none⟩ (.int .u64 x.bridge)).setCell ⟨g, k * 4 + 3, none⟩ (.int .i64 x.port)) g t ((xs.set k x).flatMap cellsV) := by
  obtain ⟨a, ha⟩ : ∃ a, xs[k]? = some a := ⟨_, List.getElem?_eq_getElem hk⟩
  have h1 := Row.put lenV h ha { a with root := x.root } 0 (.int .u64 x.root) (by omega) rfl
  have h2 := Row.put lenV h1 (set_at _ ha) { a with root := x.root, cost := x.cost } 1 (.int .i64 x.cost) (by omega) rfl
  rw [set_set] at h2
  have h3 := Row.put lenV h2 (set_at _ ha) { a with root := x.root, cost := x.cost, bridge := x.bridge } 2 (.int .u64 x.bridge) (by omega) rfl
  rw [set_set] at h3
  have h4 := Row.put lenV h3 (set_at _ ha) x 3 (.int .i64 x.port) (by omega) rfl
  rw [set_set] at h4
  exact h4
theorem vec_at {w : World} {g : Nat} {t : TypeId} {xs : List Vec} {n : Nat} (h : Row w g t (xs.flatMap cellsV)) (hl : xs.length = n) {p : Nat} (hp : p < n) :
    (∃ u, w.cell? ⟨g, p * 4, none⟩ = some u) ∧ (∃ u, w.cell? ⟨g, p * 4 + 1, none⟩ = some u) ∧ (∃ u, w.cell? ⟨g, p * 4 + 2, none⟩ = some u) ∧ (∃ u, w.cell? ⟨g, p * 4 + 3, none⟩ = some u) := by
  have hcs : ∀ j, j < n * 4 → ∃ u, w.cell? ⟨g, j, none⟩ = some u := fun j hj => by
    have : (xs.flatMap cellsV).length = n * 4 := by rw [flat_len cellsV 4 lenV, hl]
    exact ⟨_, h.cell (List.getElem?_eq_getElem (by omega))⟩
  exact ⟨hcs _ (by omega), hcs _ (by omega), hcs _ (by omega), hcs _ (by omega)⟩
theorem madeV (n : Nat) : (madeCells (Value.agg #[.int .u64 0, .int .i64 0, .int .u64 0, .int .i64 0]).cells (n * 4)).toList = (List.replicate n zv).flatMap cellsV := by
  induction n with
  | zero => simp [madeCells]
  | succ n ih =>
    have e : (List.replicate (n + 1) zv).flatMap cellsV = (List.replicate n zv).flatMap cellsV ++ cellsV zv := by
      rw [List.replicate_succ', List.flatMap_append]
      simp
    rw [e, ← ih]
    apply List.ext_getElem?
    intro i
    have l1 : (madeCells (Value.agg #[.int .u64 0, .int .i64 0, .int .u64 0, .int .i64 0]).cells (n * 4)).toList.length = n * 4 := by simp [madeCells]
    by_cases hi : i < n * 4
    · rw [List.getElem?_append_left (by rw [l1]; exact hi)]
      simp only [madeCells, Array.toList_map, Array.toList_range, List.getElem?_map]
      rw [List.getElem?_range (by omega), List.getElem?_range hi]
    · rw [List.getElem?_append_right (by rw [l1]; omega), l1]
      simp only [madeCells, Array.toList_map, Array.toList_range, List.getElem?_map]
      by_cases hj : i < (n + 1) * 4
      · rw [List.getElem?_range hj]
        obtain ⟨r, hr, rfl⟩ : ∃ r, r < 4 ∧ i = n * 4 + r := ⟨i - n * 4, by omega, by omega⟩
        have e2 : n * 4 + r - n * 4 = r := by omega
        rw [e2]
        have e3 : (n * 4 + r) % (Value.agg #[.int .u64 0, .int .i64 0, .int .u64 0, .int .i64 0]).cells.size = r := by
          show (n * 4 + r) % 4 = r
          omega
        simp only [Option.map_some, e3]
        rcases (show r = 0 ∨ r = 1 ∨ r = 2 ∨ r = 3 by omega) with rfl | rfl | rfl | rfl <;> rfl
      · rw [List.getElem?_eq_none (by simp; omega), List.getElem?_eq_none (by show 4 ≤ i - n * 4; omega)]
        rfl
section
variable {ids : List Int} {vs : List Vec} {sides : List Sd} {bs : List Br}
theorem Bs.put (h : Bs ids vs sides bs) {a : Nat} {b : Br} (ha : bs[a]? = some b) (v : Vec) : Bs ids (vs.set a v) sides (bs.set a { b with best := v }) := by
  refine ⟨(map_set_same (y := { b with best := v }) _ ha rfl).trans h.ids, by rw [List.map_set, h.best], fun i c hc => ?_⟩
  by_cases hi : i = a
  · subst hi
    rw [set_at _ ha] at hc
    cases hc
    exact h.sd i b ha
  · rw [List.getElem?_set_ne (Ne.symm hi)] at hc
    exact h.sd i c hc
theorem Bs.ok {ls : List Lk} (h : Bs ids vs (sidesOf ls) bs) (hm : May ids ls) {i : Nat} {b : Br} (hb : bs[i]? = some b) : (∀ s ∈ b.sd, SdOk ids.length s) ∧ b.sd.length ≤ 200 := by
  refine ⟨fun s hs => ?_, ?_⟩
  · have h1 := (List.mem_filter.1 ((h.sd i b hb).mem_iff.1 hs)).1
    obtain ⟨h2, h3, h4⟩ := side_ok hm h1
    exact ⟨⟨h2.p0, h2.p1⟩, h3, h4⟩
  · have h1 := Bs.small h hb
    unfold sidesOf at h1
    rw [sidesTo_len ls ls.length (Nat.le_refl _)] at h1
    have := hm.l
    omega
end
/-- what stands in the new list behind k bridges -/
def nextZ (ids : List Int) (best : List Vec) (es : List En) (n k : Nat) : List Vec := nextTo ids best es k ++ List.replicate (n - k) zv
theorem nextZ_len {ids : List Int} {best : List Vec} {es : List En} {n k : Nat} (hk : k ≤ n) : (nextZ ids best es n k).length = n := by
  unfold nextZ
  rw [List.length_append, nextTo_len, List.length_replicate]
  omega
theorem nextZ_set {ids : List Int} {best : List Vec} {es : List En} {n k : Nat} (hk : k < n) : (nextZ ids best es n k).set k (nextV ids best es k) = nextZ ids best es n (k + 1) := by
  unfold nextZ
  have e : n - k = (n - (k + 1)) + 1 := by omega
  rw [List.set_append_right _ _ (by rw [nextTo_len]; exact Nat.le_refl _), nextTo_len, Nat.sub_self, e, List.replicate_succ, List.set_cons_zero]
  show nextTo ids best es k ++ (nextV ids best es k :: List.replicate (n - (k + 1)) zv) = (nextTo ids best es k ++ [nextV ids best es k]) ++ List.replicate (n - (k + 1)) zv
  rw [List.append_assoc]
  rfl
theorem nextZ_all {ids : List Int} {best : List Vec} {es : List En} {n : Nat} : nextZ ids best es n n = nextTo ids best es n := by
  unfold nextZ
  simp
/-- the new ones up to a bridge, the old ones behind -/
def mixV (new old : List Vec) (k : Nat) : List Vec := new.take k ++ old.drop k
theorem mixV_set {new old : List Vec} {k : Nat} {v : Vec} (hv : new[k]? = some v) (hl : new.length = old.length) : (mixV new old k).set k v = mixV new old (k + 1) := by
  obtain ⟨hk, e⟩ := List.getElem?_eq_some_iff.1 hv
  unfold mixV
  have l1 : (new.take k).length = k := by rw [List.length_take]; omega
  rw [List.set_append_right _ _ (by rw [l1]; exact Nat.le_refl _), l1, Nat.sub_self, List.drop_eq_getElem_cons (by omega), List.set_cons_zero, List.take_succ_eq_append_getElem hk, e, List.append_assoc]
  rfl
set_option maxHeartbeats 16000000 in
set_option maxRecDepth 100000 in
theorem settle_ (w : World) (base N n cap : Nat) (ids : List Int) (ls : List Lk) (bs : List Br) (hnet : NetAt w base N bs) (hmay : May ids ls) (hbs : Bs ids (ids.map own) (sidesOf ls) bs) (hn : ids.length = n) :
    Calls Try.prog 24 #[.slice (some ⟨N, 0, none⟩) n cap] w fun e w' => e = .returned (.tuple #[]) ∧ ∃ bs', NetAt w' base N bs' ∧ Bs ids (atRest ids ls) (sidesOf ls) bs' ∧ Below base w w' := by
  obtain ⟨i0, hi, hz0, hz1, hz2⟩ := info_parts infoV
  have hn2 : n ≤ 12 := by have := hmay.n2; omega
  have hn1 : 1 ≤ n := by have := hmay.n1; omega
  have HM := Lib.hid hmay
  have HL := Lib.hid hn
  have HNET0 := Lib.hid hnet
  have HBS0 := Lib.hid hbs
  have b2 : i0.bytes * n ≤ 281474976710656 := by rw [hz2]; omega
  have hlo := hnet.lo
  have hNl := hnet.lt
  clear hmay hn hnet hbs
  go_enter Try.func24, Try.ntmps24
  go_wp2
  go_loopw [8] (fun i wr => ∃ (r : Nat) (bs : List Br), r ≤ n ∧ i = .int .i64 r ∧ NetAt wr base N bs ∧ Bs ids (rest ids (endsOf ls) r) (sidesOf ls) bs ∧ Below base w wr ∧ w.heap.size ≤ wr.heap.size) (fun i _ => n - (intOf i).toNat)
  case atStart => exact ⟨0, bs, Nat.zero_le _, rfl, HNET0.out, HBS0.out, Below.refl _ _, Nat.le_refl _⟩
  case round =>
    clear HNET0 HBS0
    obtain ⟨r, bs, hr, rfl, hnet, hbs, hbel, hwz⟩ := hrel
    have HNET := Lib.hid hnet
    have HBS := Lib.hid hbs
    have HB := Lib.hid hbel
    have hNr := hnet.lt
    clear hnet hbs hbel
    by_cases hrl : r < n
    · have hrl' : (r : Int) < (n : Int) := by omega
      obtain ⟨wo, rfl⟩ : ∃ wo : World, wo = wr := ⟨_, rfl⟩
      go_wp2_with (at_make; refine wpList_make_full _ rfl (.tmp 11) (.tmp 11) 71 rfl wo.heap.size 62 i0 _ 4 Try.underlying71 hi hz0 hz1 .i64 .i64 _ _ n rfl rfl rfl rfl b2 (by unfold maxLen; omega) (Nat.le_refl _) ?_; intro w1 hown hg1; rw [madeV] at hown; have HROW := Lib.hid (Row.of_own hown hn1); have HG1 := Lib.hid (below_of_grown' hg1); have hz1' := hg1.size; clear hown hg1)
      obtain ⟨gq, cq, hvq, hbq, _, _, hrow⟩ := HROW.out
      cases hvq
      have HR1 : Hid (Row w1 wo.heap.size 62 ((nextZ ids (rest ids (endsOf ls) r) (endsOf ls) n 0).flatMap cellsV)) := Lib.hid hrow
      have HN1 := Lib.hid (HNET.out.keep HG1.out)
      clear HROW hrow
      go_loopw [15] (fun i wr => ∃ k : Nat, k ≤ n ∧ i = .int .i64 k ∧ Row wr wo.heap.size 62 ((nextZ ids (rest ids (endsOf ls) r) (endsOf ls) n k).flatMap cellsV) ∧ Below wo.heap.size wo wr ∧ w1.heap.size ≤ wr.heap.size) (fun i _ => n - (intOf i).toNat)
      case atStart => exact ⟨0, Nat.zero_le _, rfl, HR1.out, HG1.out, Nat.le_refl _⟩
      case round =>
        obtain ⟨k, hk, rfl, hrow, hbel, hwz1⟩ := hrel
        have HROW := Lib.hid hrow
        have HB2 := Lib.hid hbel
        have hgl := hrow.lt
        by_cases hlt : k < n
        · have hlt' : (k : Int) < (n : Int) := by omega
          have hnet := HNET.out.keep hbel
          have hbl : bs.length = n := by rw [HBS.out.len, HL.out]
          obtain ⟨b, hb⟩ : ∃ b, bs[k]? = some b := ⟨_, List.getElem?_eq_getElem (by omega)⟩
          obtain ⟨hsd, hsl⟩ := HBS.out.ok HM.out hb
          rw [HL.out] at hsd
          obtain ⟨bi, bv, bd, bb⟩ := b
          obtain ⟨As, cs, hv, _⟩ := own_form (hnet.own k _ hb)
          obtain rfl : bv = .slice As bd.length cs := hv
          obtain ⟨x0, x1, x2, x3, x4, x5⟩ := br_cells hnet hb
          simp only at x0 x1 x2 x3 x4 x5
          obtain ⟨st, hst⟩ : ∃ st, st = bestOf bi (heardS (bs.map (·.id)) (bs.map (·.best)) bd) := ⟨_, rfl⟩
          have HNV : Hid (nextV ids (rest ids (endsOf ls) r) (endsOf ls) k = st.2) := Lib.hid (by
            have e1 := heard_same HM.out (rest ids (endsOf ls) r) (HBS.out.sd k _ hb)
            have e2 : ids[k]? = some bi := by rw [← HBS.out.ids, List.getElem?_map, hb]; rfl
            unfold nextV
            rw [hst, HBS.out.ids, HBS.out.best, getD_of e2, ← e1])
          have hneb : wo.heap.size ≠ wr.heap.size := by omega
          have HNETa := Lib.hid (hnet.alloc (.cells #[.int .u64 bi, .slice As bd.length cs, .int .u64 bb.root, .int .i64 bb.cost, .int .u64 bb.bridge, .int .i64 bb.port] 64))
          have HROWa := Lib.hid (hrow.alloc (.cells #[.int .u64 bi, .slice As bd.length cs, .int .u64 bb.root, .int .i64 bb.cost, .int .u64 bb.bridge, .int .i64 bb.port] 64))
          have HBa := Lib.hid (hbel.alloc (by omega) (.cells #[.int .u64 bi, .slice As bd.length cs, .int .u64 bb.root, .int .i64 bb.cost, .int .u64 bb.bridge, .int .i64 bb.port] 64))
          have HBXa := Lib.hid (Blk.new wr 64 #[.int .u64 bi, .slice As bd.length cs, .int .u64 bb.root, .int .i64 bb.cost, .int .u64 bb.bridge, .int .i64 bb.port])
          have hza : wr.heap.size < (wr.alloc (.cells #[.int .u64 bi, .slice As bd.length cs, .int .u64 bb.root, .int .i64 bb.cost, .int .u64 bb.bridge, .int .i64 bb.port] 64)).heap.size := by simp
          have HSD := Lib.hid hsd
          have HBK := Lib.hid hb
          have hsl2 : bd.length ≤ 200 := hsl
          have hst' := hst
          clear hnet hb hrow hbel hsd hsl hst hbl
          go_upto_region 6 with (fail)
          clear x0 x1 x2 x3 x4 x5
          generalize wr.alloc (.cells #[.int .u64 bi, .slice As bd.length cs, .int .u64 bb.root, .int .i64 bb.cost, .int .u64 bb.bridge, .int .i64 bb.port] 64) = W at *
          have HC := Lib.hid (hears_ W.drew base N n cap bs HNETa.out.drew (by rw [HBS.out.len, HL.out]) k _ HBK.out HSD.out hsl2 bi bb)
          have HBC : Hid (∀ (W : World) (A6 : Option Addr) (c6 : Nat), Reads W W.heap.size 6 A6 16 ((heardS (bs.map (·.id)) (bs.map (·.best)) bd).flatMap cellsH) → Calls Try.prog 35 #[.int .u64 bi, .slice A6 16 c6] W fun e w' => e = .returned (.tuple #[.int .i64 st.1, .agg #[.int .u64 st.2.root, .int .i64 st.2.cost, .int .u64 st.2.bridge, .int .i64 st.2.port]]) ∧ Below W.heap.size W w') := Lib.hid (fun W A6 c6 hR => by
            rw [hst']
            exact best_ bi A6 16 c6 _ W (by omega) hR)
          clear hst'
          have n0 : W.cell? ⟨wr.heap.size, 0, none⟩ = some (.int .u64 bi) := HBXa.out.cell 0
          have n1 : W.cell? ⟨wr.heap.size, 1, none⟩ = some (.slice As bd.length cs) := HBXa.out.cell 1
          have n2 : W.cell? ⟨wr.heap.size, 2, none⟩ = some (.int .u64 bb.root) := HBXa.out.cell 2
          have n3 : W.cell? ⟨wr.heap.size, 3, none⟩ = some (.int .i64 bb.cost) := HBXa.out.cell 3
          have n4 : W.cell? ⟨wr.heap.size, 4, none⟩ = some (.int .u64 bb.bridge) := HBXa.out.cell 4
          have n5 : W.cell? ⟨wr.heap.size, 5, none⟩ = some (.int .i64 bb.port) := HBXa.out.cell 5
          have hgr : wo.heap.size < wr.heap.size := hgl
          go_region_held3 (fun w' => w'.cell? ⟨wr.heap.size, 0, none⟩ = some (.int .u64 bi) ∧ w'.cell? ⟨wr.heap.size, 1, none⟩ = some (.slice As bd.length cs) ∧ w'.cell? ⟨wr.heap.size, 2, none⟩ = some (.int .u64 bb.root) ∧ w'.cell? ⟨wr.heap.size, 3, none⟩ = some (.int .i64 bb.cost) ∧ w'.cell? ⟨wr.heap.size, 4, none⟩ = some (.int .u64 bb.bridge) ∧ w'.cell? ⟨wr.heap.size, 5, none⟩ = some (.int .i64 bb.port))
            (first
              | go_keep
              | (simp [m0, m1, m2, m3, m4, m5]; done)
              | (simp [l0, l1, l2, l3, l4, l5]; done)
              | (simp [cell_far, hneb, Ne.symm hneb, l0, l1, l2, l3, l4, l5]; done))
            (first
              | (go_at_call 26; (with_reducible refine HC.out.mono ?_); rintro e' w3 ⟨⟨A6, c6, rfl, hR6⟩, hb3⟩; have z3 : W.heap.size ≤ w3.heap.size := hb3.size; have m0 : w3.cell? ⟨wr.heap.size, 0, none⟩ = some (.int .u64 bi) := ((bcell hb3).1 _ _ (by simpa using hza)).trans n0; have m1 : w3.cell? ⟨wr.heap.size, 1, none⟩ = some (.slice As bd.length cs) := ((bcell hb3).1 _ _ (by simpa using hza)).trans n1; have m2 : w3.cell? ⟨wr.heap.size, 2, none⟩ = some (.int .u64 bb.root) := ((bcell hb3).1 _ _ (by simpa using hza)).trans n2; have m3 : w3.cell? ⟨wr.heap.size, 3, none⟩ = some (.int .i64 bb.cost) := ((bcell hb3).1 _ _ (by simpa using hza)).trans n3; have m4 : w3.cell? ⟨wr.heap.size, 4, none⟩ = some (.int .u64 bb.bridge) := ((bcell hb3).1 _ _ (by simpa using hza)).trans n4; have m5 : w3.cell? ⟨wr.heap.size, 5, none⟩ = some (.int .i64 bb.port) := ((bcell hb3).1 _ _ (by simpa using hza)).trans n5; have HD := Lib.hid (HBC.out w3 A6 c6 hR6); have HW3 := Lib.hid hb3; clear hR6 hb3)
              | (go_at_call 35; (with_reducible refine HD.out.mono ?_); rintro e' w4 ⟨rfl, hb4⟩; have l0 : w4.cell? ⟨wr.heap.size, 0, none⟩ = some (.int .u64 bi) := ((bcell hb4).1 _ _ (by omega)).trans m0; have l1 : w4.cell? ⟨wr.heap.size, 1, none⟩ = some (.slice As bd.length cs) := ((bcell hb4).1 _ _ (by omega)).trans m1; have l2 : w4.cell? ⟨wr.heap.size, 2, none⟩ = some (.int .u64 bb.root) := ((bcell hb4).1 _ _ (by omega)).trans m2; have l3 : w4.cell? ⟨wr.heap.size, 3, none⟩ = some (.int .i64 bb.cost) := ((bcell hb4).1 _ _ (by omega)).trans m3; have l4 : w4.cell? ⟨wr.heap.size, 4, none⟩ = some (.int .u64 bb.bridge) := ((bcell hb4).1 _ _ (by omega)).trans m4; have l5 : w4.cell? ⟨wr.heap.size, 5, none⟩ = some (.int .i64 bb.port) := ((bcell hb4).1 _ _ (by omega)).trans m5; have HW4 := Lib.hid ((Below.refl W.heap.size W).drew.trans (HW3.out.trans (hb4.mono z3))); have HR4 := Lib.hid (HROWa.out.below HW4.out (by omega)); obtain ⟨⟨u0, z0⟩, ⟨u1, z1⟩, ⟨u2, z2⟩, ⟨u3, z3'⟩⟩ := vec_at HR4.out (nextZ_len (Nat.le_of_lt hlt)) hlt; have r0 := HR4.out.frozen (k * 4); have r1 := HR4.out.frozen (k * 4 + 1); have r2 := HR4.out.frozen (k * 4 + 2); have r3 := HR4.out.frozen (k * 4 + 3); clear hb4))
          go_wp2
          have hP := put4 HR4.out (k := k) (by rw [nextZ_len (Nat.le_of_lt hlt)]; exact hlt) st.2
          rw [← HNV.out, nextZ_set hlt, HNV.out] at hP
          have hz4 := HW4.out.size
          refine ⟨⟨k + 1, by omega, by go_num, hP, ?_, by simp [World.setCell]; omega⟩, by simp [intOf]; omega⟩
          exact ((((HBa.out.trans (HW4.out.mono (by omega))).setCell (Nat.le_refl _) _).setCell (Nat.le_refl _) _).setCell (Nat.le_refl _) _).setCell (Nat.le_refl _) _
        · have e : k = n := by omega
          have HR5 : Hid (Row wr wo.heap.size 62 ((rest ids (endsOf ls) (r + 1)).flatMap cellsV)) := Lib.hid (by
            have h9 := hrow
            rw [e, nextZ_all] at h9
            unfold rest
            rw [HL.out]
            exact h9)
          have HN5 := Lib.hid (HNET.out.keep hbel)
          have HB5 := Lib.hid (HB.out.trans (hbel.mono (by omega)))
          clear hrow hbel
          obtain ⟨wC, rfl⟩ : ∃ wC : World, wC = wr := ⟨_, rfl⟩
          subst e
          go_wp2
          go_loopw [35] (fun i wr => ∃ (j : Nat) (bs : List Br), j ≤ k ∧ i = .int .i64 j ∧ NetAt wr base N bs ∧ Bs ids (mixV (rest ids (endsOf ls) (r + 1)) (rest ids (endsOf ls) r) j) (sidesOf ls) bs ∧ Row wr wo.heap.size 62 ((rest ids (endsOf ls) (r + 1)).flatMap cellsV) ∧ Below base w wr ∧ w.heap.size ≤ wr.heap.size) (fun i _ => k - (intOf i).toNat)
          case atStart => exact ⟨0, bs, Nat.zero_le _, rfl, HN5.out, by unfold mixV; simpa using HBS.out, HR5.out, HB5.out, by omega⟩
          case round =>
            obtain ⟨j, bs2, hj, rfl, hnet, hbs, hrow, hbel, hwz⟩ := hrel
            have HNET6 := Lib.hid hnet
            have HBS6 := Lib.hid hbs
            have HROW6 := Lib.hid hrow
            have HB6 := Lib.hid hbel
            by_cases hjl : j < k
            · have hjl' : (j : Int) < (k : Int) := by omega
              have hbl : bs2.length = k := by rw [hbs.len, HL.out]
              obtain ⟨b, hb⟩ : ∃ b, bs2[j]? = some b := ⟨_, List.getElem?_eq_getElem (by omega)⟩
              obtain ⟨v, hv⟩ : ∃ v, (rest ids (endsOf ls) (r + 1))[j]? = some v := ⟨_, List.getElem?_eq_getElem (by rw [rest_len, HL.out]; omega)⟩
              have v0 : wr.cell? ⟨wo.heap.size, j * 4, none⟩ = some (.int .u64 v.root) := hrow.at_ lenV hv (j := 0) (by omega) rfl
              have v1 : wr.cell? ⟨wo.heap.size, j * 4 + 1, none⟩ = some (.int .i64 v.cost) := hrow.at_ lenV hv (by omega) rfl
              have v2 : wr.cell? ⟨wo.heap.size, j * 4 + 2, none⟩ = some (.int .u64 v.bridge) := hrow.at_ lenV hv (by omega) rfl
              have v3 : wr.cell? ⟨wo.heap.size, j * 4 + 3, none⟩ = some (.int .i64 v.port) := hrow.at_ lenV hv (by omega) rfl
              obtain ⟨x0, x1, x2, x3, x4, x5⟩ := br_cells hnet hb
              have y2 := hnet.row.frozen (j * 6 + 2)
              have y3 := hnet.row.frozen (j * 6 + 2 + 1)
              have y4 := hnet.row.frozen (j * 6 + 2 + 2)
              have y5 := hnet.row.frozen (j * 6 + 2 + 3)
              have hP := Lib.hid (hnet.put hb v)
              have hQ := Lib.hid (hbs.put hb v)
              rw [mixV_set hv (by rw [rest_len, rest_len])] at hQ
              have hR := Lib.hid ((((hrow.far (p := ⟨N, j * 6 + 2, none⟩) (by show wo.heap.size ≠ N; omega) (.int .u64 v.root)).far (p := ⟨N, j * 6 + 3, none⟩) (by show wo.heap.size ≠ N; omega) (.int .i64 v.cost)).far (p := ⟨N, j * 6 + 4, none⟩) (by show wo.heap.size ≠ N; omega) (.int .u64 v.bridge)).far (p := ⟨N, j * 6 + 5, none⟩) (by show wo.heap.size ≠ N; omega) (.int .i64 v.port))
              clear hnet hbs hrow hbel hb hv hbl
              go_wp2
              refine ⟨⟨j + 1, _, by omega, by go_num, hP.out, hQ.out, hR.out, ?_, by simp [World.setCell]; omega⟩, by simp [intOf]; omega⟩
              exact (((HB6.out.setCell hlo _).setCell hlo _).setCell hlo _).setCell hlo _
            · have e : j = k := by omega
              have HBS7 : Hid (Bs ids (rest ids (endsOf ls) (r + 1)) (sidesOf ls) bs2) := Lib.hid (by
                have h9 := hbs
                unfold mixV at h9
                rw [List.take_of_length_le (by rw [rest_len, HL.out]; omega), List.drop_of_length_le (by rw [rest_len, HL.out]; omega), List.append_nil] at h9
                exact h9)
              clear hnet hbs hrow hbel
              go_wp2
              exact ⟨⟨r + 1, bs2, by omega, by go_num, HNET6.out, HBS7.out, HB6.out, by omega⟩, by simp [intOf]; omega⟩
    · have e : r = n := by omega
      subst e
      go_wp2
      go_end0
      exact ⟨rfl, bs, HNET.out, by unfold atRest; rw [HL.out]; exact HBS.out, HB.out⟩
end Tree
end Go.Proofs.Ytdgbemafhhhceaa
