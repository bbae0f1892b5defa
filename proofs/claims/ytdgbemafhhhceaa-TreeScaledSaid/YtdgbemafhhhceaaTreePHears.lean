/-
  The walk of the program's hears: what all ends of a bridge hear.
-/
import Derived.Test.YtdgbemafhhhceaaTreeNet
import Derived.Test.YtdgbemafhhhceaaTreeRHeard
namespace Go.Proofs.Ytdgbemafhhhceaa
set_option linter.unusedVariables false
set_option linter.unusedSimpArgs false
open Go.RowKit
open Go.Proofs.Ytdgbemafhhhceaa.Prio
namespace Tree
theorem side_cells {w : World} {base : Nat} {A : Option Addr} {n c : Nat} {sd : List Sd} (h : w.ownsRow base 69 7 (.slice A n c) n (sd.flatMap cS)) {k : Nat} (hk : k < n) :
    ∃ (g : Nat) (s : Sd), A = some ⟨g, 0, none⟩ ∧ g < w.heap.size ∧ sd[k]? = some s ∧ w.cell? ⟨g, k * 7, none⟩ = some (.int .i64 s.at_) ∧ w.cell? ⟨g, k * 7 + 1, none⟩ = some (.int .i64 s.port) ∧ w.cell? ⟨g, k * 7 + 2, none⟩ = some (.int .i64 s.fat) ∧ w.cell? ⟨g, k * 7 + 3, none⟩ = some (.int .i64 s.far) ∧ w.cell? ⟨g, k * 7 + 4, none⟩ = some (.int .i64 s.cost) ∧ w.cell? ⟨g, k * 7 + 5, none⟩ = some (.int .i64 s.link) ∧ w.cell? ⟨g, k * 7 + 6, none⟩ = some (.bool s.first) := by
  obtain ⟨g, cap, hv, _, _, _, hr⟩ := Row.of_own h (by omega)
  cases hv
  have hl : sd.length = n := by
    have := h.1
    rw [flat_len cS 7 lenS] at this
    omega
  obtain ⟨s, hs⟩ : ∃ s, sd[k]? = some s := ⟨_, List.getElem?_eq_getElem (by omega)⟩
  exact ⟨g, s, rfl, hr.lt, hs, hr.at_ lenS hs (j := 0) (by omega) rfl, hr.at_ lenS hs (by omega) rfl, hr.at_ lenS hs (by omega) rfl, hr.at_ lenS hs (by omega) rfl, hr.at_ lenS hs (by omega) rfl, hr.at_ lenS hs (by omega) rfl, hr.at_ lenS hs (by omega) rfl⟩
theorem br_cells {w : World} {base N : Nat} {bs : List Br} (h : NetAt w base N bs) {j : Nat} {b : Br} (hb : bs[j]? = some b) :
    w.cell? ⟨N, j * 6, none⟩ = some (.int .u64 b.id) ∧ w.cell? ⟨N, j * 6 + 1, none⟩ = some b.sv ∧ w.cell? ⟨N, j * 6 + 2, none⟩ = some (.int .u64 b.best.root) ∧ w.cell? ⟨N, j * 6 + 3, none⟩ = some (.int .i64 b.best.cost) ∧ w.cell? ⟨N, j * 6 + 4, none⟩ = some (.int .u64 b.best.bridge) ∧ w.cell? ⟨N, j * 6 + 5, none⟩ = some (.int .i64 b.best.port) :=
  ⟨h.row.at_ lenB hb (j := 0) (by omega) rfl, h.row.at_ lenB hb (by omega) rfl, h.row.at_ lenB hb (by omega) rfl, h.row.at_ lenB hb (by omega) rfl, h.row.at_ lenB hb (by omega) rfl, h.row.at_ lenB hb (by omega) rfl⟩
theorem heard_cells {w : World} {g : Nat} {t : TypeId} {xs : List Heard} (h : Row w g t (xs.flatMap cellsH)) (hl : xs.length = 16) {p : Nat} (hp : p < 16) :
    (∃ u, w.cell? ⟨g, p * 6, none⟩ = some u) ∧ (∃ u, w.cell? ⟨g, p * 6 + 1, none⟩ = some u) ∧ (∃ u, w.cell? ⟨g, p * 6 + 2, none⟩ = some u) ∧ (∃ u, w.cell? ⟨g, p * 6 + 3, none⟩ = some u) ∧ (∃ u, w.cell? ⟨g, p * 6 + 4, none⟩ = some u) ∧ (∃ u, w.cell? ⟨g, p * 6 + 5, none⟩ = some u) := by
  have hcs : ∀ j, j < 96 → ∃ u, w.cell? ⟨g, j, none⟩ = some u := fun j hj => by
    have : (xs.flatMap cellsH).length = 96 := by rw [flat_len cellsH 6 lenH, hl]
    exact ⟨_, h.cell (List.getElem?_eq_getElem (by omega))⟩
  exact ⟨hcs _ (by omega), hcs _ (by omega), hcs _ (by omega), hcs _ (by omega), hcs _ (by omega), hcs _ (by omega)⟩
/-- what holds of a bridge's sides -/
def SdOk (n : Nat) (s : Sd) : Prop := (0 ≤ s.port ∧ s.port ≤ 15) ∧ 0 ≤ s.fat ∧ s.fat < n
set_option maxHeartbeats 8000000 in
set_option maxRecDepth 100000 in
theorem hears_ (w : World) (base N n cap : Nat) (bs : List Br) (hnet : NetAt w base N bs) (hn : bs.length = n) (i : Nat) (b : Br) (hb : bs[i]? = some b) (hsd : ∀ s ∈ b.sd, SdOk n s) (hsl : b.sd.length ≤ 200) (id : Int) (v : Vec) :
    Calls Try.prog 26 #[.slice (some ⟨N, 0, none⟩) n cap, .agg #[.int .u64 id, b.sv, .int .u64 v.root, .int .i64 v.cost, .int .u64 v.bridge, .int .i64 v.port]] w fun e w' => (∃ A' c', e = .returned (.slice A' 16 c') ∧ Reads w' w'.heap.size 6 A' 16 ((heardS (bs.map (·.id)) (bs.map (·.best)) b.sd).flatMap cellsH)) ∧ Below w.heap.size w w' := by
  obtain ⟨i0, hi, hz0, hz1, hz2⟩ := info_parts infoH
  have b2 : i0.bytes * 16 ≤ 281474976710656 := by rw [hz2]; decide
  have hown := hnet.own i b hb
  obtain ⟨bi, bv, bd, bb⟩ := b
  obtain ⟨As, cs, hv, _⟩ := own_form hown
  obtain rfl : bv = .slice As bd.length cs := hv
  have hown2 : w.ownsRow base 69 7 (.slice As bd.length cs) bd.length (bd.flatMap cS) := hown
  have HOWN := Lib.hid hown2
  have HNET := Lib.hid hnet
  have HSD : Hid (∀ s ∈ bd, SdOk n s) := Lib.hid hsd
  have hsl2 : bd.length ≤ 200 := hsl
  have HB0 := Lib.hid ((Below.refl w.heap.size w).alloc (Nat.le_refl _) (.cells #[.int .u64 id, .slice As bd.length cs, .int .u64 v.root, .int .i64 v.cost, .int .u64 v.bridge, .int .i64 v.port] 64))
  have HBX := Lib.hid (Blk.new w 64 #[.int .u64 id, .slice As bd.length cs, .int .u64 v.root, .int .i64 v.cost, .int .u64 v.bridge, .int .i64 v.port])
  have hz0w : w.heap.size < (w.alloc (.cells #[.int .u64 id, .slice As bd.length cs, .int .u64 v.root, .int .i64 v.cost, .int .u64 v.bridge, .int .i64 v.port] 64)).heap.size := by simp
  have HN := Lib.hid hn
  clear hown hown2 hnet hsd hsl hb hn
  go_enter Try.func26, Try.ntmps26
  go_upto_region 1 with (fail)
  generalize w.alloc (.cells #[.int .u64 id, .slice As bd.length cs, .int .u64 v.root, .int .i64 v.cost, .int .u64 v.bridge, .int .i64 v.port] 64) = W0 at *
  go_wp2_with (at_make; refine wpList_make_full _ rfl (.const (.int .i64 16)) (.const (.int .i64 16)) 66 rfl w.heap.size 84 i0 _ 6 Try.underlying66 hi hz0 hz1 .i64 .i64 _ _ 16 rfl rfl rfl rfl b2 (by unfold maxLen; omega) (by omega) ?_; intro w1 hown hg1; rw [made16] at hown; have HROW := Lib.hid (Row.of_own hown (by omega)); have HB1 := Lib.hid (HB0.out.trans ((below_of_grown' hg1).mono (by omega))); have hbx1 := HBX.out.below (below_of_grown' hg1) hz0w; have y1 : w1.cell? ⟨w.heap.size, 1, none⟩ = some (.slice As bd.length cs) := hbx1.cell 1; have hw1z := hg1.size; clear hown hg1 hbx1)
  obtain ⟨gq, cq, hvq, hbq, _, _, hrow⟩ := HROW.out
  cases hvq
  have HR1 := Lib.hid hrow
  clear HROW hrow
  go_loopw [14] (fun i wr => ∃ k : Nat, k ≤ bd.length ∧ i = .int .i64 k ∧ Row wr W0.heap.size 84 ((heardS (bs.map (·.id)) (bs.map (·.best)) (bd.take k)).flatMap cellsH) ∧ Below w.heap.size w wr) (fun i _ => bd.length - (intOf i).toNat)
  case atStart => exact ⟨0, Nat.zero_le _, rfl, by rw [List.take_zero]; exact HR1.out, HB1.out⟩
  case round =>
    obtain ⟨k, hk, rfl, hrow, hbel⟩ := hrel
    have hbz := hbel.size
    have HBEL := Lib.hid hbel
    have HROW := Lib.hid hrow
    have hgl := hrow.lt
    by_cases hlt : k < bd.length
    · have hlt' : (k : Int) < (bd.length : Int) := by omega
      obtain ⟨g, sv, hA, hg, hs, t0, t1, t2, t3, t4, t5, t6⟩ := side_cells (own_below HOWN.out (hbel.mono (Nat.le_refl _))) hlt
      cases hA
      obtain ⟨⟨hp0, hp1⟩, hf0, hf1⟩ := HSD.out sv (List.mem_of_getElem? hs)
      have HST := Lib.hid (heardS_step (ids := bs.map (·.id)) (best := bs.map (·.best)) hs)
      obtain ⟨sat, sport, sfat, sfar, scost, slink, sfirst⟩ := sv
      simp only at t0 t1 t2 t3 t4 t5 t6 hp0 hp1 hf0 hf1
      obtain ⟨p, rfl⟩ : ∃ p : Nat, sport = p := ⟨sport.toNat, by omega⟩
      obtain ⟨t, rfl⟩ : ∃ t : Nat, sfat = t := ⟨sfat.toNat, by omega⟩
      have hpl : p < 16 := by omega
      have hpl' : (p : Int) < 16 := by omega
      have htl : t < n := by omega
      have htl' : (t : Int) < (n : Int) := by omega
      obtain ⟨far, hfar⟩ : ∃ far, bs[t]? = some far := ⟨_, List.getElem?_eq_getElem (by rw [HN.out]; omega)⟩
      have hnet := HNET.out.keep hbel
      obtain ⟨fi, fv, fd, fb⟩ := far
      obtain ⟨Af, cf, hvf, _⟩ := own_form (hnet.own t _ hfar)
      obtain rfl : fv = .slice Af fd.length cf := hvf
      have HHV : Hid (heardS (bs.map (·.id)) (bs.map (·.best)) (bd.take (k + 1)) = (heardS (bs.map (·.id)) (bs.map (·.best)) (bd.take k)).set p ⟨true, ⟨fb.root, fb.cost, fi, sfar⟩, scost⟩) := Lib.hid (by
        rw [HST.out]
        show List.set _ (p : Int).toNat _ = _
        rw [hv_of (far := sfar) (cost := scost) (t := t) (x := fi) (v := fb) rfl (by rw [List.getElem?_map, hfar]; rfl) (by rw [List.getElem?_map, hfar]; rfl), Int.toNat_natCast])
      have HNETa := Lib.hid (hnet.alloc (.cells #[.int .i64 sat, .int .i64 p, .int .i64 t, .int .i64 sfar, .int .i64 scost, .int .i64 slink, .bool sfirst] 69))
      have HROWa := Lib.hid (hrow.alloc (.cells #[.int .i64 sat, .int .i64 p, .int .i64 t, .int .i64 sfar, .int .i64 scost, .int .i64 slink, .bool sfirst] 69))
      have HBELa := Lib.hid (hbel.alloc hbz (.cells #[.int .i64 sat, .int .i64 p, .int .i64 t, .int .i64 sfar, .int .i64 scost, .int .i64 slink, .bool sfirst] 69))
      have HSBa := Lib.hid (Blk.new wr 69 #[.int .i64 sat, .int .i64 p, .int .i64 t, .int .i64 sfar, .int .i64 scost, .int .i64 slink, .bool sfirst])
      have HFAR := Lib.hid hfar
      have hza : wr.heap.size < (wr.alloc (.cells #[.int .i64 sat, .int .i64 p, .int .i64 t, .int .i64 sfar, .int .i64 scost, .int .i64 slink, .bool sfirst] 69)).heap.size := by simp
      clear hs hfar hnet hrow hbel HST hp0 hp1 hf0 hf1
      go_upto_region 5 with (fail)
      clear t0 t1 t2 t3 t4 t5 t6
      generalize wr.alloc (.cells #[.int .i64 sat, .int .i64 p, .int .i64 t, .int .i64 sfar, .int .i64 scost, .int .i64 slink, .bool sfirst] 69) = Wa at *
      have s2 : Wa.cell? ⟨wr.heap.size, 2, none⟩ = some (.int .i64 t) := HSBa.out.cell 2
      obtain ⟨x0, x1, x2, x3, x4, x5⟩ := br_cells HNETa.out HFAR.out
      simp only at x0 x1 x2 x3 x4 x5
      have HROWb := Lib.hid (HROWa.out.alloc (.cells #[.int .u64 fi, .slice Af fd.length cf, .int .u64 fb.root, .int .i64 fb.cost, .int .u64 fb.bridge, .int .i64 fb.port] 64))
      have HBELb := Lib.hid (HBELa.out.alloc HBELa.out.size (.cells #[.int .u64 fi, .slice Af fd.length cf, .int .u64 fb.root, .int .i64 fb.cost, .int .u64 fb.bridge, .int .i64 fb.port] 64))
      have HSBb := Lib.hid (HSBa.out.alloc (.cells #[.int .u64 fi, .slice Af fd.length cf, .int .u64 fb.root, .int .i64 fb.cost, .int .u64 fb.bridge, .int .i64 fb.port] 64))
      have HFBb := Lib.hid (Blk.new Wa 64 #[.int .u64 fi, .slice Af fd.length cf, .int .u64 fb.root, .int .i64 fb.cost, .int .u64 fb.bridge, .int .i64 fb.port])
      have hzb : Wa.heap.size < (Wa.alloc (.cells #[.int .u64 fi, .slice Af fd.length cf, .int .u64 fb.root, .int .i64 fb.cost, .int .u64 fb.bridge, .int .i64 fb.port] 64)).heap.size := by simp
      go_upto_region 6 with (fail)
      clear s2 x0 x1 x2 x3 x4 x5
      generalize Wa.alloc (.cells #[.int .u64 fi, .slice Af fd.length cf, .int .u64 fb.root, .int .i64 fb.cost, .int .u64 fb.bridge, .int .i64 fb.port] 64) = Wb at *
      have s3 : Wb.cell? ⟨wr.heap.size, 2 + 1, none⟩ = some (.int .i64 sfar) := HSBb.out.cell 3
      have f0 : Wb.cell? ⟨Wa.heap.size, 0, none⟩ = some (.int .u64 fi) := HFBb.out.cell 0
      have f2 : Wb.cell? ⟨Wa.heap.size, 2, none⟩ = some (.int .u64 fb.root) := HFBb.out.cell 2
      have f3 : Wb.cell? ⟨Wa.heap.size, 2 + 1, none⟩ = some (.int .i64 fb.cost) := HFBb.out.cell 3
      have HROWc := Lib.hid (HROWb.out.alloc (.cells #[.int .u64 fb.root, .int .i64 fb.cost, .int .u64 fi, .int .i64 sfar] 62))
      have HBELc := Lib.hid (HBELb.out.alloc HBELb.out.size (.cells #[.int .u64 fb.root, .int .i64 fb.cost, .int .u64 fi, .int .i64 sfar] 62))
      have HSBc := Lib.hid (HSBb.out.alloc (.cells #[.int .u64 fb.root, .int .i64 fb.cost, .int .u64 fi, .int .i64 sfar] 62))
      have HVBc := Lib.hid (Blk.new Wb 62 #[.int .u64 fb.root, .int .i64 fb.cost, .int .u64 fi, .int .i64 sfar])
      go_upto_region 7 with (fail)
      clear s3 f0 f2 f3
      generalize Wb.alloc (.cells #[.int .u64 fb.root, .int .i64 fb.cost, .int .u64 fi, .int .i64 sfar] 62) = Wc at *
      have s1 : Wc.cell? ⟨wr.heap.size, 1, none⟩ = some (.int .i64 p) := HSBc.out.cell 1
      have s4 : Wc.cell? ⟨wr.heap.size, 4, none⟩ = some (.int .i64 scost) := HSBc.out.cell 4
      have v0 : Wc.cell? ⟨Wb.heap.size, 0, none⟩ = some (.int .u64 fb.root) := HVBc.out.cell 0
      have v1 : Wc.cell? ⟨Wb.heap.size, 1, none⟩ = some (.int .i64 fb.cost) := HVBc.out.cell 1
      have v2 : Wc.cell? ⟨Wb.heap.size, 2, none⟩ = some (.int .u64 fi) := HVBc.out.cell 2
      have v3 : Wc.cell? ⟨Wb.heap.size, 3, none⟩ = some (.int .i64 sfar) := HVBc.out.cell 3
      obtain ⟨⟨u0, z0⟩, ⟨u1, z1⟩, ⟨u2, z2⟩, ⟨u3, z3⟩, ⟨u4, z4⟩, ⟨u5, z5⟩⟩ := heard_cells HROWc.out (heardS_len' _ _ _) hpl
      have r0 := HROWc.out.frozen (p * 6)
      have r1 := HROWc.out.frozen (p * 6 + 1)
      have r2 := HROWc.out.frozen (p * 6 + 2)
      have r3 := HROWc.out.frozen (p * 6 + 3)
      have r4 := HROWc.out.frozen (p * 6 + 4)
      have r5 := HROWc.out.frozen (p * 6 + 5)
      go_wp2
      have hP := put6 HROWc.out (k := p) (by rw [heardS_len']; omega) ⟨true, ⟨fb.root, fb.cost, fi, sfar⟩, scost⟩
      refine ⟨⟨k + 1, by omega, by go_num, by rw [HHV.out]; exact hP, ?_⟩, by simp [intOf]; omega⟩
      exact (((((HBELc.out.setCell (by show w.heap.size ≤ W0.heap.size; omega) _).setCell (by show w.heap.size ≤ W0.heap.size; omega) _).setCell (by show w.heap.size ≤ W0.heap.size; omega) _).setCell (by show w.heap.size ≤ W0.heap.size; omega) _).setCell (by show w.heap.size ≤ W0.heap.size; omega) _).setCell (by show w.heap.size ≤ W0.heap.size; omega) _
    · have e : k = bd.length := by omega
      have h9 := HROW.out
      rw [e, List.take_length] at h9
      have H9 := Lib.hid h9
      clear hrow hbel h9
      go_wp2
      go_ret
      exact ⟨⟨_, _, rfl, H9.out.reads (by rw [flat_len cellsH 6 lenH, heardS_len']) hgl⟩, HBEL.out⟩
end Tree
end Go.Proofs.Ytdgbemafhhhceaa
