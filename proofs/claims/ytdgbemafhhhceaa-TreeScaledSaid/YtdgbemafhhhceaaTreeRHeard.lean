/-
  The walk of the document's heard: what a bridge hears, by its ports.
-/
import Derived.Test.YtdgbemafhhhceaaTreeRCheck
import Derived.Test.YtdgbemafhhhceaaPrioRef
import Derived.Deep.DeepCutAuto
namespace Go.Proofs.Ytdgbemafhhhceaa
set_option linter.unusedVariables false
set_option linter.unusedSimpArgs false
open Go.RowKit
open Go.Proofs.Ytdgbemafhhhceaa.Prio
namespace Tree
def cellsV (v : Vec) : List Value := [.int .u64 v.root, .int .i64 v.cost, .int .u64 v.bridge, .int .i64 v.port]
theorem lenV (v : Vec) : (cellsV v).length = 4 := rfl
theorem lenH (h : Heard) : (cellsH h).length = 6 := rfl
theorem read4 {w : World} {B n : Nat} {A : Option Addr} {vs : List Vec} (hr : Reads w B 4 A n (vs.flatMap cellsV)) {k : Nat} (hk : k < n) :
    ∃ (b off : Nat) (v : Vec), A = some ⟨b, off, none⟩ ∧ b < B ∧ vs[k]? = some v ∧ w.cell? ⟨b, off + k * 4, none⟩ = some (.int .u64 v.root) ∧ w.cell? ⟨b, off + k * 4 + 1, none⟩ = some (.int .i64 v.cost) ∧ w.cell? ⟨b, off + k * 4 + 2, none⟩ = some (.int .u64 v.bridge) ∧ w.cell? ⟨b, off + k * 4 + 3, none⟩ = some (.int .i64 v.port) := by
  obtain ⟨b, off, v, e, hb, hl, hc⟩ := hr.chunk cellsV 4 (by omega) lenV hk
  exact ⟨b, off, v, e, hb, hl, hc 0 _ rfl, hc 1 _ rfl, hc 2 _ rfl, hc 3 _ rfl⟩
theorem put6 {w : World} {g : Nat} {t : TypeId} {xs : List Heard} (h : Row w g t (xs.flatMap cellsH)) {k : Nat} (hk : k < xs.length) (x : Heard) :
    Row ((((((w.setCell ⟨g, k * 6, none⟩ (.bool x.is)).setCell ⟨g, k * 6 + 1, none⟩ (.int .u64 x.v.root)).setCell ⟨g, k * 6 + 2, none⟩ (.int .i64 x.v.cost)).setCell ⟨g, k * 6 + 3, none⟩ (.int .u64 x.v.bridge)).setCell ⟨g, k * 6 + 4, none⟩ (.int .i64 x.v.port)).setCell ⟨g, k * 6 + 5, none⟩ (.int .i64 x.cost)) g t ((xs.set k x).flatMap cellsH) := by
  obtain ⟨a, ha⟩ : ∃ a, xs[k]? = some a := ⟨_, List.getElem?_eq_getElem hk⟩
  have h1 := Row.put lenH h ha { a with is := x.is } 0 (.bool x.is) (by omega) rfl
  have h2 := Row.put lenH h1 (set_at _ ha) { a with is := x.is, v := { a.v with root := x.v.root } } 1 (.int .u64 x.v.root) (by omega) rfl
  rw [set_set] at h2
  have h3 := Row.put lenH h2 (set_at _ ha) { a with is := x.is, v := { a.v with root := x.v.root, cost := x.v.cost } } 2 (.int .i64 x.v.cost) (by omega) rfl
  rw [set_set] at h3
  have h4 := Row.put lenH h3 (set_at _ ha) { a with is := x.is, v := { a.v with root := x.v.root, cost := x.v.cost, bridge := x.v.bridge } } 3 (.int .u64 x.v.bridge) (by omega) rfl
  rw [set_set] at h4
  have h5 := Row.put lenH h4 (set_at _ ha) { a with is := x.is, v := x.v } 4 (.int .i64 x.v.port) (by omega) rfl
  rw [set_set] at h5
  have h6 := Row.put lenH h5 (set_at _ ha) x 5 (.int .i64 x.cost) (by omega) rfl
  rw [set_set] at h6
  exact h6
theorem infoH' : (Try.prog.info? 88).map (fun i => (i.zero, i.size, i.bytes)) = some (some (.agg #[.bool false, .int .u64 0, .int .i64 0, .int .u64 0, .int .i64 0, .int .i64 0]), 6, 48) := by kernel_rfl
theorem made16 : (madeCells (Value.agg #[.bool false, .int .u64 0, .int .i64 0, .int .u64 0, .int .i64 0, .int .i64 0]).cells (16 * 6)).toList = none16.flatMap cellsH := by kernel_rfl
theorem getD_of {α : Type} {l : List α} {k : Nat} {x d : α} (h : l[k]? = some x) : l.getD k d = x := by rw [List.getD_eq_getElem?_getD, h]; rfl
theorem hv_of {ids : List Int} {best : List Vec} {z far cost : Int} {t : Nat} {x : Int} {v : Vec} (ht : z = t) (hx : ids[t]? = some x) (hv' : best[t]? = some v) : hv ids best z far cost = ⟨true, ⟨v.root, v.cost, x, far⟩, cost⟩ := by
  subst ht
  unfold hv
  rw [Int.toNat_natCast, getD_of hx, getD_of hv']
theorem below_of_grown' {a b : World} (h : a.grownBy b none) : Below a.heap.size a b := ⟨h.os, h.tape, h.output, h.size, fun i hi => h.block i hi (by simp)⟩
set_option maxHeartbeats 8000000 in
set_option maxRecDepth 100000 in
theorem rheard_ (A1 : Option Addr) (n c1 : Nat) (ids : List Int) (A2 : Option Addr) (m c2 : Nat) (es : List En) (A3 : Option Addr) (c3 : Nat) (best : List Vec) (b : Int) (w : World) (h1 : Reads w w.heap.size 1 A1 n (ids.map (Value.int .u64))) (h2 : Reads w w.heap.size 5 A2 m (es.flatMap cellsE)) (h3 : Reads w w.heap.size 4 A3 n (best.flatMap cellsV))
    (hm : m ≤ 200) (hes : ∀ e ∈ es, EndOk n e ∧ 0 ≤ e.to ∧ e.to < n) :
    Calls Try.prog 30 #[.slice A1 n c1, .slice A2 m c2, .slice A3 n c3, .int .i64 b] w fun e w' => (∃ A' c', e = .returned (.slice A' 16 c') ∧ Reads w' w'.heap.size 6 A' 16 ((heardE ids best es b).flatMap cellsH)) ∧ Below w.heap.size w w' := by
  obtain ⟨i0, hi, hz0, hz1, hz2⟩ := info_parts infoH'
  have b2 : i0.bytes * 16 ≤ 281474976710656 := by rw [hz2]; decide
  have HLE := Lib.hid (h2.len cellsE 5 (by omega) lenE)
  have HES := Lib.hid hes
  clear hes
  go_enter Try.func30, Try.ntmps30
  go_wp2_with (at_make; refine wpList_make_full _ rfl (.const (.int .i64 16)) (.const (.int .i64 16)) 74 rfl w.heap.size 88 i0 _ 6 Try.underlying74 hi hz0 hz1 .i64 .i64 _ _ 16 rfl rfl rfl rfl b2 (by unfold maxLen; omega) (Nat.le_refl _) ?_; intro w1 hown hg1; rw [made16] at hown; have HROW := Lib.hid (Row.of_own hown (by omega)); have HB1 := Lib.hid (below_of_grown' hg1); clear hown hg1)
  obtain ⟨gq, cq, hvq, hbq, _, _, hrow⟩ := HROW.out
  cases hvq
  have HR1 := Lib.hid hrow
  clear HROW hrow
  go_wp2
  go_loopw [10] (fun i wr => ∃ k : Nat, k ≤ m ∧ i = .int .i64 k ∧ Row wr w.heap.size 88 ((heardE ids best (es.take k) b).flatMap cellsH) ∧ Below w.heap.size w wr) (fun i _ => m - (intOf i).toNat)
  case atStart => exact ⟨0, Nat.zero_le _, rfl, by rw [List.take_zero]; exact HR1.out, HB1.out⟩
  case round =>
    obtain ⟨k, hk, rfl, hrow, hbel⟩ := hrel
    have hbz := hbel.size
    have HBEL := Lib.hid hbel
    have HROW := Lib.hid hrow
    have hgl := hrow.lt
    by_cases hlt : k < m
    · have hlt' : (k : Int) < (m : Int) := by omega
      obtain ⟨b2, o2, e, rfl, hb2, hx, d0, d1, d2, d3, d4⟩ := read5e (h2.below hbel) hlt
      obtain ⟨⟨_, _, hp0, hp1, _, _⟩, ht0, ht1⟩ := HES.out e (List.mem_of_getElem? hx)
      have HST := Lib.hid (heardE_step (ids := ids) (best := best) (b := b) hx)
      clear hx
      by_cases hat : e.at_ = b
      · have hat' : (e.at_ == b) = true := by simp [hat]
        obtain ⟨p, hp⟩ : ∃ p : Nat, e.port = p := ⟨e.port.toNat, by omega⟩
        obtain ⟨t, ht⟩ : ∃ t : Nat, e.to = t := ⟨e.to.toNat, by omega⟩
        have hpl : p < 16 := by omega
        have hpl' : (p : Int) < 16 := by omega
        have htl : t < n := by omega
        have htl' : (t : Int) < (n : Int) := by omega
        obtain ⟨b3, o3, x, rfl, hb3, hx, f0⟩ := read1 (h1.below hbel) htl
        obtain ⟨b4, o4, v, rfl, hb4, hv4, g0, g1, g2, g3⟩ := read4 (h3.below hbel) htl
        have HHV := Lib.hid (hv_of (far := e.far) (cost := e.cost) ht hx hv4)
        have HST2 : Hid (heardE ids best (es.take (k + 1)) b = (heardE ids best (es.take k) b).set p ⟨true, ⟨v.root, v.cost, x, e.far⟩, e.cost⟩) := Lib.hid (by rw [HST.out, stepE, if_pos hat, HHV.out, hp, Int.toNat_natCast])
        rw [ht] at d2
        rw [hp] at d1
        have HP := Lib.hid hp
        clear hx hv4 HHV HST hat hp ht hp0 hp1 ht0 ht1
        go_upto_region 7 with fail
        go_cut [11] (fun s11 wx => ∃ g : Nat, s11 = .pointer (some ⟨g, 0, none⟩) ∧ Blk wx g 62 #[.int .u64 v.root, .int .i64 v.cost, .int .u64 x, .int .i64 e.far] ∧ wr.heap.size ≤ g ∧ Below wr.heap.size wr wx)
        case first =>
          have hne2 : b2 ≠ wr.heap.size := by omega
          have hne3 : b3 ≠ wr.heap.size := by omega
          have hne4 : b4 ≠ wr.heap.size := by omega
          go_region_held3 (fun w' => w'.cell? ⟨b2, o2 + k * 5 + 2, none⟩ = some (.int .i64 t) ∧ w'.cell? ⟨b2, o2 + k * 5 + 3, none⟩ = some (.int .i64 e.far) ∧ w'.cell? ⟨b3, o3 + t, none⟩ = some (.int .u64 x) ∧ w'.cell? ⟨b4, o4 + t * 4, none⟩ = some (.int .u64 v.root) ∧ w'.cell? ⟨b4, o4 + t * 4 + 1, none⟩ = some (.int .i64 v.cost) ∧ w'.cell? ⟨b4, o4 + t * 4 + 2, none⟩ = some (.int .u64 v.bridge) ∧ w'.cell? ⟨b4, o4 + t * 4 + 3, none⟩ = some (.int .i64 v.port))
            (first
              | (simp [World.cell?_alloc_some, d2, d3, f0, g0, g1, g2, g3]; done)
              | (simp [World.cell?_alloc_some, kd2, kd3, kf0, kg0, kg1, kg2, kg3]; done)
              | (simp [cell_far, kd2, kd3, kf0, kg0, kg1, kg2, kg3, hne2, hne3, hne4]; done))
            ((go_at_call 41; refine (rtells_ x v e.far _).mono ?_; rintro e' w2 ⟨rfl, hb2'⟩; obtain ⟨hc2, hf2⟩ := bcell hb2'; have hz2 : wr.heap.size ≤ w2.heap.size := (by have := hb2'.size; simp at this; omega); have kd2 : w2.cell? ⟨b2, o2 + k * 5 + 2, none⟩ = some (.int .i64 t) := (by rw [hc2 _ _ (by simp; omega)]; simp [World.cell?_alloc_some, d2]); have kd3 : w2.cell? ⟨b2, o2 + k * 5 + 3, none⟩ = some (.int .i64 e.far) := (by rw [hc2 _ _ (by simp; omega)]; simp [World.cell?_alloc_some, d3]); have kf0 : w2.cell? ⟨b3, o3 + t, none⟩ = some (.int .u64 x) := (by rw [hc2 _ _ (by simp; omega)]; simp [World.cell?_alloc_some, f0]); have kg0 : w2.cell? ⟨b4, o4 + t * 4, none⟩ = some (.int .u64 v.root) := (by rw [hc2 _ _ (by simp; omega)]; simp [World.cell?_alloc_some, g0]); have kg1 : w2.cell? ⟨b4, o4 + t * 4 + 1, none⟩ = some (.int .i64 v.cost) := (by rw [hc2 _ _ (by simp; omega)]; simp [World.cell?_alloc_some, g1]); have kg2 : w2.cell? ⟨b4, o4 + t * 4 + 2, none⟩ = some (.int .u64 v.bridge) := (by rw [hc2 _ _ (by simp; omega)]; simp [World.cell?_alloc_some, g2]); have kg3 : w2.cell? ⟨b4, o4 + t * 4 + 3, none⟩ = some (.int .i64 v.port) := (by rw [hc2 _ _ (by simp; omega)]; simp [World.cell?_alloc_some, g3])))
          · go_wp2_with fail
            go_meet
            exact ⟨w2.heap.size, rfl, Blk.new _ _ _, hz2, ((Below.refl wr.heap.size wr).drew.trans hb2').alloc hz2 _⟩
          · go_wp2_with fail
            go_meet
            have e1 := (Blk.new wr 62 #[.int .u64 0, .int .i64 0, .int .u64 0, .int .i64 0]).drew.below hb2' (by simp)
            have e3 := ((Below.refl wr.heap.size wr).alloc (Nat.le_refl _) _).drew.trans (hb2'.mono (by simp))
            exact ⟨wr.heap.size, rfl, (((e1.set_ 0 _).set_ 1 _).set_ 2 _).set_ 3 _, Nat.le_refl _, (((e3.setCell (Nat.le_refl _) _).setCell (Nat.le_refl _) _).setCell (Nat.le_refl _) _).setCell (Nat.le_refl _) _⟩
        case rest =>
          obtain ⟨g, rfl, hG, hg, hbx⟩ := hcut
          have hgx := hG.lt
          have hxz := hbx.size
          have k1 : wc.cell? ⟨b2, o2 + k * 5 + 1, none⟩ = some (.int .i64 p) := ((bcell hbx).1 _ _ (by omega)).trans d1
          have k4 : wc.cell? ⟨b2, o2 + k * 5 + 4, none⟩ = some (.int .i64 e.cost) := ((bcell hbx).1 _ _ (by omega)).trans d4
          have v0 : wc.cell? ⟨g, 0, none⟩ = some (.int .u64 v.root) := hG.cell 0
          have v1 : wc.cell? ⟨g, 1, none⟩ = some (.int .i64 v.cost) := hG.cell 1
          have v2 : wc.cell? ⟨g, 2, none⟩ = some (.int .u64 x) := hG.cell 2
          have v3 : wc.cell? ⟨g, 3, none⟩ = some (.int .i64 e.far) := hG.cell 3
          have hrx := HROW.out.below hbx hgl
          have HRX := Lib.hid hrx
          have hfr := fun j => hrx.frozen j
          have hcs : ∀ j, j < 96 → ∃ u, wc.cell? ⟨w.heap.size, j, none⟩ = some u := fun j hj => by
            have hl : ((heardE ids best (es.take k) b).flatMap cellsH).length = 96 := by rw [flat_len cellsH 6 lenH, heard_len]
            exact ⟨_, hrx.cell (List.getElem?_eq_getElem (by omega))⟩
          obtain ⟨u0, s0⟩ := hcs (p * 6) (by omega)
          obtain ⟨u1, s1⟩ := hcs (p * 6 + 1) (by omega)
          obtain ⟨u2, s2⟩ := hcs (p * 6 + 2) (by omega)
          obtain ⟨u3, s3⟩ := hcs (p * 6 + 3) (by omega)
          obtain ⟨u4, s4⟩ := hcs (p * 6 + 4) (by omega)
          obtain ⟨u5, s5⟩ := hcs (p * 6 + 5) (by omega)
          have r0 := hfr (p * 6)
          have r1 := hfr (p * 6 + 1)
          have r2 := hfr (p * 6 + 2)
          have r3 := hfr (p * 6 + 3)
          have r4 := hfr (p * 6 + 4)
          have r5 := hfr (p * 6 + 5)
          have HB4 := Lib.hid (HBEL.out.trans (hbx.mono hbz))
          clear hrow hbel hrx hfr hcs hG hbx d0 d1 d2 d3 d4 f0 g0 g1 g2 g3
          go_wp2
          refine region_tail 14 (by kernel_rfl) (by kernel_rfl) ?_
          simp only [List.take_succ_cons, List.take_zero, List.drop_succ_cons, List.drop_zero]
          refine SW.un ?_
          (refine SW.want (by kernel_rfl) (fun K hK => ?_); have HK := Lib.hid hK; clear hK; go_simp; refine SW.on HK ?_; clear HK K)
          (refine SW.want (by kernel_rfl) (fun K hK => ?_); have HK := Lib.hid hK; clear hK; go_simp; refine SW.on HK ?_; clear HK K)
          (refine SW.want (by kernel_rfl) (fun K hK => ?_); have HK := Lib.hid hK; clear hK; go_simp; refine SW.on HK ?_; clear HK K)
          (refine SW.want (by kernel_rfl) (fun K hK => ?_); have HK := Lib.hid hK; clear hK; go_simp; refine SW.on HK ?_; clear HK K)
          (refine SW.want (by kernel_rfl) (fun K hK => ?_); have HK := Lib.hid hK; clear hK; go_simp; refine SW.on HK ?_; clear HK K)
          (refine SW.want (by kernel_rfl) (fun K hK => ?_); have HK := Lib.hid hK; clear hK; go_simp; refine SW.on HK ?_; clear HK K)
          (refine SW.want (by kernel_rfl) (fun K hK => ?_); have HK := Lib.hid hK; clear hK; go_simp; refine SW.on HK ?_; clear HK K)
          (refine SW.want (by kernel_rfl) (fun K hK => ?_); have HK := Lib.hid hK; clear hK; go_simp; refine SW.on HK ?_; clear HK K)
          (refine SW.want (by kernel_rfl) (fun K hK => ?_); have HK := Lib.hid hK; clear hK; go_simp; refine SW.on HK ?_; clear HK K)
          (refine SW.want (by kernel_rfl) (fun K hK => ?_); have HK := Lib.hid hK; clear hK; go_simp; refine SW.on HK ?_; clear HK K)
          (refine SW.want (by kernel_rfl) (fun K hK => ?_); have HK := Lib.hid hK; clear hK; go_simp; refine SW.on HK ?_; clear HK K)
          (refine SW.want (by kernel_rfl) (fun K hK => ?_); have HK := Lib.hid hK; clear hK; go_simp; refine SW.on HK ?_; clear HK K)
          (refine SW.want (by kernel_rfl) (fun K hK => ?_); have HK := Lib.hid hK; clear hK; go_simp; refine SW.on HK ?_; clear HK K)
          (refine SW.want (by kernel_rfl) (fun K hK => ?_); have HK := Lib.hid hK; clear hK; go_simp; refine SW.on HK ?_; clear HK K)
          refine SW.nil ?_
          go_wp2
          have hP := (put6 HRX.out (k := p) (by rw [heard_len]; omega) ⟨true, ⟨v.root, v.cost, x, e.far⟩, e.cost⟩).drew
          refine ⟨⟨k + 1, by omega, by go_num, by rw [HST2.out]; exact hP, Below.drew ?_⟩, by simp [intOf]; omega⟩
          exact (((((HB4.out.setCell (Nat.le_refl _) _).setCell (Nat.le_refl _) _).setCell (Nat.le_refl _) _).setCell (Nat.le_refl _) _).setCell (Nat.le_refl _) _).setCell (Nat.le_refl _) _
      · have hat' : (e.at_ == b) = false := by simp [hat]
        have HST2 : Hid (heardE ids best (es.take (k + 1)) b = heardE ids best (es.take k) b) := Lib.hid (by rw [HST.out, stepE, if_neg hat])
        clear hat HST
        go_wp2
        exact ⟨⟨k + 1, by omega, by go_num, by rw [HST2.out]; exact hrow, hbel⟩, by simp [intOf]; omega⟩
    · have e : k = m := by omega
      subst e
      go_wp2
      go_ret
      refine ⟨⟨_, _, rfl, ?_⟩, HBEL.out⟩
      have h9 := HROW.out
      rw [← HLE.out, List.take_length] at h9
      exact h9.reads (by rw [flat_len cellsH 6 lenH, heard_len]) hgl
end Tree
end Go.Proofs.Ytdgbemafhhhceaa
