/-
  The walks of the reference of package prio.
-/
import Derived.Test.YtdgbemafhhhceaaPrioList
import Derived.Deep.DeepCutAuto
namespace Go.Proofs.Ytdgbemafhhhceaa
set_option linter.unusedVariables false
set_option linter.unusedSimpArgs false
open Go.RowKit
namespace Prio
/-! ### the reference -/
theorem rown_ (b : Int) (w : World) : Calls Try.prog 38 #[.int .u64 b] w fun e w' => e = .returned (.agg #[.int .u64 b, .int .i64 0, .int .u64 b, .int .i64 0]) ∧ Below w.heap.size w w' := by
  go_enter Try.func38, Try.ntmps38
  go_wp2
  refine bodyPost_ret (v := .agg #[.int .u64 b, .int .i64 0, .int .u64 b, .int .i64 0]) (by simp [results, Try.results38, go_sem]) rfl ⟨rfl, ?_⟩
  repeat (first | exact Below.refl _ _ | apply Below.drew | (refine Below.alloc ?_ (by simp <;> omega) _) | (refine Below.setCell ?_ (by simp <;> omega) _))
theorem rthrough_ (v : Vec) (c : Int) (w : World) :
    Calls Try.prog 48 #[.agg #[.int .u64 v.root, .int .i64 v.cost, .int .u64 v.bridge, .int .i64 v.port], .int .i64 c] w fun e w' => e = .returned (.tuple #[.agg #[.int .u64 (tv v c).root, .int .i64 (tv v c).cost, .int .u64 (tv v c).bridge, .int .i64 (tv v c).port], .int .i64 (te v c)]) ∧ Below w.heap.size w w' := by
  by_cases h1 : 1 ≤ c
  · by_cases h2 : c ≤ 200000000
    · by_cases h3 : 0 ≤ v.cost
      · by_cases h4 : v.cost ≤ 4294967295
        · obtain ⟨e1, e2⟩ := thr_yes v c h1 h2 h3 h4
          rw [e1, e2]
          clear e1 e2
          rcases costTo_cases v.cost c with ⟨h5, h6⟩ | ⟨h5, h6⟩
          · rw [h6]
            clear h6
            go_enter Try.func48, Try.ntmps48
            go_wp2
            refine bodyPost_ret (v := .tuple #[.agg #[.int .u64 v.root, .int .i64 (v.cost + c), .int .u64 v.bridge, .int .i64 v.port], .int .i64 0]) (by simp [results, Try.results48, go_sem]) rfl ⟨rfl, ?_⟩
            repeat (first | exact Below.refl _ _ | apply Below.drew | (refine Below.alloc ?_ (by simp <;> omega) _) | (refine Below.setCell ?_ (by simp <;> omega) _))
          · rw [h6]
            clear h6
            go_enter Try.func48, Try.ntmps48
            go_wp2
            refine bodyPost_ret (v := .tuple #[.agg #[.int .u64 v.root, .int .i64 4294967295, .int .u64 v.bridge, .int .i64 v.port], .int .i64 0]) (by simp [results, Try.results48, go_sem]) rfl ⟨rfl, ?_⟩
            repeat (first | exact Below.refl _ _ | apply Below.drew | (refine Below.alloc ?_ (by simp <;> omega) _) | (refine Below.setCell ?_ (by simp <;> omega) _))
        · obtain ⟨e1, e2⟩ := thr_no v c (by omega)
          rw [e1, e2]
          clear e1 e2
          go_enter Try.func48, Try.ntmps48
          go_wp2
          refine bodyPost_ret (v := .tuple #[.agg #[.int .u64 0, .int .i64 0, .int .u64 0, .int .i64 0], .int .i64 1]) (by simp [results, Try.results48, go_sem]) rfl ⟨rfl, ?_⟩
          repeat (first | exact Below.refl _ _ | apply Below.drew | (refine Below.alloc ?_ (by simp <;> omega) _) | (refine Below.setCell ?_ (by simp <;> omega) _))
      · obtain ⟨e1, e2⟩ := thr_no v c (by omega)
        rw [e1, e2]
        clear e1 e2
        go_enter Try.func48, Try.ntmps48
        go_wp2
        refine bodyPost_ret (v := .tuple #[.agg #[.int .u64 0, .int .i64 0, .int .u64 0, .int .i64 0], .int .i64 1]) (by simp [results, Try.results48, go_sem]) rfl ⟨rfl, ?_⟩
        repeat (first | exact Below.refl _ _ | apply Below.drew | (refine Below.alloc ?_ (by simp <;> omega) _) | (refine Below.setCell ?_ (by simp <;> omega) _))
    · obtain ⟨e1, e2⟩ := thr_no v c (by omega)
      rw [e1, e2]
      clear e1 e2
      go_enter Try.func48, Try.ntmps48
      go_wp2
      refine bodyPost_ret (v := .tuple #[.agg #[.int .u64 0, .int .i64 0, .int .u64 0, .int .i64 0], .int .i64 1]) (by simp [results, Try.results48, go_sem]) rfl ⟨rfl, ?_⟩
      repeat (first | exact Below.refl _ _ | apply Below.drew | (refine Below.alloc ?_ (by simp <;> omega) _) | (refine Below.setCell ?_ (by simp <;> omega) _))
  · obtain ⟨e1, e2⟩ := thr_no v c (by omega)
    rw [e1, e2]
    clear e1 e2
    go_enter Try.func48, Try.ntmps48
    go_wp2
    refine bodyPost_ret (v := .tuple #[.agg #[.int .u64 0, .int .i64 0, .int .u64 0, .int .i64 0], .int .i64 1]) (by simp [results, Try.results48, go_sem]) rfl ⟨rfl, ?_⟩
    repeat (first | exact Below.refl _ _ | apply Below.drew | (refine Below.alloc ?_ (by simp <;> omega) _) | (refine Below.setCell ?_ (by simp <;> omega) _))
theorem rtells_ (b : Int) (v : Vec) (p : Int) (w : World) : Calls Try.prog 41 #[.int .u64 b, .agg #[.int .u64 v.root, .int .i64 v.cost, .int .u64 v.bridge, .int .i64 v.port], .int .i64 p] w fun e w' => e = .returned (.agg #[.int .u64 v.root, .int .i64 v.cost, .int .u64 b, .int .i64 p]) ∧ Below w.heap.size w w' := by
  go_enter Try.func41, Try.ntmps41
  go_wp2
  refine bodyPost_ret (v := .agg #[.int .u64 v.root, .int .i64 v.cost, .int .u64 b, .int .i64 p]) (by simp [results, Try.results41, go_sem]) rfl ⟨rfl, ?_⟩
  repeat (first | exact Below.refl _ _ | apply Below.drew | (refine Below.alloc ?_ (by simp <;> omega) _) | (refine Below.setCell ?_ (by simp <;> omega) _))
theorem rcmp_ (a b : Vec) (w : World) : Calls Try.prog 40 #[.agg #[.int .u64 a.root, .int .i64 a.cost, .int .u64 a.bridge, .int .i64 a.port], .agg #[.int .u64 b.root, .int .i64 b.cost, .int .u64 b.bridge, .int .i64 b.port]] w fun e w' => e = .returned (.int .i64 (cmpV a b)) ∧ Below w.heap.size w w' := by
  rcases cmpV_cases a b with ⟨h1, h2⟩ | ⟨h1, h2⟩ | ⟨h1, h2, h3⟩ | ⟨h1, h2, h3⟩ | ⟨h1, h2, h3, h4⟩ | ⟨h1, h2, h3, h4⟩ | ⟨h1, h2, h3, h4, h5⟩ | ⟨h1, h2, h3, h4, h5⟩ | ⟨h1, h2, h3, h4, h5⟩
  all_goals
    first | rw [h5] | rw [h4] | rw [h3] | rw [h2]
    first | clear h5 | clear h4 | clear h3 | clear h2
    go_enter Try.func40, Try.ntmps40
    go_wp2
    go_ret
    exact ⟨rfl, by repeat (first | exact Below.refl _ _ | apply Below.drew | (refine Below.alloc ?_ (by simp <;> omega) _) | (refine Below.setCell ?_ (by simp <;> omega) _))⟩
set_option maxHeartbeats 4000000 in
theorem rbest_ (b : Int) (A : Option Addr) (n c : Nat) (hs : List Heard) (w : World) (hn : n ≤ 40) (hr : Reads w w.heap.size 6 A n (hs.flatMap cellsH)) :
    Calls Try.prog 39 #[.int .u64 b, .slice A n c] w fun e w' => e = .returned (.tuple #[.int .i64 (bestOf b hs).1, .agg #[.int .u64 ((bestOf b hs).2).root, .int .i64 ((bestOf b hs).2).cost, .int .u64 ((bestOf b hs).2).bridge, .int .i64 ((bestOf b hs).2).port]]) ∧ Below w.heap.size w w' := by
  have hlen := hr.1
  rw [cellsH_len] at hlen
  have HL := Lib.hid (show hs.length = n by omega)
  clear hlen
  go_enter Try.func39, Try.ntmps39
  go_wp2_with (go_at_call 38; refine (rown_ b _).mono ?_; rintro e w1 ⟨rfl, hb1⟩)
  have hw1 : Below w.heap.size w w1 := ((Below.refl _ _).alloc (Nat.le_refl _) _).trans (hb1.mono (by simp))
  have hz1 := hb1.size
  simp only [World.size_alloc] at hz1
  have hres := (Blk.new w 62 #[.int .u64 0, .int .i64 0, .int .u64 0, .int .i64 0]).below hb1 (by simp)
  have HR := Lib.hid hres
  clear hb1 hres
  go_loopw [6, 8] (fun p i wr => ∃ k : Nat, k ≤ n ∧ i = .int .i64 k ∧ p = .int .i64 (bestTo b hs k).1 ∧ Blk wr w1.heap.size 62 #[.int .u64 ((bestTo b hs k).2).root, .int .i64 ((bestTo b hs k).2).cost, .int .u64 ((bestTo b hs k).2).bridge, .int .i64 ((bestTo b hs k).2).port] ∧ Below w1.heap.size w1 wr) (fun _ i _ => n - (intOf i).toNat)
  case atStart => exact ⟨0, Nat.zero_le _, rfl, rfl, Blk.new _ _ _, (Below.refl _ _).alloc (Nat.le_refl _) _⟩
  case round =>
    obtain ⟨k, hk, rfl, rfl, hblk, hbel⟩ := hrel
    by_cases hlt : k < n
    · have hlt' : (k : Int) < (n : Int) := by omega
      have hlw : w1.heap.size < wr.heap.size := hblk.lt
      obtain ⟨b0, off, h, rfl, hb0, hat, c0, c1, c2, c3, c4, c5⟩ := reads6 ((hr.below hw1).below (hbel.mono (by omega))) hlt
      obtain ⟨v0, v1, v2, v3, f0, f1, f2, f3⟩ := vec_cells hblk
      have HA := Lib.hid hat
      have HB := Lib.hid hblk
      clear hat hblk
      generalize hst : bestTo b hs k = st at *
      have HS := Lib.hid hst
      clear hst
      have hlq : (k : Int) < (n : Int) := hlt'
      by_cases i1 : h.is = true
      · by_cases i2 : h.v.bridge = b
        · have i2' : (h.v.bridge == b) = true := by simp [i2]
          have I2 := Lib.hid i2
          clear i2
          go_wp2
          go_roundw
          case rel =>
            have hbt : bestTo b hs (k + 1) = st := by rw [← HS.out]; exact bestTo_no HA.out (by rw [HS.out]; simp [better, I2.out])
            refine ⟨k + 1, by omega, by go_num, by rw [hbt], by rw [hbt]; exact HB.out, hbel⟩
          case measure => simp [intOf]; omega
        · have i2' : (h.v.bridge == b) = false := by simp [i2]
          have I2 := Lib.hid i2
          clear i2
          go_upto_region 7 with fail
          go_cut [9, 10] (fun s9 s10 wx => ∃ g : Nat, s9 = .pointer (some ⟨g, 0, none⟩) ∧ s10 = .int .i64 (te h.v h.cost) ∧ Blk wx g 62 #[.int .u64 (tv h.v h.cost).root, .int .i64 (tv h.v h.cost).cost, .int .u64 (tv h.v h.cost).bridge, .int .i64 (tv h.v h.cost).port] ∧ Blk wx w1.heap.size 62 #[.int .u64 st.2.root, .int .i64 st.2.cost, .int .u64 st.2.bridge, .int .i64 st.2.port] ∧ wr.heap.size ≤ g ∧ Below wr.heap.size wr wx)
          case first =>
            have hne0 : b0 ≠ wr.heap.size := by omega
            clear v0 v1 v2 v3 f0 f1 f2 f3
            go_region_held3 (fun w' => w'.cell? ⟨b0, off + k * 6 + 1, none⟩ = some (.int .u64 h.v.root) ∧ w'.cell? ⟨b0, off + k * 6 + 2, none⟩ = some (.int .i64 h.v.cost) ∧ w'.cell? ⟨b0, off + k * 6 + 3, none⟩ = some (.int .u64 h.v.bridge) ∧ w'.cell? ⟨b0, off + k * 6 + 4, none⟩ = some (.int .i64 h.v.port) ∧ w'.cell? ⟨b0, off + k * 6 + 5, none⟩ = some (.int .i64 h.cost))
              (first
                | (simp [World.cell?_alloc_some, c1, c2, c3, c4, c5]; done)
                | (simp [World.cell?_alloc_some, d1, d2, d3, d4, d5]; done)
                | (simp [cell_far, d1, d2, d3, d4, d5, hne0]; done))
              ((go_at_call 48; refine (rthrough_ h.v h.cost _).mono ?_; rintro e w2 ⟨rfl, hb2⟩; obtain ⟨hc2, hf2⟩ := bcell hb2; have hz2 : wr.heap.size ≤ w2.heap.size := (by have := hb2.size; simp at this; omega); have hne2 : b0 ≠ w2.heap.size := (by omega); have d1 : w2.cell? ⟨b0, off + k * 6 + 1, none⟩ = some (.int .u64 h.v.root) := (by rw [hc2 _ _ (by simp; omega)]; simp [World.cell?_alloc_some, c1]); have d2 : w2.cell? ⟨b0, off + k * 6 + 2, none⟩ = some (.int .i64 h.v.cost) := (by rw [hc2 _ _ (by simp; omega)]; simp [World.cell?_alloc_some, c2]); have d3 : w2.cell? ⟨b0, off + k * 6 + 3, none⟩ = some (.int .u64 h.v.bridge) := (by rw [hc2 _ _ (by simp; omega)]; simp [World.cell?_alloc_some, c3]); have d4 : w2.cell? ⟨b0, off + k * 6 + 4, none⟩ = some (.int .i64 h.v.port) := (by rw [hc2 _ _ (by simp; omega)]; simp [World.cell?_alloc_some, c4]); have d5 : w2.cell? ⟨b0, off + k * 6 + 5, none⟩ = some (.int .i64 h.cost) := (by rw [hc2 _ _ (by simp; omega)]; simp [World.cell?_alloc_some, c5])))
            · go_wp2_with fail
              go_meet
              exact ⟨w2.heap.size, rfl, rfl, Blk.new _ _ _, (HB.out.drew.below hb2 hlw).alloc _, hz2, ((Below.refl wr.heap.size wr).drew.trans hb2).alloc hz2 _⟩
            · go_wp2_with fail
              go_meet
              have e1 := (Blk.new wr 62 #[.int .u64 0, .int .i64 0, .int .u64 0, .int .i64 0]).drew.below hb2 (by simp)
              have e2 := (HB.out.alloc _).drew.below hb2 (by simp; omega)
              have e3 := ((Below.refl wr.heap.size wr).alloc (Nat.le_refl _) _).drew.trans (hb2.mono (by simp))
              have hne : w1.heap.size ≠ wr.heap.size := by omega
              exact ⟨wr.heap.size, rfl, rfl, (((e1.set_ 0 _).set_ 1 _).set_ 2 _).set_ 3 _,
                (((e2.far (p := ⟨wr.heap.size, 0, none⟩) hne _).far (p := ⟨wr.heap.size, 1, none⟩) hne _).far (p := ⟨wr.heap.size, 2, none⟩) hne _).far (p := ⟨wr.heap.size, 3, none⟩) hne _, Nat.le_refl _,
                (((e3.setCell (Nat.le_refl _) _).setCell (Nat.le_refl _) _).setCell (Nat.le_refl _) _).setCell (Nat.le_refl _) _⟩
          case rest =>
            obtain ⟨g, rfl, rfl, hG, hBx, hg, hbx⟩ := hcut
            clear v0 v1 v2 v3 f0 f1 f2 f3 c0 c1 c2 c3 c4 c5
            obtain ⟨p0, p1, p2, p3, p4, p5, p6, p7⟩ := vec_cells hG
            obtain ⟨q0, q1, q2, q3, q4, q5, q6, q7⟩ := vec_cells hBx
            have HG := Lib.hid hG
            have HX := Lib.hid hBx
            have hne : g ≠ w1.heap.size := by omega
            clear hG hBx
            by_cases i3 : te h.v h.cost = 0
            · by_cases i4 : cmpV (tv h.v h.cost) st.2 < 0
              · go_wp2_with (go_at_call 40; refine (rcmp_ (tv h.v h.cost) st.2 _).mono ?_; rintro e w3 ⟨rfl, hb3⟩; have hB3 := HX.out.below hb3 HX.out.lt; obtain ⟨x0, x1, x2, x3, y0, y1, y2, y3⟩ := vec_cells hB3; have hV3 := HG.out.below hb3 HG.out.lt; obtain ⟨z0, z1, z2, z3, t0, t1, t2, t3⟩ := vec_cells hV3)
                go_roundw
                case rel =>
                  have hbt : bestTo b hs (k + 1) = ((k : Int), tv h.v h.cost) := bestTo_yes HA.out (by rw [HS.out]; simp [better, i1, i3, i4]; exact I2.out)
                  refine ⟨k + 1, by omega, by go_num, by rw [hbt], by rw [hbt]; exact ((((hB3.set_ 0 _).set_ 1 _).set_ 2 _).set_ 3 _), ?_⟩
                  have hx := HX.out.lt
                  have hq := (hbel.trans (hbx.mono (by omega))).trans (hb3.mono (by omega))
                  exact (((hq.setCell (Nat.le_refl _) _).setCell (Nat.le_refl _) _).setCell (Nat.le_refl _) _).setCell (Nat.le_refl _) _
                case measure => simp [intOf]; omega
              · go_wp2_with (go_at_call 40; refine (rcmp_ (tv h.v h.cost) st.2 _).mono ?_; rintro e w3 ⟨rfl, hb3⟩; have hB3 := HX.out.below hb3 HX.out.lt; obtain ⟨x0, x1, x2, x3, y0, y1, y2, y3⟩ := vec_cells hB3; have hV3 := HG.out.below hb3 HG.out.lt; obtain ⟨z0, z1, z2, z3, t0, t1, t2, t3⟩ := vec_cells hV3)
                go_roundw
                case rel =>
                  have hbt : bestTo b hs (k + 1) = st := by rw [← HS.out]; exact bestTo_no HA.out (by rw [HS.out]; simp [better, i4])
                  have hx := HX.out.lt
                  refine ⟨k + 1, by omega, by go_num, by rw [hbt], by rw [hbt]; exact hB3, (hbel.trans (hbx.mono (by omega))).trans (hb3.mono (by omega))⟩
                case measure => simp [intOf]; omega
            · have i3' : (te h.v h.cost == 0) = false := by simp [i3]
              go_wp2
              go_roundw
              case rel =>
                have hbt : bestTo b hs (k + 1) = st := by rw [← HS.out]; exact bestTo_no HA.out (by rw [HS.out]; simp [better, i3])
                refine ⟨k + 1, by omega, by go_num, by rw [hbt], by rw [hbt]; exact HX.out, hbel.trans (hbx.mono (by omega))⟩
              case measure => simp [intOf]; omega
      · have i1' : h.is = false := by simpa using i1
        go_wp2
        go_roundw
        case rel =>
          have hbt : bestTo b hs (k + 1) = st := by rw [← HS.out]; exact bestTo_no HA.out (by rw [HS.out]; simp [better, i1'])
          refine ⟨k + 1, by omega, by go_num, by rw [hbt], by rw [hbt]; exact HB.out, hbel⟩
        case measure => simp [intOf]; omega
    · have hke : k = n := by omega
      have HK := Lib.hid hke
      clear hke
      obtain ⟨v0, v1, v2, v3, f0, f1, f2, f3⟩ := vec_cells hblk
      have hres := HR.out.below hbel (by omega)
      obtain ⟨r0, r1, r2, r3, g0, g1, g2, g3⟩ := vec_cells (v := ⟨0, 0, 0, 0⟩) hres
      go_wp2
      go_region
      go_wp2
      refine bodyPost_ret (v := .tuple #[.int .i64 (bestTo b hs k).1, .agg #[.int .u64 ((bestTo b hs k).2).root, .int .i64 ((bestTo b hs k).2).cost, .int .u64 ((bestTo b hs k).2).bridge, .int .i64 ((bestTo b hs k).2).port]]) (by simp [results, Try.results39, go_sem, r0, r1, r2, r3]) rfl ⟨?_, ?_⟩
      · rw [bestOf, HL.out, HK.out]
      · have hq : Below w.heap.size w wr := hw1.trans (hbel.mono (by omega))
        exact ((((hq.setCell (Nat.le_refl _) _).setCell (Nat.le_refl _) _).setCell (Nat.le_refl _) _).setCell (Nat.le_refl _) _).drew
end Prio
end Go.Proofs.Ytdgbemafhhhceaa
