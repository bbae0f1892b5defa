/-
  The walk of PrioOne: at most one port is Root.
-/
import Derived.Test.YtjklleoeganmhaaPrioOpen
import Derived.Test.YtjklleoeganmhaaPrioMath3
import Derived.Deep.DeepCutAuto
import Derived.Deep.RegionHeld3
import Derived.Deep.DrawnRows
namespace Go.Proofs.Ytjklleoeganmhaa
open Go.RowKit
namespace Prio
attribute [local go_sem ↓] Go.wp_at_zero Go.wp_at_succ
theorem law_one_long (b : Int) (A : Option Addr) (n c : Nat) (w : World) (hn : 40 < n) :
    Calls Try.prog 7 #[.int .u64 b, .slice A n c] w fun e w' => e = .returned (.bool true) ∧ Below w.heap.size w w' := by
  have hn' : (40 : Int) < (n : Int) := by omega
  go_enter Try.func7, Try.ntmps7
  go_wp2_with fail
  refine (live_ _).mono ?_
  rintro e w1 ⟨rfl, hb1⟩
  go_wp2
  go_ret
  exact ⟨rfl, hb1⟩
/-- a cell far below, in a later world -/
theorem keep1 {w w' : World} (hb : Below w.heap.size w w') {g o : Nat} {v : Value} (hg : g < w.heap.size) (h : w.cell? ⟨g, o, none⟩ = some v) : w'.cell? ⟨g, o, none⟩ = some v := ((bcell hb).1 g o hg).trans h
theorem alloc_cell (w : World) (x : Obj) (b o : Nat) (h : b < w.heap.size) : (w.alloc x).cell? ⟨b, o, none⟩ = w.cell? ⟨b, o, none⟩ := World.cell?_alloc_lt w x _ h
set_option linter.unusedSimpArgs false
set_option maxRecDepth 100000 in
set_option maxHeartbeats 4000000 in
theorem law_one (b : Int) (A : Option Addr) (n c : Nat) (hs : List Heard) (w : World) (hn : n ≤ 40) (hr : Reads w w.heap.size 6 A n (hs.flatMap cellsH)) :
    Calls Try.prog 7 #[.int .u64 b, .slice A n c] w fun e w' => e = .returned (.bool true) ∧ Below w.heap.size w w' := by
  have hn' : ¬ (40 : Int) < (n : Int) := by omega
  have hlen : hs.length = n := by
    have h := hr.1
    rw [cellsH_len] at h
    omega
  have hst := bestOf_cases b hs
  rw [hlen] at hst
  have HL := Lib.hid hlen
  have HST := Lib.hid hst
  clear hlen hst
  go_enter Try.func7, Try.ntmps7
  go_wp2_with fail
  refine (told_ A n c hs _ hn hr).mono ?_
  rintro e w1 ⟨⟨A1, c1, rfl, hr1⟩, hb1⟩
  go_wp2_with fail
  refine (roles_ b A1 n c1 hs _ hn hr1).mono ?_
  rintro e w2 ⟨⟨A2, c2, rfl, hr2⟩, hb2⟩
  have hw2 : Below w.heap.size w w2 := hb1.trans (hb2.mono hb1.size)
  have hr1' := (hr1.below hb2).more hb2.size
  clear hb1 hr1 hb2
  go_wp2_with fail
  refine (best_ b A1 n c1 hs _ hn hr1').mono ?_
  rintro e w3 ⟨rfl, hb3⟩
  have hw3 : Below w.heap.size w w3 := hw2.trans (hb3.mono hw2.size)
  have hr13 := (hr1'.below hb3).more hb3.size
  have hr23 := (hr2.below hb3).more hb3.size
  clear hw2 hr1' hr2 hb3
  have HRO := Lib.hid (show ∀ j h, hs[j]? = some h → ((rolesOf b hs).map (Value.int .i64))[j]? = some (Value.int .i64 (roleAt b (bestOf b hs) j h)) from fun j h hl => by rw [List.getElem?_map, rolesOf_at hl]; rfl)
  have HLE := Lib.hid (show ∀ j h, hs[j]? = some h → h.is = true → h.v.bridge ≠ b → te h.v h.cost = 0 → ¬ cmpV (tv h.v h.cost) (bestOf b hs).2 < 0 from fun j h hl => bestOf_least hl)
  have HRL := Lib.hid (show ((rolesOf b hs).map (Value.int .i64)).length = n from by rw [List.length_map, rolesOf, rolesTo_length _ _ _ _ (Nat.le_refl _), HL.out])
  generalize bestOf b hs = st at *
  go_wp2_with fail
  go_loopw [9, 10] (fun v i wr => ∃ k : Nat, k ≤ n ∧ i = .int .i64 k ∧ v = .int .i64 (roots st.1 k) ∧ Blk wr w3.heap.size 24 #[.int .u64 st.2.root, .int .i64 st.2.cost, .int .u64 st.2.bridge, .int .i64 st.2.port] ∧ Below w3.heap.size w3 wr) (fun _ i _ => n - (intOf i).toNat)
  case atStart => exact ⟨0, Nat.zero_le _, rfl, by simp [roots], Blk.new _ _ _, (Below.refl _ _).alloc (Nat.le_refl _) _⟩
  case round =>
    obtain ⟨k, hk, rfl, rfl, hblk, hbel⟩ := hrel
    by_cases hlt : k < n
    · have hlt' : (k : Int) < (n : Int) := by omega
      have hlw : w3.heap.size < wr.heap.size := hblk.lt
      obtain ⟨b0, off, h, rfl, hb0, hat, c0, c1, c2, c3, c4, c5⟩ := reads6 (hr13.below hbel) hlt
      obtain ⟨b2, off2, rfl, hb2, hc2⟩ := (hr23.below hbel).flat (by omega) (by rw [HRL.out]; omega)
      have d0 := hc2 k _ (HRO.out k h hat)
      have HA := Lib.hid hat
      have HB := Lib.hid hblk
      clear hat hblk hc2
      go_upto_if 43 with fail
      go_cut [9] (fun s9 wx => s9 = .int .i64 (roots st.1 (k + 1)) ∧ wr = wx)
      case first =>
        by_cases ip : (k : Int) = st.1
        · obtain ⟨e1, e2⟩ := roots_yes ip
          have E2 := Lib.hid e2
          have hre : (roleAt b st k h == 1) = true := by rw [role_root ip]; rfl
          have ip' : ((k : Int) != st.1) = false := by simp [ip]
          clear ip e2
          go_wp2_with fail
          go_meet
          exact ⟨by rw [E2.out], rfl⟩
        · have E2 := Lib.hid (roots_no ip)
          have hne : (roleAt b st k h == 1) = false := by
            rcases role_other (b := b) (h := h) ip with ⟨e, _⟩ | e <;> rw [e] <;> rfl
          go_wp2_with fail
          go_meet
          exact ⟨by rw [E2.out], rfl⟩
      case rest =>
        obtain ⟨rfl, rfl⟩ := hcut
        obtain ⟨v0, v1, v2, v3, f0, f1, f2, f3⟩ := vec_cells HB.out
        go_upto_region 16 with fail
        go_cut [11, 12] (fun s11 s12 wx => ∃ g : Nat, s11 = .pointer (some ⟨g, 0, none⟩) ∧ s12 = .int .i64 (te h.v h.cost) ∧ Blk wx g 24 #[.int .u64 (tv h.v h.cost).root, .int .i64 (tv h.v h.cost).cost, .int .u64 (tv h.v h.cost).bridge, .int .i64 (tv h.v h.cost).port] ∧ Below wr.heap.size wr wx)
        case first =>
          clear v0 v1 v2 v3 f0 f1 f2 f3 d0
          have hne0 : b0 ≠ wr.heap.size := by omega
          have hbw : b0 < wr.heap.size := by omega
          go_region_held3 (fun w' => w'.cell? ⟨b0, off + k * 6 + 1, none⟩ = some (.int .u64 h.v.root) ∧ w'.cell? ⟨b0, off + k * 6 + 2, none⟩ = some (.int .i64 h.v.cost) ∧ w'.cell? ⟨b0, off + k * 6 + 3, none⟩ = some (.int .u64 h.v.bridge) ∧ w'.cell? ⟨b0, off + k * 6 + 4, none⟩ = some (.int .i64 h.v.port) ∧ w'.cell? ⟨b0, off + k * 6 + 5, none⟩ = some (.int .i64 h.cost))
            (first
              | (simp (disch := ((try simp) <;> omega)) [alloc_cell, cell_far, c1, c2, c3, c4, c5]; done)
              | (simp (disch := ((try simp) <;> omega)) [alloc_cell, cell_far, hc2, c1, c2, c3, c4, c5]; done))
            ((go_at_call 14; refine (through_ h.v h.cost _).mono ?_; rintro e w2 ⟨rfl, hb2⟩; obtain ⟨hc2, _⟩ := bcell hb2; have hz2 : wr.heap.size ≤ w2.heap.size := (by have := hb2.size; simp at this; omega)))
          · go_wp2_with fail
            go_meet
            exact ⟨w2.heap.size, rfl, rfl, Blk.new _ _ _, ((Below.refl wr.heap.size wr).drew.trans hb2).alloc hz2 _⟩
          · go_wp2_with fail
            go_meet
            have e1 := (Blk.new wr 24 #[.int .u64 0, .int .i64 0, .int .u64 0, .int .i64 0]).drew.below hb2 (by simp)
            have e3 := ((Below.refl wr.heap.size wr).alloc (Nat.le_refl _) _).drew.trans (hb2.mono (by simp))
            exact ⟨wr.heap.size, rfl, rfl, (((e1.set_ 0 _).set_ 1 _).set_ 2 _).set_ 3 _,
              (((e3.setCell (Nat.le_refl _) _).setCell (Nat.le_refl _) _).setCell (Nat.le_refl _) _).setCell (Nat.le_refl _) _⟩
        case rest =>
          obtain ⟨g, rfl, rfl, hG, hbx⟩ := hcut
          have hB2 := HB.out.below hbx hlw
          have d0' := keep1 hbx (by omega) d0
          have c0' := keep1 hbx (by omega) c0
          have c1' := keep1 hbx (by omega) c1
          have c2' := keep1 hbx (by omega) c2
          have c3' := keep1 hbx (by omega) c3
          have c4' := keep1 hbx (by omega) c4
          have c5' := keep1 hbx (by omega) c5
          have hbel2 := hbel.trans (hbx.mono (by omega))
          clear v0 v1 v2 v3 f0 f1 f2 f3 c0 c1 c2 c3 c4 c5 d0
          obtain ⟨v0, v1, v2, v3⟩ := vec4 hB2
          obtain ⟨g0, g1, g2, g3⟩ := vec4 hG
          have HB2 := Lib.hid hB2
          have HG := Lib.hid hG
          clear hB2 hG
          go_upto_region 17 with fail
          go_cut [87] (fun s87 wx => s87 = .bool false ∧ Below wc.heap.size wc wx)
          case first =>
            by_cases i1 : h.is = true
            · by_cases i3 : te h.v h.cost = 0
              · have i3' : (te h.v h.cost == 0) = true := by simp [i3]
                have I3 := Lib.hid i3
                clear i3
                by_cases i2 : h.v.bridge = b
                · have i2' : (h.v.bridge != b) = false := by simp [i2]
                  clear i2
                  go_wp2_with fail
                  go_meet
                  exact ⟨rfl, Below.refl _ _⟩
                · have i2' : (h.v.bridge != b) = true := by simp [i2]
                  have hle : decide (cmpV (tv h.v h.cost) st.2 < 0) = false := by
                    have := HLE.out k h HA.out i1 i2 I3.out
                    exact decide_eq_false (by omega)
                  clear i2
                  go_wp2_with fail
                  refine (cmp (tv h.v h.cost) st.2 _).mono ?_
                  rintro e w4 ⟨rfl, hb4⟩
                  go_wp2_with fail
                  go_meet
                  exact ⟨rfl, hb4⟩
              · have i3' : (te h.v h.cost == 0) = false := by simp [i3]
                clear i3
                go_wp2_with fail
                go_meet
                exact ⟨rfl, Below.refl _ _⟩
            · have i1' : h.is = false := by simpa using i1
              clear i1
              go_wp2_with fail
              go_meet
              exact ⟨rfl, Below.refl _ _⟩
          case rest =>
            obtain ⟨rfl, hbx2⟩ := hcut

            have HB3 := Lib.hid (HB2.out.below hbx2 HB2.out.lt)
            have hzc := hbx.size
            have hz2 := hbx2.size
            have d1 := keep1 hbx2 (by omega) d0'
            have z0 := keep1 hbx2 (by omega) c0'
            have z1 := keep1 hbx2 (by omega) c1'
            have z2 := keep1 hbx2 (by omega) c2'
            have z3 := keep1 hbx2 (by omega) c3'
            have z4 := keep1 hbx2 (by omega) c4'
            have hbel3 := hbel2.trans (hbx2.mono (by omega))
            clear v0 v1 v2 v3 g0 g1 g2 g3 c0' c1' c2' c3' c4' c5' d0' HB2 HG
            obtain ⟨v0, v1, v2, v3⟩ := vec4 HB3.out
            go_upto_region 19 with fail
            go_cut [115] (fun s115 wx => s115 = .bool false ∧ Below wc.heap.size wc wx)
            case first =>
              by_cases ip : (k : Int) = st.1
              · have hre : (roleAt b st k h == 2) = false := by rw [role_root ip]; rfl
                clear ip
                go_quiet (fail)
                go_wp2_with fail
                go_meet
                exact ⟨rfl, below_drewN (Below.refl _ _) _⟩
              · rcases role_other (b := b) (h := h) ip with ⟨e, hco⟩ | e
                · have hre : (roleAt b st k h == 2) = true := by rw [e]; rfl
                  clear ip e
                  by_cases i1 : h.is = true
                  · have hco' : decide (0 < cmpV ⟨st.2.root, st.2.cost, b, k⟩ h.v) = false := by
                      have := hco i1
                      exact decide_eq_false (by omega)
                    clear hco
                    go_region_held3 (fun w' => w'.cell? ⟨b2, off2 + k, none⟩ = some (.int .i64 (roleAt b st k h)) ∧ w'.cell? ⟨b0, off + k * 6, none⟩ = some (.bool h.is) ∧ w'.cell? ⟨b0, off + k * 6 + 1, none⟩ = some (.int .u64 h.v.root) ∧ w'.cell? ⟨b0, off + k * 6 + 2, none⟩ = some (.int .i64 h.v.cost) ∧ w'.cell? ⟨b0, off + k * 6 + 3, none⟩ = some (.int .u64 h.v.bridge) ∧ w'.cell? ⟨b0, off + k * 6 + 4, none⟩ = some (.int .i64 h.v.port) ∧ w'.cell? ⟨w3.heap.size, 0, none⟩ = some (.int .u64 st.2.root) ∧ w'.cell? ⟨w3.heap.size, 1, none⟩ = some (.int .i64 st.2.cost))
                      (first
                        | (simp (disch := ((try simp) <;> omega)) [d1, z0, z1, z2, z3, z4, v0, v1, i1]; done)
                        | (simp (disch := ((try simp) <;> omega)) [hc5, d1, z0, z1, z2, z3, z4, v0, v1, i1]; done))
                      ((go_at_call 9; refine (cmp ⟨st.2.root, st.2.cost, b, k⟩ h.v _).mono ?_; rintro e w5 ⟨rfl, hb5⟩; obtain ⟨hc5, _⟩ := bcell hb5))
                    go_wp2_with fail
                    go_meet
                    exact ⟨rfl, (Below.refl _ _).drew.trans hb5⟩
                  · have i1' : h.is = false := by simpa using i1
                    clear i1 hco
                    go_quiet (fail)
                    go_wp2_with fail
                    go_meet
                    exact ⟨rfl, below_drewN (Below.refl _ _) _⟩
                · have hre : (roleAt b st k h == 2) = false := by rw [e]; rfl
                  clear ip e
                  go_quiet (fail)
                  go_wp2_with fail
                  go_meet
                  exact ⟨rfl, below_drewN (Below.refl _ _) _⟩
            case rest =>
              obtain ⟨rfl, hbx3⟩ := hcut
              have hz3 := hbx3.size
              have hB4 := HB3.out.below hbx3 HB3.out.lt
              have hbel4 := hbel3.trans (hbx3.mono (by omega))
              clear v0 v1 v2 v3 z0 z1 z2 z3 z4 d1
              go_wp2
              go_roundw
              case rel => exact ⟨k + 1, by omega, by go_num, rfl, hB4, hbel4⟩
              case measure => simp [intOf]; omega
    · have hke : k = n := by omega
      subst hke
      have hsz3 := hw3.size
      obtain ⟨v0, v1, v2, v3⟩ := vec4 hblk
      have hlw : w3.heap.size < wr.heap.size := hblk.lt
      obtain ⟨p, v⟩ := st
      rcases HST.out with ⟨e1, e2⟩ | ⟨e1, e2, e3⟩
      · simp only at e1 e2
        subst e1 e2
        have hro : roots (-1) k = 0 := by unfold roots; rw [if_neg (by omega)]
        have heq := eql_yes (own b)
        rw [hro]
        clear hro
        simp only [own] at v0 v1 v2 v3
        go_wp2_with fail
        go_region_held3 (fun w' => w'.cell? ⟨w3.heap.size, 0, none⟩ = some (.int .u64 b) ∧ w'.cell? ⟨w3.heap.size, 1, none⟩ = some (.int .i64 0) ∧ w'.cell? ⟨w3.heap.size, 2, none⟩ = some (.int .u64 b) ∧ w'.cell? ⟨w3.heap.size, 3, none⟩ = some (.int .i64 0))
          (first
            | (simp (disch := ((try simp) <;> omega)) [v0, v1, v2, v3]; done)
            | (simp (disch := ((try simp) <;> omega)) [hc5, v0, v1, v2, v3]; done)
            | (simp (disch := ((try simp) <;> omega)) [hc6, hc5, v0, v1, v2, v3]; done))
          (first
            | (go_at_call 11; refine (own_ b _).mono ?_; rintro e w5 ⟨rfl, hb5⟩; obtain ⟨hc5, _⟩ := bcell hb5; have hz5 : wr.heap.size ≤ w5.heap.size := hb5.size)
            | (go_at_call 13; refine (live_ _).mono ?_; rintro e w6 ⟨rfl, hb6⟩; obtain ⟨hc6, _⟩ := bcell hb6))
        go_wp2
        go_ret
        exact ⟨rfl, ((hw3.trans (hbel.mono (by omega))).drew.trans (hb5.mono (show w.heap.size ≤ wr.heap.size by omega))).trans (hb6.mono (by omega))⟩
      · have hro : roots p k = 1 := by unfold roots; rw [if_pos (by omega)]
        rw [hro]
        clear hro
        simp only at e1 e2 e3 v0 v1 v2 v3
        have e1' : ¬ p < 0 := by omega
        have e3' : decide (cmpV v (own b) < 0) = true := by simp [e3]
        go_wp2_with fail
        go_region_held3 (fun w' => w'.cell? ⟨w3.heap.size, 0, none⟩ = some (.int .u64 v.root) ∧ w'.cell? ⟨w3.heap.size, 1, none⟩ = some (.int .i64 v.cost) ∧ w'.cell? ⟨w3.heap.size, 2, none⟩ = some (.int .u64 v.bridge) ∧ w'.cell? ⟨w3.heap.size, 3, none⟩ = some (.int .i64 v.port))
          (first
            | (simp (disch := ((try simp) <;> omega)) [v0, v1, v2, v3]; done)
            | (simp (disch := ((try simp) <;> omega)) [hc5, v0, v1, v2, v3]; done)
            | (simp (disch := ((try simp) <;> omega)) [hc6, hc5, v0, v1, v2, v3]; done)
            | (simp (disch := ((try simp) <;> omega)) [hc7, hc6, hc5, v0, v1, v2, v3]; done))
          (first
            | (go_at_call 11; refine (own_ b _).mono ?_; rintro e w5 ⟨rfl, hb5⟩; obtain ⟨hc5, _⟩ := bcell hb5; have hz5 : wr.heap.size ≤ w5.heap.size := hb5.size)
            | (go_at_call 9; refine (cmp v (own b) _).mono ?_; rintro e w6 ⟨rfl, hb6⟩; obtain ⟨hc6, _⟩ := bcell hb6; have hz6 := hb6.size)
            | (go_at_call 13; refine (live_ _).mono ?_; rintro e w7 ⟨rfl, hb7⟩; obtain ⟨hc7, _⟩ := bcell hb7))
        go_wp2
        go_ret
        exact ⟨rfl, (((hw3.trans (hbel.mono (by omega))).drew.trans (hb5.mono (show w.heap.size ≤ wr.heap.size by omega))).trans (hb6.mono (by omega))).trans (hb7.mono (by omega))⟩
theorem law_one_any (b : Int) (A : Option Addr) (n c : Nat) (hs : List Heard) (w : World) (hr : Reads w w.heap.size 6 A n (hs.flatMap cellsH)) :
    Calls Try.prog 7 #[.int .u64 b, .slice A n c] w fun e w' => e = .returned (.bool true) ∧ Below w.heap.size w w' := by
  by_cases hn : n ≤ 40
  · exact law_one b A n c hs w hn hr
  · exact law_one_long b A n c w (by omega)
end Prio
end Go.Proofs.Ytjklleoeganmhaa
