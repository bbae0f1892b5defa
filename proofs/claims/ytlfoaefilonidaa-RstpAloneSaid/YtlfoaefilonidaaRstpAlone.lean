/-
  The walk of RstpAlone.
-/
import Derived.Test.YtlfoaefilonidaaRstpAny
import Derived.Test.YtlfoaefilonidaaRstpAloneMath
import Derived.Test.YtlfoaefilonidaaRstpOpen
import Derived.Test.YtlfoaefilonidaaPrioRef
import Derived.Deep.RegionHeld3
import Derived.Deep.CutBlock
namespace Go.Proofs.Ytlfoaefilonidaa
set_option linter.unusedVariables false
set_option linter.unusedSimpArgs false
open Go.RowKit
namespace Rstp
open Go.Proofs.Ytlfoaefilonidaa.Prio
set_option maxRecDepth 100000 in
set_option maxHeartbeats 4000000 in
theorem alone_ (b : Int) (A1 : Option Addr) (n1 c1 : Nat) (cs : List Int) (A2 : Option Addr) (n2 c2 : Nat) (us : List Int) (w : World)
    (hr1 : Reads w w.heap.size 1 A1 n1 (cs.map (Value.int .i64))) (hr2 : Reads w w.heap.size 1 A2 n2 (us.map (Value.int .i64))) :
    Calls Try.prog 3 #[.int .u64 b, .slice A1 n1 c1, .slice A2 n2 c2] w fun e w' => e = .returned (.bool true) ∧ Below w.heap.size w w' := by
  have hlen : cs.length = n1 := by have := hr1.1; simpa using this
  have hlen2 : us.length = n2 := by have := hr2.1; simpa using this
  cases hm : mayT cs
  · go_enter Try.func3, Try.ntmps3
    go_wp2_with fail
    refine (new_no b A1 n1 c1 cs _ hr1 hm).mono ?_
    rintro e w1 ⟨rfl, hb1⟩
    go_wp2_with fail
    refine (live_ _).mono ?_
    rintro e w2 ⟨rfl, hb2⟩
    go_wp2_with fail
    go_ret
    exact ⟨rfl, hb1.trans (hb2.mono hb1.size)⟩
  · obtain ⟨hl1, hl2, _⟩ := mayT_iff.1 hm
    have hn1 : n1 ≤ 16 := by omega
    have hn0 : 1 ≤ n1 := by omega
    go_enter Try.func3, Try.ntmps3
    go_wp2_with fail
    refine (new_yes b A1 n1 c1 cs _ hr1 hm).mono ?_
    rintro e w1 ⟨g, gp, cap, rfl, hat1, hg, hgp, hb1⟩
    have hsz1 := hb1.size
    have HB1 := Lib.hid hb1
    have HAT1 := Lib.hid hat1
    have HL := Lib.hid hlen
    have HL2 := Lib.hid hlen2
    have HM := Lib.hid hm
    have HR2 := Lib.hid hr2
    clear hb1 hat1 hlen hlen2 hm hr1 hr2 hl1 hl2
    go_wp2_with fail
    go_loopw [9] (fun i wr => ∃ (m : Int) (t : Tr), 0 ≤ m ∧ m ≤ 61 ∧ i = .int .i64 m ∧ At wr g gp cap t ∧ Wf t ∧ (∃ q, 0 ≤ q ∧ q ≤ m ∧ Al b (sl us n1 0 m) q t) ∧ Below w.heap.size w wr) (fun i _ => (61 - intOf i).toNat)
    case atStart =>
      refine ⟨0, newT b cs, by omega, by omega, rfl, HAT1.out, Wf.new b HM.out, ⟨0, by omega, by omega, ?_⟩, HB1.out⟩
      rw [← HL.out, sl_start]
      exact Al.new b cs
    case round =>
      obtain ⟨m, t, hm0, hm1, rfl, hat, hwf, hal, hbel⟩ := hrel
      by_cases hm60 : m ≤ 60
      · have HAT := Lib.hid hat
        have HWF := Lib.hid hwf
        have HAL := Lib.hid hal
        have HBEL := Lib.hid hbel
        clear hat hwf hal hbel HB1 HAT1
        go_upto_block 2 with fail
        go_cut [10] (fun s10 wx => ∃ t', s10 = .int .i64 (cntU us m n1) ∧ At wx g gp cap t' ∧ Wf t' ∧ (∃ q, 0 ≤ q ∧ q ≤ m ∧ Al b (sl us n1 n1 m) q t') ∧ Below w.heap.size w wx)
        case first =>
          go_wp2_with fail
          go_loopw [10, 11] (fun th i wy => ∃ (j : Nat) (t' : Tr), j ≤ n1 ∧ j ≤ n2 ∧ i = .int .i64 j ∧ th = .int .i64 (cntU us m j) ∧ At wy g gp cap t' ∧ Wf t' ∧ (∃ q, 0 ≤ q ∧ q ≤ m ∧ Al b (sl us n1 j m) q t') ∧ Below w.heap.size w wy) (fun _ i _ => n1 - (intOf i).toNat)
          case atStart => exact ⟨0, t, Nat.zero_le _, Nat.zero_le _, rfl, rfl, HAT.out, HWF.out, HAL.out, HBEL.out⟩
          case round =>
            obtain ⟨j, t', hj1, hj2, rfl, rfl, hat, hwf, ⟨q, hq0, hq1, hal⟩, hbel⟩ := hrel
            have hcb := cntU_bd us m j
            by_cases hl1 : j < n1
            · have hl1' : (j : Int) < (n1 : Int) := by omega
              by_cases hl2 : j < n2
              · have hl2' : (j : Int) < (n2 : Int) := by omega
                obtain ⟨bb, off, rfl, hbb, hcc⟩ := (HR2.out.below hbel).flat (by omega) (by simp; have := HL2.out; omega)
                obtain ⟨u, hu⟩ : ∃ u, us[j]? = some u := ⟨_, List.getElem?_eq_getElem (by have := HL2.out; omega)⟩
                obtain ⟨p, hp⟩ : ∃ p, t'.ps[j]? = some p := ⟨_, List.getElem?_eq_getElem (by have := hal.len; rw [sl_len] at this; omega)⟩
                have hc : wr.cell? ⟨bb, off + j, none⟩ = some (.int .i64 u) := hcc j _ (by rw [List.getElem?_map, hu]; rfl)
                have HU := Lib.hid hu
                have HP := Lib.hid hp
                have HBEL2 := Lib.hid hbel
                have HAL2 := Lib.hid hal
                clear hcc hu hp hbel hal
                by_cases hum : u = m
                · subst hum
                  have HY := Lib.hid (cntU_yes HU.out hm0 (Int.le_refl _))
                  have HN := Lib.hid (Al.link HAL2.out hq1 hm0 HP.out (sl_none HU.out hl1 rfl))
                  have hok : okT t' j u = true := okT_iff.2 ⟨hm0, by omega, by omega, by have := (List.getElem?_eq_some_iff.1 HP.out).1; omega⟩
                  have hwl := hwf.link HP.out true (now := u) (by omega)
                  go_wp2_with fail
                  refine (link_ _ g gp cap t' j p true u hat hwf hok HP.out).mono ?_
                  rintro e w5 ⟨rfl, hat5, hk5⟩
                  have hc5 : w5.cell? ⟨bb, off + j, none⟩ = some (.int .i64 u) := by rw [hk5.cells bb _ (by have := HBEL2.out.size; omega) (by simp; omega)]; exact hc
                  have hb5 := keep2_below HBEL2.out hk5 (by omega) (by omega)
                  have HA5 := Lib.hid hat5
                  have HB5 := Lib.hid hb5
                  clear hc hat5 hk5 hb5
                  go_wp2
                  go_roundw
                  case rel => exact ⟨j + 1, _, by omega, by omega, by go_num, by rw [HY.out], HA5.out, hwl, ⟨u, hm0, Int.le_refl _, by have := HN.out; rw [sl_set HU.out rfl hm0] at this; exact this⟩, HB5.out⟩
                  case measure => simp [intOf]; omega
                · have HS := Lib.hid (show Al b (sl us n1 (j + 1) m) q t' by rw [← sl_same HU.out hum]; exact HAL2.out)
                  have hum' : (u == m) = false := by simp [hum]
                  clear hum
                  by_cases hc0 : u < 0
                  · have HY := Lib.hid (cntU_no (now := m) HU.out (by omega))
                    go_wp2
                    go_roundw
                    case rel => exact ⟨j + 1, t', by omega, by omega, by go_num, by rw [HY.out], hat, hwf, ⟨q, hq0, hq1, HS.out⟩, HBEL2.out⟩
                    case measure => simp [intOf]; omega
                  · by_cases hc1 : u ≤ m
                    · have HY := Lib.hid (cntU_yes (now := m) HU.out (by omega) hc1)
                      have hc0' : 0 ≤ u := by omega
                      clear hc0
                      go_wp2
                      go_roundw
                      case rel => exact ⟨j + 1, t', by omega, by omega, by go_num, by rw [HY.out], hat, hwf, ⟨q, hq0, hq1, HS.out⟩, HBEL2.out⟩
                      case measure => simp [intOf]; omega
                    · have HY := Lib.hid (cntU_no (now := m) HU.out (by omega))
                      have hc0' : 0 ≤ u := by omega
                      clear hc0
                      go_wp2
                      go_roundw
                      case rel => exact ⟨j + 1, t', by omega, by omega, by go_num, by rw [HY.out], hat, hwf, ⟨q, hq0, hq1, HS.out⟩, HBEL2.out⟩
                      case measure => simp [intOf]; omega
              · have hl2' : ¬ (j : Int) < (n2 : Int) := by omega
                have hge : us.length ≤ j := by have := HL2.out; omega
                have E := Lib.hid (cntU_min (now := m) (.inr hge) hj1)
                have HS := Lib.hid (show Al b (sl us n1 n1 m) q t' by rw [sl_next (.inl (Nat.le_refl _)), ← sl_next (p := j) (.inr hge)]; exact hal)
                have HBEL2 := Lib.hid hbel
                clear hal hbel hge
                go_wp2
                go_meet
                exact ⟨t', by rw [E.out], hat, hwf, ⟨q, hq0, hq1, HS.out⟩, HBEL2.out⟩
            · have hl1' : ¬ (j : Int) < (n1 : Int) := by omega
              have hge : j = n1 := by omega
              subst hge
              have HBEL2 := Lib.hid hbel
              have HAL2 := Lib.hid hal
              clear hal hbel
              go_wp2
              go_meet
              exact ⟨t', rfl, hat, hwf, ⟨q, hq0, hq1, HAL2.out⟩, HBEL2.out⟩
        case rest =>
          obtain ⟨t', rfl, hat, hwf, ⟨q, hq0, hq1, hal⟩, hbel⟩ := hcut
          have hokt : okT t' 0 m = true := okT_iff.2 ⟨hm0, by omega, by omega, by have := hal.len; rw [sl_len] at this; omega⟩
          have hal2 : Al b (sl us n1 n1 m) m (tickT t' m) := hal.tick hq1
          have hwf2 : Wf (tickT t' m) := hwf.tick (by omega)
          obtain ⟨hol, hoe⟩ := outsT_alone hal2
          have hosl : (outsT (tickT t' m) m).length ≤ 16 := by have := cntU_bd us m n1; split at hol <;> omega
          have HOL := Lib.hid hol
          have HOE := Lib.hid hoe
          have HAL2 := Lib.hid hal2
          have HBEL2 := Lib.hid hbel
          clear hal hal2 hol hoe hbel
          go_wp2_with fail
          refine (tick_ _ g gp cap t' m hat hwf hokt).mono ?_
          generalize tickT t' m = t2 at *
          generalize outsT t2 m = os at *
          rintro e w3 ⟨A, c, rfl, hr, hfr, hat3, hk3⟩
          have hb3 := keep2_below HBEL2.out hk3 (by omega) (by omega)
          have hroot : ∀ w', At w' g gp cap t2 → Calls Try.prog 12 #[.pointer (some ⟨g, 0, none⟩)] w' fun e w'' => e = .returned (.agg #[.int .u64 b, .int .i64 0, .int .u64 b, .int .i64 0]) ∧ Below w'.heap.size w' w'' := fun w' h => by
            have := root_ w' g gp cap t2 h
            rw [HAL2.out.best] at this
            exact this
          have ROOT := Lib.hid hroot
          have HB3 := Lib.hid hb3
          have HR := Lib.hid hr
          have HAT3 := Lib.hid hat3
          clear hroot hk3 hb3 hfr hat hokt hr hat3 HAT HAL
          go_upto_if 78 with fail
          go_cut [13] (fun s13 wx => s13 = .int .i64 os.length ∧ wx = w3)
          case first =>
            by_cases hev : m % 2 = 0
            · have E := HOL.out
              rw [if_pos hev] at E
              have E' := Lib.hid E
              clear E
              go_wp2_with fail
              go_meet
              exact ⟨by rw [E'.out], rfl⟩
            · have E := HOL.out
              rw [if_neg hev] at E
              have E' := Lib.hid E
              have hev' : (m % 2 == 0) = false := by simp [hev]
              clear E hev
              go_wp2_with fail
              go_meet
              exact ⟨by rw [E'.out], rfl⟩
          case rest =>
            obtain ⟨rfl, rfl⟩ := hcut
            go_wp2_with fail
            refine (ROOT.out _ HAT3.out).mono ?_
            rintro e w4 ⟨rfl, hb4⟩
            go_wp2_with fail
            refine (rown_ b _).mono ?_
            rintro e w5 ⟨rfl, hb5⟩
            have hr5 : Reads w5 w5.heap.size 9 A os.length (os.flatMap cellsOu) := ((HR.out.below hb4).below (hb5.mono hb4.size)).more (Nat.le_trans hb4.size hb5.size)
            have hat5 := (HAT3.out.below hb4).below hb5
            have hbb5 := (HB3.out.trans (hb4.mono HB3.out.size)).trans (hb5.mono (Nat.le_trans HB3.out.size hb4.size))
            have HR5 := Lib.hid hr5
            have HAT5 := Lib.hid hat5
            have HBB5 := Lib.hid hbb5
            clear hb4 hb5 hr5 hat5 hbb5 HAT3 HR ROOT HB3
            go_wp2_with fail
            go_loopw [14] (fun i wy => ∃ j : Nat, j ≤ os.length ∧ i = .int .i64 j ∧ Below w5.heap.size w5 wy) (fun i _ => os.length - (intOf i).toNat)
            case atStart => exact ⟨0, Nat.zero_le _, rfl, Below.refl _ _⟩
            case round =>
              obtain ⟨j, hj, rfl, hbel⟩ := hrel
              by_cases hjl : j < os.length
              · have hjl' : (j : Int) < (os.length : Int) := by omega
                obtain ⟨bl, off, o, rfl, hbl, ho, hcc⟩ := (HR5.out.below hbel).chunk cellsOu 9 (by omega) lenOu hjl
                obtain ⟨hage, hv⟩ := HOE.out o (List.mem_of_getElem? ho)
                have q0 : wr.cell? ⟨bl, off + j * 9, none⟩ = some (.int .i64 o.port) := hcc 0 _ rfl
                have q1 : wr.cell? ⟨bl, off + j * 9 + 1, none⟩ = some (.int .u64 b) := by have := hcc 1 (.int .u64 o.b.v.root) rfl; rw [hv] at this; exact this
                have q2 : wr.cell? ⟨bl, off + j * 9 + 1 + 1, none⟩ = some (.int .i64 0) := by have := hcc 2 (.int .i64 o.b.v.cost) rfl; rw [hv] at this; exact this
                have q3 : wr.cell? ⟨bl, off + j * 9 + 1 + 2, none⟩ = some (.int .u64 b) := by have := hcc 3 (.int .u64 o.b.v.bridge) rfl; rw [hv] at this; exact this
                have q4 : wr.cell? ⟨bl, off + j * 9 + 1 + 3, none⟩ = some (.int .i64 o.port) := by have := hcc 4 (.int .i64 o.b.v.port) rfl; rw [hv] at this; exact this
                have q5 : wr.cell? ⟨bl, off + j * 9 + 1 + 4, none⟩ = some (.int .i64 0) := by have := hcc 5 (.int .i64 o.b.age) rfl; rw [hage] at this; exact this
                have hszb := hbel.size
                have hblt : bl < wr.heap.size := by omega
                have HBEL3 := Lib.hid hbel
                have htells : ∀ w', Calls Try.prog 14 #[.int .u64 b, .agg #[.int .u64 b, .int .i64 0, .int .u64 b, .int .i64 0], .int .i64 o.port] w' fun e w'' => e = .returned (.agg #[.int .u64 b, .int .i64 0, .int .u64 b, .int .i64 o.port]) ∧ Below w'.heap.size w' w'' := fun w' => rtells_ b (own b) o.port w'
                have TELLS := Lib.hid htells
                clear hcc hage hv ho hbel htells
                go_wp2_with fail
                go_region_held3 (fun w' => w'.cell? ⟨bl, off + j * 9, none⟩ = some (.int .i64 o.port) ∧ w'.cell? ⟨bl, off + j * 9 + 1, none⟩ = some (.int .u64 b) ∧ w'.cell? ⟨bl, off + j * 9 + 1 + 1, none⟩ = some (.int .i64 0) ∧ w'.cell? ⟨bl, off + j * 9 + 1 + 2, none⟩ = some (.int .u64 b) ∧ w'.cell? ⟨bl, off + j * 9 + 1 + 3, none⟩ = some (.int .i64 o.port) ∧ w'.cell? ⟨bl, off + j * 9 + 1 + 4, none⟩ = some (.int .i64 0))
                  (first
                    | exact g7
                    | exact g6
                    | (exact ⟨q0, q1, q2, q3, q4, q5⟩))
                  (first
                    | (go_at_call 13; refine (rown_ b _).mono ?_; rintro e w6 ⟨rfl, hb6⟩; have g6 : w6.cell? ⟨bl, off + j * 9, none⟩ = some (.int .i64 o.port) ∧ w6.cell? ⟨bl, off + j * 9 + 1, none⟩ = some (.int .u64 b) ∧ w6.cell? ⟨bl, off + j * 9 + 1 + 1, none⟩ = some (.int .i64 0) ∧ w6.cell? ⟨bl, off + j * 9 + 1 + 2, none⟩ = some (.int .u64 b) ∧ w6.cell? ⟨bl, off + j * 9 + 1 + 3, none⟩ = some (.int .i64 o.port) ∧ w6.cell? ⟨bl, off + j * 9 + 1 + 4, none⟩ = some (.int .i64 0) := ⟨bkeep hb6 hblt q0, bkeep hb6 hblt q1, bkeep hb6 hblt q2, bkeep hb6 hblt q3, bkeep hb6 hblt q4, bkeep hb6 hblt q5⟩; have HB6 := Lib.hid hb6; have hblt6 : bl < w6.heap.size := Nat.lt_of_lt_of_le hblt hb6.size; clear hb6)
                    | (go_at_call 14; refine (TELLS.out _).mono ?_; rintro e w7 ⟨rfl, hb7⟩; have g7 : w7.cell? ⟨bl, off + j * 9, none⟩ = some (.int .i64 o.port) ∧ w7.cell? ⟨bl, off + j * 9 + 1, none⟩ = some (.int .u64 b) ∧ w7.cell? ⟨bl, off + j * 9 + 1 + 1, none⟩ = some (.int .i64 0) ∧ w7.cell? ⟨bl, off + j * 9 + 1 + 2, none⟩ = some (.int .u64 b) ∧ w7.cell? ⟨bl, off + j * 9 + 1 + 3, none⟩ = some (.int .i64 o.port) ∧ w7.cell? ⟨bl, off + j * 9 + 1 + 4, none⟩ = some (.int .i64 0) := ⟨bkeep hb7 hblt6 g6.1, bkeep hb7 hblt6 g6.2.1, bkeep hb7 hblt6 g6.2.2.1, bkeep hb7 hblt6 g6.2.2.2.1, bkeep hb7 hblt6 g6.2.2.2.2.1, bkeep hb7 hblt6 g6.2.2.2.2.2⟩; have HB7 := Lib.hid hb7; clear hb7))
                go_wp2
                go_roundw
                case rel => exact ⟨j + 1, by omega, by go_num, ((HBEL3.out.drew).trans (HB6.out.mono hszb)).trans (HB7.out.mono (Nat.le_trans hszb HB6.out.size))⟩
                case measure => simp [intOf]; omega
              · have hjn : ¬ (j : Int) < (os.length : Int) := by omega
                obtain ⟨w6, rfl⟩ : ∃ w6, w6 = wr := ⟨_, rfl⟩
                have hat6 := HAT5.out.below hbel
                have hbb6 := HBB5.out.trans (hbel.mono HBB5.out.size)
                have HBB6 := Lib.hid hbb6
                clear hbel hbb6 HAT5 HBB5 HR5
                go_wp2
                go_loopw [15] (fun i wy => ∃ (j : Nat) (nn : Nat), j ≤ n1 ∧ j ≤ n2 ∧ i = .int .i64 j ∧ wy = w6.drewN nn) (fun i _ => n1 - (intOf i).toNat)
                case atStart => exact ⟨0, 0, Nat.zero_le _, Nat.zero_le _, rfl, rfl⟩
                case round =>
                  obtain ⟨j, nn, hj1, hj2, rfl, rfl⟩ := hrel
                  have HNEXT := Lib.hid (show ∃ q, 0 ≤ q ∧ q ≤ m + 1 ∧ Al b (sl us n1 0 (m + 1)) q t2 from ⟨m, hm0, by omega, by rw [← sl_next (p := n1) (.inl (Nat.le_refl _))]; exact HAL2.out⟩)
                  by_cases hl1 : j < n1
                  · have hl1' : (j : Int) < (n1 : Int) := by omega
                    by_cases hl2 : j < n2
                    · have hl2' : (j : Int) < (n2 : Int) := by omega
                      obtain ⟨bb, off, rfl, hbb, hcc⟩ := (HR2.out.below HBB6.out).flat (by omega) (by simp; have := HL2.out; omega)
                      obtain ⟨u, hu⟩ : ∃ u, us[j]? = some u := ⟨_, List.getElem?_eq_getElem (by have := HL2.out; omega)⟩
                      obtain ⟨p, hp⟩ : ∃ p, t2.ps[j]? = some p := ⟨_, List.getElem?_eq_getElem (by have := HAL2.out.len; rw [sl_len] at this; omega)⟩
                      have hc : w6.cell? ⟨bb, off + j, none⟩ = some (.int .i64 u) := hcc j _ (by rw [List.getElem?_map, hu]; rfl)
                      obtain ⟨hf, hl⟩ := al_port HAL2.out hp hu
                      have hfwd : ∀ w' : World, At w' g gp cap t2 → Calls Try.prog 15 #[.pointer (some ⟨g, 0, none⟩), .int .i64 j] w' fun e w'' => e = .returned (.bool (decide (0 ≤ u ∧ u ≤ m) && decide (30 ≤ m - u))) ∧ w' = w'' := fun w' h => by
                        have := fwd_in w' g gp cap t2 j p h hwf2.l1 hp
                        rw [hf] at this
                        exact this
                      have hlrn : ∀ w' : World, At w' g gp cap t2 → Calls Try.prog 16 #[.pointer (some ⟨g, 0, none⟩), .int .i64 j] w' fun e w'' => e = .returned (.bool (decide (0 ≤ u ∧ u ≤ m) && decide (15 ≤ m - u))) ∧ ∃ n, w'' = w'.drewN n := fun w' h => by
                        have := learns_in w' g gp cap t2 j p h hwf2 hp
                        rw [hl] at this
                        exact this
                      have HF := Lib.hid hfwd
                      have HLR := Lib.hid hlrn
                      clear hfwd hlrn hf hl hcc hu hp
                      by_cases hc0 : u < 0
                      · have EB : ∀ x : Bool, (decide (0 ≤ u ∧ u ≤ m) && x) = false := fun x => by
                          rw [show decide (0 ≤ u ∧ u ≤ m) = false from decide_eq_false (by omega)]; rfl
                        have EB' := Lib.hid EB
                        clear EB
                        go_wp2_with fail
                        refine (HF.out _ (hat6.drewN nn)).mono ?_
                        rw [EB'.out]
                        rintro e w8 ⟨rfl, rfl⟩
                        go_wp2_with fail
                        refine (HLR.out _ (hat6.drewN nn)).mono ?_
                        rw [EB'.out]
                        rintro e w8 ⟨rfl, n8, rfl⟩
                        go_wp2
                        go_roundw
                        case rel => exact ⟨j + 1, _, by omega, by omega, by go_num, rfl⟩
                        case measure => simp [intOf]; omega
                      · have hc0' : 0 ≤ u := by omega
                        clear hc0
                        by_cases hc1 : u ≤ m
                        · have E1 : (decide (0 ≤ u ∧ u ≤ m) && decide (30 ≤ m - u)) = decide (30 ≤ m - u) := by
                            rw [show decide (0 ≤ u ∧ u ≤ m) = true from decide_eq_true ⟨hc0', hc1⟩]; rfl
                          have E2 : (decide (0 ≤ u ∧ u ≤ m) && decide (15 ≤ m - u)) = decide (15 ≤ m - u) := by
                            rw [show decide (0 ≤ u ∧ u ≤ m) = true from decide_eq_true ⟨hc0', hc1⟩]; rfl
                          have E1' := Lib.hid E1
                          have E2' := Lib.hid E2
                          have hx : IntKind.i64.wrap (m - u) = m - u := IntWalk.i64_in _ (by omega)
                          clear E1 E2
                          go_wp2_with fail
                          refine (HF.out _ (hat6.drewN nn)).mono ?_
                          rw [E1'.out]
                          rintro e w8 ⟨rfl, rfl⟩
                          go_wp2_with fail
                          refine (HLR.out _ (hat6.drewN nn)).mono ?_
                          rw [E2'.out]
                          rintro e w8 ⟨rfl, n8, rfl⟩
                          go_wp2
                          go_roundw
                          case rel => exact ⟨j + 1, _, by omega, by omega, by go_num, rfl⟩
                          case measure => simp [intOf]; omega
                        · have EB : ∀ x : Bool, (decide (0 ≤ u ∧ u ≤ m) && x) = false := fun x => by
                            rw [show decide (0 ≤ u ∧ u ≤ m) = false from decide_eq_false (by omega)]; rfl
                          have EB' := Lib.hid EB
                          clear EB
                          go_wp2_with fail
                          refine (HF.out _ (hat6.drewN nn)).mono ?_
                          rw [EB'.out]
                          rintro e w8 ⟨rfl, rfl⟩
                          go_wp2_with fail
                          refine (HLR.out _ (hat6.drewN nn)).mono ?_
                          rw [EB'.out]
                          rintro e w8 ⟨rfl, n8, rfl⟩
                          go_wp2
                          go_roundw
                          case rel => exact ⟨j + 1, _, by omega, by omega, by go_num, rfl⟩
                          case measure => simp [intOf]; omega
                    · have hl2' : ¬ (j : Int) < (n2 : Int) := by omega
                      go_wp2
                      go_roundw
                      case rel => exact ⟨m + 1, t2, by omega, by omega, by go_num, hat6.drewN nn, hwf2, HNEXT.out, below_drewN HBB6.out nn⟩
                      case measure => simp [intOf]; omega
                  · have hl1' : ¬ (j : Int) < (n1 : Int) := by omega
                    go_wp2
                    go_roundw
                    case rel => exact ⟨m + 1, t2, by omega, by omega, by go_num, hat6.drewN nn, hwf2, HNEXT.out, below_drewN HBB6.out nn⟩
                    case measure => simp [intOf]; omega
      · go_wp2_with fail
        refine (live_ _).mono ?_
        rintro e w2 ⟨rfl, hb2⟩
        go_wp2_with fail
        go_ret
        exact ⟨rfl, hbel.trans (hb2.mono hbel.size)⟩
end Rstp
end Go.Proofs.Ytlfoaefilonidaa
