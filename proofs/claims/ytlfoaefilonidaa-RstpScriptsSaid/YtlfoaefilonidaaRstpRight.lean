/-
  The walk of the document's 'right' (siphonref15): the part is set right.
-/
import Derived.Test.YtlfoaefilonidaaRstpRef
import Derived.StillTailTactics
namespace Go.Proofs.Ytlfoaefilonidaa
set_option linter.unusedVariables false
set_option linter.unusedSimpArgs false
open Go.RowKit
namespace Rstp
open Go.Proofs.Ytlfoaefilonidaa.Prio
theorem infoRH : (Try.prog.info? 89).map (fun i => (i.zero, i.size, i.bytes)) = some (some (.agg #[.bool false, .int .u64 0, .int .i64 0, .int .u64 0, .int .i64 0, .int .i64 0]), 6, 48) := by kernel_rfl
theorem cellsQ_at {w : World} {g gp cap : Nat} {t : Tr} (h : RAt w g gp cap t) {k : Nat} {p : Pt} (hp : t.ps[k]? = some p) :
    w.cell? ⟨gp, k * 12, none⟩ = some (.int .i64 p.cost) ∧ w.cell? ⟨gp, k * 12 + 1, none⟩ = some (.bool p.up) ∧ w.cell? ⟨gp, k * 12 + 2, none⟩ = some (.bool p.keeps) ∧ w.cell? ⟨gp, k * 12 + 3, none⟩ = some (.int .u64 p.v.root) ∧ w.cell? ⟨gp, k * 12 + 4, none⟩ = some (.int .i64 p.v.cost) ∧ w.cell? ⟨gp, k * 12 + 5, none⟩ = some (.int .u64 p.v.bridge) ∧ w.cell? ⟨gp, k * 12 + 6, none⟩ = some (.int .i64 p.v.port) ∧
    w.cell? ⟨gp, k * 12 + 7, none⟩ = some (.int .i64 p.age) ∧ w.cell? ⟨gp, k * 12 + 8, none⟩ = some (.int .i64 p.at_) ∧ w.cell? ⟨gp, k * 12 + 9, none⟩ = some (.int .i64 p.role) ∧ w.cell? ⟨gp, k * 12 + 10, none⟩ = some (.int .i64 p.since) ∧ w.cell? ⟨gp, k * 12 + 11, none⟩ = some (.bool p.fwd) :=
  ⟨h.port (j := 0) hp rfl, h.port hp rfl, h.port hp rfl, h.port hp rfl, h.port hp rfl, h.port hp rfl, h.port hp rfl, h.port hp rfl, h.port hp rfl, h.port hp rfl, h.port hp rfl, h.port hp rfl⟩
def since1 (now : Int) (b : Bool) (p : Pt) : Int := if b = true then now else p.since
theorem since1_is {now r : Int} {p : Pt} {ac b : Bool} (h : -1 ≤ p.since) (ha : activeR (roleP r p) = ac) (hb : b = (ac && decide (p.since < 0))) : sinceP now r p = if ac = true then since1 now b p else -1 := by
  unfold sinceP since1
  rw [ha]
  cases ac
  · simp
  · rw [hb]
    by_cases h1 : p.since = -1
    · simp [h1]
    · have h2 : ¬ p.since < 0 := by omega
      simp [h1, h2]
set_option maxRecDepth 100000 in
set_option maxHeartbeats 8000000 in
theorem right_ (w : World) (g gp cap : Nat) (t : Tr) (h : RAt w g gp cap t) (hw : Wf t) :
    Calls Try.prog 40 #[.pointer (some ⟨g, 0, none⟩)] w (Gone (.tuple #[]) g gp cap (settleT t) w) := by
  obtain ⟨i0, hi, hz0, hz1, hz2⟩ := info_parts infoRH
  have hl := hw.l1
  have hlen := dropped_length t
  go_enter Try.func40, Try.ntmps40
  go_wp2_with fail
  refine (rdrop_ _ g gp cap t h hw).mono ?_
  rintro e w1 ⟨rfl, h1, hk1⟩
  have hgl := h1.lt
  have HK1 := Lib.hid hk1
  have H1 := Lib.hid h1
  clear hk1 h1 h
  go_wp2
  go_loopw [2, 3] (fun v i wr => ∃ k : Nat, k ≤ t.ps.length ∧ i = .int .i64 k ∧ wr.ownsRow w1.heap.size 89 6 v k (((heardT t).take k).flatMap cellsH) ∧ Below w1.heap.size w1 wr) (fun _ i _ => t.ps.length - (intOf i).toNat)
  case atStart => exact ⟨0, Nat.zero_le _, rfl, ⟨by simp, .inl ⟨rfl, rfl⟩⟩, Below.refl _ _⟩
  case round =>
    obtain ⟨k, hk, rfl, hown, hbel⟩ := hrel
    have hatr : RAt wr g gp cap (dropT t) := H1.out.below hbel
    obtain ⟨c0, c1, c2, c3, c4⟩ := hatr.tree
    simp only [dropT, dropped_length] at c0 c1 c2 c3 c4
    by_cases hlt : k < t.ps.length
    · have hlt' : (k : Int) < (t.ps.length : Int) := by omega
      obtain ⟨p, hp⟩ : ∃ p, (dropped t)[k]? = some p := ⟨_, List.getElem?_eq_getElem (by omega)⟩
      obtain ⟨e0, e1, e2, e3, e4, e5, e6, e7, e8, e9, e10, e11⟩ := cellsQ_at hatr hp
      have HT := Lib.hid (cellsH_take (heardT t) k (heardP p) (heardT_at hp))
      have q3 : k + 1 ≤ maxLen := by unfold maxLen; omega
      have q4 : (k + 1) * 48 ≤ 140737488355328 := by omega
      have hsz := hbel.size
      clear hatr hp
      --STUB
      by_cases hu : p.up = true
      · have EH := Lib.hid (show cellsH (heardP p) = [.bool p.keeps, .int .u64 p.v.root, .int .i64 p.v.cost, .int .u64 p.v.bridge, .int .i64 p.v.port, .int .i64 p.cost] by simp [cellsH, heardP, hu])
        go_wp2_with (at_builtin; refine wpList_append_own _ rfl (.tmp 28) (.tmp 40) 88 rfl w1.heap.size 89 i0 _ 6 48 Try.underlying88 hi hz0 hz1 hz2 rfl (by omega) _ k _ rfl ((hown.alloc _).alloc _) ⟨wr.heap.size + 1, 0, none⟩ 1 1 [.bool p.keeps, .int .u64 p.v.root, .int .i64 p.v.cost, .int .u64 p.v.bridge, .int .i64 p.v.port, .int .i64 p.cost] rfl rfl (new_cells' _ [.bool p.keeps, .int .u64 p.v.root, .int .i64 p.v.cost, .int .u64 p.v.bridge, .int .i64 p.v.port, .int .i64 p.cost] 89 _ (by simp)) (by rw [← EH.out]; exact cellsH_one _) q3 q4 (by simp; omega) ?_; intro v' w9 hown' hgrow _)
        go_roundw
        case rel => exact ⟨k + 1, by omega, by go_num, by rw [HT.out, EH.out]; exact hown', ((hbel.alloc (by omega) _).alloc (by simp; omega) _).grown hgrow (by simp; omega) (fun q hq => own_from hown q hq)⟩
        case measure => simp [intOf]; omega
      · have hu' : p.up = false := by simpa using hu
        have EH := Lib.hid (show cellsH (heardP p) = [.bool false, .int .u64 p.v.root, .int .i64 p.v.cost, .int .u64 p.v.bridge, .int .i64 p.v.port, .int .i64 p.cost] by simp [cellsH, heardP, hu'])
        go_wp2_with (at_builtin; refine wpList_append_own _ rfl (.tmp 28) (.tmp 40) 88 rfl w1.heap.size 89 i0 _ 6 48 Try.underlying88 hi hz0 hz1 hz2 rfl (by omega) _ k _ rfl ((hown.alloc _).alloc _) ⟨wr.heap.size + 1, 0, none⟩ 1 1 [.bool false, .int .u64 p.v.root, .int .i64 p.v.cost, .int .u64 p.v.bridge, .int .i64 p.v.port, .int .i64 p.cost] rfl rfl (new_cells' _ [.bool false, .int .u64 p.v.root, .int .i64 p.v.cost, .int .u64 p.v.bridge, .int .i64 p.v.port, .int .i64 p.cost] 89 _ (by simp)) (by rw [← EH.out]; exact cellsH_one _) q3 q4 (by simp; omega) ?_; intro v' w9 hown' hgrow _)
        go_roundw
        case rel => exact ⟨k + 1, by omega, by go_num, by rw [HT.out, EH.out]; exact hown', ((hbel.alloc (by omega) _).alloc (by simp; omega) _).grown hgrow (by simp; omega) (fun q hq => own_from hown q hq)⟩
        case measure => simp [intOf]; omega
      --END
    · have hke : k = t.ps.length := by omega
      have htk : (heardT t).take k = heardT t := List.take_of_length_le (by rw [heardT_length]; omega)
      rw [htk] at hown
      have hge : ¬ (k : Int) < (t.ps.length : Int) := by omega
      have HKE := Lib.hid hke
      clear hke htk hi hz0 hz1 hz2
      have HBEL := Lib.hid hbel
      have hsz := hbel.size
      have HAT := Lib.hid hatr
      obtain ⟨A', c', rfl, hrr⟩ := own_form hown
      have HOWN := Lib.hid hown
      clear hatr hown hbel
      go_wp2_with fail
      refine (rbest_ t.bridge A' k c' (heardT t) _ (by omega) hrr).mono ?_
      rw [show bestOf t.bridge (heardT t) = stT t from rfl]
      rintro e w2 ⟨rfl, hb2⟩
      have hat2 := HAT.out.below hb2
      have hown2 := own_below HOWN.out hb2
      have hbel2 := HBEL.out.trans (hb2.mono hsz)
      have hz2 := hb2.size
      obtain ⟨d0', d1', d2', d3', d8'⟩ := hat2.tree
      have f3 := hat2.treeF 3
      have f4 := hat2.treeF 4
      have f5 := hat2.treeF (4 + 1)
      have f6 := hat2.treeF (4 + 2)
      have f7 := hat2.treeF (4 + 3)
      obtain ⟨d4', d5', d6', d7'⟩ := hat2.best
      have d5'' : w2.cell? ⟨g, 4 + 1, none⟩ = some (.int .i64 t.best.cost) := d5'
      have d6'' : w2.cell? ⟨g, 4 + 2, none⟩ = some (.int .u64 t.best.bridge) := d6'
      have d7'' : w2.cell? ⟨g, 4 + 3, none⟩ = some (.int .i64 t.best.port) := d7'
      have HAT2 := Lib.hid hat2
      clear hb2 hrr HOWN HAT hat2 c0 c1 c2 c3 c4
      generalize hst : stT t = st at *
      have HST := Lib.hid hst
      clear hst
      go_wp2_with fail
      have hat3 : RAt _ g gp cap { dropT t with root := st.1, best := st.2 } := (HAT2.out.put_root st.1).put_best st.2
      have hown3 := ownsRow_setCell_below (ownsRow_setCell_below (ownsRow_setCell_below (ownsRow_setCell_below (ownsRow_setCell_below hown2 (a := ⟨g, 3, none⟩) hgl.1 (.int .i64 st.1)) (a := ⟨g, 4, none⟩) hgl.1 (.int .u64 st.2.root)) (a := ⟨g, 4 + 1, none⟩) hgl.1 (.int .i64 st.2.cost)) (a := ⟨g, 4 + 2, none⟩) hgl.1 (.int .u64 st.2.bridge)) (a := ⟨g, 4 + 3, none⟩) hgl.1 (.int .i64 st.2.port)
      obtain ⟨A3, c3, hv3, hrr3⟩ := own_form hown3
      obtain ⟨rfl, rfl⟩ : A' = A3 ∧ c' = c3 := by injection hv3 with e1 e2 e3; exact ⟨e1, e3⟩
      have hk3 : Keep [g, gp] w ((((((w2.setCell ⟨g, 3, none⟩ (.int .i64 st.1)).setCell ⟨g, 4, none⟩ (.int .u64 st.2.root)).setCell ⟨g, 4 + 1, none⟩ (.int .i64 st.2.cost)).setCell ⟨g, 4 + 2, none⟩ (.int .u64 st.2.bridge)).setCell ⟨g, 4 + 3, none⟩ (.int .i64 st.2.port))) :=
        ((((((HK1.out.trans (Keep.of_below hbel2 _)).set_ (.inl (by simp)) _).set_ (.inl (by simp)) _).set_ (.inl (by simp)) _).set_ (.inl (by simp)) _).set_ (.inl (by simp)) _)
      have hsz3 : ((((((w2.setCell ⟨g, 3, none⟩ (.int .i64 st.1)).setCell ⟨g, 4, none⟩ (.int .u64 st.2.root)).setCell ⟨g, 4 + 1, none⟩ (.int .i64 st.2.cost)).setCell ⟨g, 4 + 2, none⟩ (.int .u64 st.2.bridge)).setCell ⟨g, 4 + 3, none⟩ (.int .i64 st.2.port))).heap.size = w2.heap.size := by simp [World.setCell]
      refine (rroles_lo t.bridge A' k c' (heardT t) _ (by omega) hrr3).mono ?_
      clear d0' d1' d2' d3' d4' d5' d6' d7' d8' d5'' d6'' d7'' f3 f4 f5 f6 f7 hown2 hown3 hv3 hrr3
      generalize (((((w2.setCell ⟨g, 3, none⟩ (.int .i64 st.1)).setCell ⟨g, 4, none⟩ (.int .u64 st.2.root)).setCell ⟨g, 4 + 1, none⟩ (.int .i64 st.2.cost)).setCell ⟨g, 4 + 2, none⟩ (.int .u64 st.2.bridge)).setCell ⟨g, 4 + 3, none⟩ (.int .i64 st.2.port)) = w3 at *
      rintro e w4 ⟨⟨A4, c4, rfl, hr4, hlo4⟩, hb4⟩
      rw [show rolesOf t.bridge (heardT t) = rolesT t from rfl] at hr4
      have hat4 := hat3.below hb4
      have hk4 := hk3.trans (Keep.of_below hb4 _)
      have HAT4 := Lib.hid hat4
      have HK4 := Lib.hid hk4
      have hgl3 := hat3.lt
      have hrl := rolesT_length t
      have hz4 := hb4.size
      have HAT3 := Lib.hid hat3
      clear hat3 hk3 HAT2 hb4 hat4 hk4 hsz3 hz2 hsz HBEL hbel2 HK1 H1
      generalize hrs : rolesT t = rs at *
      have HRS := Lib.hid hrs
      have HRL := Lib.hid hrl
      clear hrs hrl
      go_wp2_with fail
      go_loopw [6] (fun i wr => ∃ j : Nat, j ≤ k ∧ i = .int .i64 j ∧ RAt wr g gp cap { dropT t with root := st.1, best := st.2, ps := mapTo (portF t.now rs) (dropped t) j, change := chTo t.now t.change rs (dropped t) j } ∧ Keep [g, gp] w4 wr) (fun i _ => k - (intOf i).toNat)
      case atStart => exact ⟨0, Nat.zero_le _, rfl, by rw [mapTo_zero]; exact HAT4.out, Keep.refl _ _⟩
      case round =>
        obtain ⟨j, hj, rfl, hat, hkp⟩ := hrel
        have hsl := hkp.size
        obtain ⟨c0, c1, c2, c3, c4⟩ := hat.tree
        have hkl : t.ps.length = k := HKE.out.symm
        simp only [mapTo_length, hlen, dropT] at c0 c1 c2 c3 c4
        rw [hkl] at c1
        have HKL := Lib.hid hkl
        clear hkl
        by_cases hjl : j < k
        · have hjl' : (j : Int) < (k : Int) := by omega
          obtain ⟨p, hp⟩ : ∃ p, (dropped t)[j]? = some p := ⟨_, List.getElem?_eq_getElem (by have := HKE.out; omega)⟩
          obtain ⟨r, hr⟩ : ∃ r, rs[j]? = some r := ⟨_, List.getElem?_eq_getElem (by have := HKE.out; have := HRL.out; omega)⟩
          have hrd : rs.getD j 0 = r := by simp [hr]
          obtain ⟨b4, off4, rfl, hb4, hc4⟩ := hr4.flat (by omega) (by simp only [List.length_map]; have := HKE.out; have := HRL.out; omega)
          have hlo : w3.heap.size ≤ b4 := hlo4 _ rfl
          have hrc : wr.cell? ⟨b4, off4 + j, none⟩ = some (.int .i64 r) := by
            rw [hkp.cells b4 _ hb4 (by simp; omega)]
            exact hc4 j _ (by rw [List.getElem?_map, hr]; rfl)
          have hq := mapTo_get (f := portF t.now rs) hp
          have e1 : wr.cell? ⟨gp, j * 12 + 9, none⟩ = some (.int .i64 p.role) := hat.port hq rfl
          have e3 : wr.cell? ⟨gp, j * 12 + 1, none⟩ = some (.bool p.up) := hat.port hq rfl
          have f1 := hat.portF (j * 12 + 9)
          have HAT := Lib.hid hat
          have HKP := Lib.hid hkp
          have HQ := Lib.hid hq
          have HP := Lib.hid hp
          have HRD := Lib.hid hrd
          clear hc4 hr hat hkp hq hp hrd
          have hr1 : ∀ u, RAt (wr.setCell ⟨gp, j * 12 + 9, none⟩ (.int .i64 u)) g gp cap { dropT t with root := st.1, best := st.2, ps := (mapTo (portF t.now rs) (dropped t) j).set j { p with role := u }, change := chTo t.now t.change rs (dropped t) j } := fun u => HAT.out.put HQ.out { p with role := u } 9 _ (by omega) rfl
          have HR1 := Lib.hid hr1
          clear hr1
          go_upto_if 89 with fail
          go_cut [] (fun wx => RAt wx g gp cap { dropT t with root := st.1, best := st.2, ps := (mapTo (portF t.now rs) (dropped t) j).set j { p with role := roleP r p }, change := chTo t.now t.change rs (dropped t) j } ∧ Keep [g, gp] w4 wx)
          case first =>
            by_cases hu : p.up = true
            · have E := Lib.hid (show roleP r p = r by simp [roleP, hu])
              have hu2 : ¬ (!p.up) = true := by rw [hu]; simp
              clear hu
              go_wp2_with fail
              go_meet
              rw [E.out]
              exact ⟨HR1.out r, HKP.out.set_ (.inl (by simp)) _⟩
            · have hu' : p.up = false := by simpa using hu
              have E := Lib.hid (show roleP r p = 0 by simp [roleP, hu'])
              have HU := Lib.hid hu'
              clear hu hu'
              go_wp2_with fail
              rotate_left
              · exact absurd ‹(!p.up) = false› (by rw [HU.out]; simp)
              go_meet
              rw [E.out]
              exact ⟨(HR1.out r).again rfl HQ.out { p with role := 0 } 9 (.int .i64 0) (by omega) rfl, (HKP.out.set_ (.inl (by simp)) _).set_ (.inl (by simp)) _⟩
          case rest =>
            obtain ⟨hat5, hkp5⟩ := hcut
            clear c0 c1 c2 c3 c4 e1 e3 f1 HR1 hrc HAT
            have c2 : wc.cell? ⟨g, 2, none⟩ = some (.int .i64 t.now) := hat5.tree.2.2.1
            have e1 : wc.cell? ⟨gp, j * 12 + 9, none⟩ = some (.int .i64 (roleP r p)) := hat5.port_set rfl HQ.out rfl
            have e2 : wc.cell? ⟨gp, j * 12 + 10, none⟩ = some (.int .i64 p.since) := hat5.port_set rfl HQ.out rfl
            have e5 : wc.cell? ⟨gp, j * 12 + 11, none⟩ = some (.bool p.fwd) := hat5.port_set rfl HQ.out rfl
            have f2 := hat5.portF (j * 12 + 10)
            have HAT5 := Lib.hid hat5
            have HKP5 := Lib.hid hkp5
            clear hat5 hkp5
            go_upto_region 16 with fail
            go_cut [8] (fun s8 wx => s8 = .bool (activeR (roleP r p)) ∧ wx = wc)
            case first =>
              by_cases hr1 : roleP r p = 1
              · have E := Lib.hid (show activeR (roleP r p) = true by simp [activeR, hr1])
                have hr1' : (roleP r p == 1) = true := by simp [hr1]
                clear hr1
                go_wp2_with fail
                go_meet
                exact ⟨by rw [E.out], rfl⟩
              · have hr1' : (roleP r p == 1) = false := by simp [hr1]
                have E := Lib.hid (show activeR (roleP r p) = (roleP r p == 2) by simp [activeR, hr1'])
                clear hr1
                go_wp2_with fail
                go_meet
                exact ⟨by rw [E.out], rfl⟩
            case rest =>
              obtain ⟨rfl, rfl⟩ := hcut
              obtain ⟨hs0, hs0'⟩ : -1 ≤ p.since ∧ p.since ≤ t.now := by
                have hm : p ∈ dropped t := List.mem_of_getElem? HP.out
                simp only [dropped, List.mem_map] at hm
                obtain ⟨q, hq, rfl⟩ := hm
                have := (hw.p q hq).drop t.now
                exact ⟨this.s0, this.s1⟩
              have hs : ∀ u, RAt (wc.setCell ⟨gp, j * 12 + 10, none⟩ (.int .i64 u)) g gp cap { dropT t with root := st.1, best := st.2, ps := (mapTo (portF t.now rs) (dropped t) j).set j { p with role := roleP r p, since := u }, change := chTo t.now t.change rs (dropped t) j } := fun u => HAT5.out.again rfl HQ.out { p with role := roleP r p, since := u } 10 (.int .i64 u) (by omega) rfl
              have HS := Lib.hid hs
              clear hs
              generalize hac : activeR (roleP r p) = ac at *
              have HAC := Lib.hid hac
              clear hac
              go_upto_region 17 with fail
              go_cut [112] (fun s112 wx => ∃ b : Bool, s112 = .bool b ∧ Hid (b = (ac && decide (p.since < 0))) ∧ wx = wc)
              case first =>
                cases ac
                · go_wp2_with fail
                  go_meet
                  exact ⟨false, rfl, Lib.hid rfl, rfl⟩
                · go_wp2_with fail
                  go_meet
                  exact ⟨_, rfl, Lib.hid rfl, rfl⟩
              case rest =>
              obtain ⟨b, rfl, HB, rfl⟩ := hcut
              go_upto_if 112 with fail
              go_cut [] (fun wx => RAt wx g gp cap { dropT t with root := st.1, best := st.2, ps := (mapTo (portF t.now rs) (dropped t) j).set j { p with role := roleP r p, since := since1 t.now b p }, change := chTo t.now t.change rs (dropped t) j } ∧ Keep [g, gp] w4 wx)
              case first =>
                cases b
                · go_wp2_with fail
                  go_meet
                  exact ⟨HAT5.out, HKP5.out⟩
                · go_wp2_with fail
                  go_meet
                  exact ⟨HS.out _, HKP5.out.set_ (.inl (by simp)) _⟩
              case rest =>
              obtain ⟨hat6, hkp6⟩ := hcut
              clear c2 e1 e2 e5 f2 HS HAT5 HKP5
              have e2 : wc.cell? ⟨gp, j * 12 + 10, none⟩ = some (.int .i64 (since1 t.now b p)) := hat6.port_set rfl HQ.out rfl
              have f2 := hat6.portF (j * 12 + 10)
              have hs : ∀ u, RAt (wc.setCell ⟨gp, j * 12 + 10, none⟩ (.int .i64 u)) g gp cap { dropT t with root := st.1, best := st.2, ps := (mapTo (portF t.now rs) (dropped t) j).set j { p with role := roleP r p, since := u }, change := chTo t.now t.change rs (dropped t) j } := fun u => hat6.again rfl HQ.out { p with role := roleP r p, since := u } 10 (.int .i64 u) (by omega) rfl
              have HS := Lib.hid hs
              have HAT6 := Lib.hid hat6
              have HKP6 := Lib.hid hkp6
              clear hs hat6 hkp6
              go_upto_if 121 with fail
              go_cut [] (fun wx => RAt wx g gp cap { dropT t with root := st.1, best := st.2, ps := (mapTo (portF t.now rs) (dropped t) j).set j { p with role := roleP r p, since := sinceP t.now r p }, change := chTo t.now t.change rs (dropped t) j } ∧ Keep [g, gp] w4 wx)
              case first =>
                have E := Lib.hid (since1_is (now := t.now) (r := r) hs0 HAC.out HB.out)
                cases ac
                · go_wp2_with fail
                  go_meet
                  rw [E.out]
                  exact ⟨HS.out _, HKP6.out.set_ (.inl (by simp)) _⟩
                · go_wp2_with fail
                  go_meet
                  rw [E.out]
                  exact ⟨HAT6.out, HKP6.out⟩
              case rest =>
                obtain ⟨hat6, hkp6⟩ := hcut
                clear e2 f2 HAT6 HKP6 HS hs0 hs0'
                have c2 : wc.cell? ⟨g, 2, none⟩ = some (.int .i64 t.now) := hat6.tree.2.2.1
                have e2 : wc.cell? ⟨gp, j * 12 + 10, none⟩ = some (.int .i64 (sinceP t.now r p)) := hat6.port_set rfl HQ.out rfl
                have e5 : wc.cell? ⟨gp, j * 12 + 11, none⟩ = some (.bool p.fwd) := hat6.port_set rfl HQ.out rfl
                have f5 := hat6.portF (j * 12 + 11)
                have hs : ∀ u, RAt (wc.setCell ⟨gp, j * 12 + 11, none⟩ (.bool u)) g gp cap { dropT t with root := st.1, best := st.2, ps := (mapTo (portF t.now rs) (dropped t) j).set j { p with role := roleP r p, since := sinceP t.now r p, fwd := u }, change := chTo t.now t.change rs (dropped t) j } := fun u => hat6.again rfl HQ.out { p with role := roleP r p, since := sinceP t.now r p, fwd := u } 11 (.bool u) (by omega) rfl
                have HS := Lib.hid hs
                have HKP6 := Lib.hid hkp6
                have hgne := hat6.ne
                have hbd : -1 ≤ sinceP t.now r p ∧ sinceP t.now r p ≤ t.now := by
                  have hm : p ∈ dropped t := List.mem_of_getElem? HP.out
                  simp only [dropped, List.mem_map] at hm
                  obtain ⟨q, hq, rfl⟩ := hm
                  have := ((hw.p q hq).drop t.now).step hw.n0 r
                  exact ⟨this.s0, this.s1⟩
                obtain ⟨hb0, hb1⟩ := hbd
                have hn0 := hw.n0
                have hn1 := hw.n1
                have hx : IntKind.i64.wrap (sinceP t.now r p + 30) = sinceP t.now r p + 30 := IntWalk.i64_in _ (by omega)
                clear hs hat6 hkp6
                go_upto_region 22 with fail
                go_cut [] (fun wx => RAt wx g gp cap { dropT t with root := st.1, best := st.2, ps := (mapTo (portF t.now rs) (dropped t) j).set j (stepP t.now r p), change := chTo t.now t.change rs (dropped t) j } ∧ Keep [g, gp] w4 wx)
                case first =>
                  have hact := HAC.out
                  have HACT := Lib.hid hact
                  clear hact
                  cases ac
                  · have E := Lib.hid (show stepP t.now r p = { p with role := roleP r p, since := sinceP t.now r p, fwd := false } by simp [stepP, fwdP, HACT.out])
                    refine region_tail 16 (by kernel_rfl) (by kernel_rfl) ?_
                    simp only [List.take_succ_cons, List.take_zero, List.drop_succ_cons, List.drop_zero]
                    refine SW.un ?_
                    (refine SW.want (by kernel_rfl) (fun K hK => ?_); have HK := Lib.hid hK; clear hK; go_simp; refine SW.on HK ?_; clear HK K)
                    (refine SW.want (by kernel_rfl) (fun K hK => ?_); have HK := Lib.hid hK; clear hK; go_simp; refine SW.on HK ?_; clear HK K)
                    (refine SW.want (by kernel_rfl) (fun K hK => ?_); have HK := Lib.hid hK; clear hK; go_simp; refine SW.on HK ?_; clear HK K)
                    (refine SW.skip (by kernel_rfl) (fun K hK => ?_); have HK := Lib.hid hK; clear hK; go_simp; refine SW.on HK ?_; clear HK K)
                    (refine SW.skip (by kernel_rfl) (fun K hK => ?_); have HK := Lib.hid hK; clear hK; go_simp; refine SW.on HK ?_; clear HK K)
                    (refine SW.skip (by kernel_rfl) (fun K hK => ?_); have HK := Lib.hid hK; clear hK; go_simp; refine SW.on HK ?_; clear HK K)
                    (refine SW.skip (by kernel_rfl) (fun K hK => ?_); have HK := Lib.hid hK; clear hK; go_simp; refine SW.on HK ?_; clear HK K)
                    (refine SW.skip (by kernel_rfl) (fun K hK => ?_); have HK := Lib.hid hK; clear hK; go_simp; refine SW.on HK ?_; clear HK K)
                    (refine SW.skip (by kernel_rfl) (fun K hK => ?_); have HK := Lib.hid hK; clear hK; go_simp; refine SW.on HK ?_; clear HK K)
                    (refine SW.skip (by kernel_rfl) (fun K hK => ?_); have HK := Lib.hid hK; clear hK; go_simp; refine SW.on HK ?_; clear HK K)
                    (refine SW.skip (by kernel_rfl) (fun K hK => ?_); have HK := Lib.hid hK; clear hK; go_simp; refine SW.on HK ?_; clear HK K)
                    (refine SW.skip (by kernel_rfl) (fun K hK => ?_); have HK := Lib.hid hK; clear hK; go_simp; refine SW.on HK ?_; clear HK K)
                    (refine SW.skip (by kernel_rfl) (fun K hK => ?_); have HK := Lib.hid hK; clear hK; go_simp; refine SW.on HK ?_; clear HK K)
                    (refine SW.want (by kernel_rfl) (fun K hK => ?_); have HK := Lib.hid hK; clear hK; go_simp; refine SW.on HK ?_; clear HK K)
                    (refine SW.want (by kernel_rfl) (fun K hK => ?_); have HK := Lib.hid hK; clear hK; go_simp; refine SW.on HK ?_; clear HK K)
                    (refine SW.want (by kernel_rfl) (fun K hK => ?_); have HK := Lib.hid hK; clear hK; go_simp; refine SW.on HK ?_; clear HK K)
                    refine SW.nil ?_
                    go_wp2_with fail
                    go_meet
                    rw [E.out]
                    exact ⟨(HS.out false).drew, (HKP6.out.set_ (.inl (by simp)) _).drew⟩
                  · by_cases h30 : sinceP t.now r p + 30 ≤ t.now
                    · have h31 : 30 ≤ t.now - sinceP t.now r p := by omega
                      have E := Lib.hid (show stepP t.now r p = { p with role := roleP r p, since := sinceP t.now r p, fwd := true } by simp [stepP, fwdP, HACT.out, h31])
                      have h30' : decide (sinceP t.now r p + 30 ≤ t.now) = true := decide_eq_true h30
                      clear h31
                      refine region_tail 16 (by kernel_rfl) (by kernel_rfl) ?_
                      simp only [List.take_succ_cons, List.take_zero, List.drop_succ_cons, List.drop_zero]
                      refine SW.un ?_
                      (refine SW.want (by kernel_rfl) (fun K hK => ?_); have HK := Lib.hid hK; clear hK; go_simp; refine SW.on HK ?_; clear HK K)
                      (refine SW.want (by kernel_rfl) (fun K hK => ?_); have HK := Lib.hid hK; clear hK; go_simp; refine SW.on HK ?_; clear HK K)
                      (refine SW.want (by kernel_rfl) (fun K hK => ?_); have HK := Lib.hid hK; clear hK; go_simp; refine SW.on HK ?_; clear HK K)
                      (refine SW.want (by kernel_rfl) (fun K hK => ?_); have HK := Lib.hid hK; clear hK; go_simp; refine SW.on HK ?_; clear HK K)
                      (refine SW.want (by kernel_rfl) (fun K hK => ?_); have HK := Lib.hid hK; clear hK; go_simp; refine SW.on HK ?_; clear HK K)
                      (refine SW.want (by kernel_rfl) (fun K hK => ?_); have HK := Lib.hid hK; clear hK; go_simp; refine SW.on HK ?_; clear HK K)
                      (refine SW.want (by kernel_rfl) (fun K hK => ?_); have HK := Lib.hid hK; clear hK; go_simp; refine SW.on HK ?_; clear HK K)
                      (refine SW.want (by kernel_rfl) (fun K hK => ?_); have HK := Lib.hid hK; clear hK; go_simp; refine SW.on HK ?_; clear HK K)
                      (refine SW.want (by kernel_rfl) (fun K hK => ?_); have HK := Lib.hid hK; clear hK; go_simp; refine SW.on HK ?_; clear HK K)
                      (refine SW.want (by kernel_rfl) (fun K hK => ?_); have HK := Lib.hid hK; clear hK; go_simp; refine SW.on HK ?_; clear HK K)
                      (refine SW.want (by kernel_rfl) (fun K hK => ?_); have HK := Lib.hid hK; clear hK; go_simp; refine SW.on HK ?_; clear HK K)
                      (refine SW.want (by kernel_rfl) (fun K hK => ?_); have HK := Lib.hid hK; clear hK; go_simp; refine SW.on HK ?_; clear HK K)
                      (refine SW.want (by kernel_rfl) (fun K hK => ?_); have HK := Lib.hid hK; clear hK; go_simp; refine SW.on HK ?_; clear HK K)
                      (refine SW.want (by kernel_rfl) (fun K hK => ?_); have HK := Lib.hid hK; clear hK; go_simp; refine SW.on HK ?_; clear HK K)
                      (refine SW.want (by kernel_rfl) (fun K hK => ?_); have HK := Lib.hid hK; clear hK; go_simp; refine SW.on HK ?_; clear HK K)
                      (refine SW.want (by kernel_rfl) (fun K hK => ?_); have HK := Lib.hid hK; clear hK; go_simp; refine SW.on HK ?_; clear HK K)
                      refine SW.nil ?_
                      go_wp2_with fail
                      go_meet
                      rw [E.out]
                      exact ⟨(HS.out true).drew, (HKP6.out.set_ (.inl (by simp)) _).drew⟩
                    · have h31 : ¬ 30 ≤ t.now - sinceP t.now r p := by omega
                      have E := Lib.hid (show stepP t.now r p = { p with role := roleP r p, since := sinceP t.now r p, fwd := false } by simp [stepP, fwdP, HACT.out, h31])
                      have h30' : decide (sinceP t.now r p + 30 ≤ t.now) = false := decide_eq_false h30
                      clear h31
                      refine region_tail 16 (by kernel_rfl) (by kernel_rfl) ?_
                      simp only [List.take_succ_cons, List.take_zero, List.drop_succ_cons, List.drop_zero]
                      refine SW.un ?_
                      (refine SW.want (by kernel_rfl) (fun K hK => ?_); have HK := Lib.hid hK; clear hK; go_simp; refine SW.on HK ?_; clear HK K)
                      (refine SW.want (by kernel_rfl) (fun K hK => ?_); have HK := Lib.hid hK; clear hK; go_simp; refine SW.on HK ?_; clear HK K)
                      (refine SW.want (by kernel_rfl) (fun K hK => ?_); have HK := Lib.hid hK; clear hK; go_simp; refine SW.on HK ?_; clear HK K)
                      (refine SW.want (by kernel_rfl) (fun K hK => ?_); have HK := Lib.hid hK; clear hK; go_simp; refine SW.on HK ?_; clear HK K)
                      (refine SW.want (by kernel_rfl) (fun K hK => ?_); have HK := Lib.hid hK; clear hK; go_simp; refine SW.on HK ?_; clear HK K)
                      (refine SW.want (by kernel_rfl) (fun K hK => ?_); have HK := Lib.hid hK; clear hK; go_simp; refine SW.on HK ?_; clear HK K)
                      (refine SW.want (by kernel_rfl) (fun K hK => ?_); have HK := Lib.hid hK; clear hK; go_simp; refine SW.on HK ?_; clear HK K)
                      (refine SW.want (by kernel_rfl) (fun K hK => ?_); have HK := Lib.hid hK; clear hK; go_simp; refine SW.on HK ?_; clear HK K)
                      (refine SW.want (by kernel_rfl) (fun K hK => ?_); have HK := Lib.hid hK; clear hK; go_simp; refine SW.on HK ?_; clear HK K)
                      (refine SW.want (by kernel_rfl) (fun K hK => ?_); have HK := Lib.hid hK; clear hK; go_simp; refine SW.on HK ?_; clear HK K)
                      (refine SW.want (by kernel_rfl) (fun K hK => ?_); have HK := Lib.hid hK; clear hK; go_simp; refine SW.on HK ?_; clear HK K)
                      (refine SW.want (by kernel_rfl) (fun K hK => ?_); have HK := Lib.hid hK; clear hK; go_simp; refine SW.on HK ?_; clear HK K)
                      (refine SW.want (by kernel_rfl) (fun K hK => ?_); have HK := Lib.hid hK; clear hK; go_simp; refine SW.on HK ?_; clear HK K)
                      (refine SW.want (by kernel_rfl) (fun K hK => ?_); have HK := Lib.hid hK; clear hK; go_simp; refine SW.on HK ?_; clear HK K)
                      (refine SW.want (by kernel_rfl) (fun K hK => ?_); have HK := Lib.hid hK; clear hK; go_simp; refine SW.on HK ?_; clear HK K)
                      (refine SW.want (by kernel_rfl) (fun K hK => ?_); have HK := Lib.hid hK; clear hK; go_simp; refine SW.on HK ?_; clear HK K)
                      refine SW.nil ?_
                      go_wp2_with fail
                      go_meet
                      rw [E.out]
                      exact ⟨(HS.out false).drew, (HKP6.out.set_ (.inl (by simp)) _).drew⟩
                case rest =>
                  obtain ⟨hat7, hkp7⟩ := hcut
                  clear c2 e2 e5 f5 HS HKP6 hx
                  have c2 : wc.cell? ⟨g, 2, none⟩ = some (.int .i64 t.now) := hat7.tree.2.2.1
                  have c4 : wc.cell? ⟨g, 8, none⟩ = some (.int .i64 (chTo t.now t.change rs (dropped t) j)) := hat7.tree.2.2.2.2
                  have e5 : wc.cell? ⟨gp, j * 12 + 11, none⟩ = some (.bool (fwdP t.now r p)) := hat7.port_set rfl HQ.out rfl
                  have f4 := hat7.treeF 8
                  have hch := chTo_step (now := t.now) (c := t.change) (rs := rs) HP.out
                  rw [HRD.out] at hch
                  have HCH := Lib.hid hch
                  have hms : (mapTo (portF t.now rs) (dropped t) j).set j (stepP t.now r p) = mapTo (portF t.now rs) (dropped t) (j + 1) := by
                    have h := mapTo_step (f := portF t.now rs) HP.out
                    rw [show portF t.now rs j p = stepP t.now r p by rw [portF, HRD.out]] at h
                    exact h
                  rw [hms] at hat7
                  have HAT7 := Lib.hid hat7
                  have HKP7 := Lib.hid hkp7
                  clear hat7 hkp7 hms hch
                  cases hfw : fwdP t.now r p
                  · have E := Lib.hid (show newly t.now r p = false by simp [newly, hfw])
                    go_wp2
                    go_roundw
                    case rel => exact ⟨j + 1, by omega, by go_num, by rw [HCH.out, E.out]; exact HAT7.out, HKP7.out⟩
                    case measure => simp [intOf]; omega
                  · cases hwas : p.fwd
                    · have E := Lib.hid (show newly t.now r p = true by simp [newly, hfw, hwas])
                      go_wp2
                      go_roundw
                      case rel => exact ⟨j + 1, by omega, by go_num, by rw [HCH.out, E.out]; exact HAT7.out.put_change t.now, HKP7.out.set_ (.inl (by simp)) _⟩
                      case measure => simp [intOf]; omega
                    · have E := Lib.hid (show newly t.now r p = false by simp [newly, hfw, hwas])
                      go_wp2
                      go_roundw
                      case rel => exact ⟨j + 1, by omega, by go_num, by rw [HCH.out, E.out]; exact HAT7.out, HKP7.out⟩
                      case measure => simp [intOf]; omega
        · have hje : j = k := by omega
          have e1 : mapTo (portF t.now rs) (dropped t) j = (dropped t).mapIdx (portF t.now rs) := mapTo_all (by rw [hlen, HKL.out, hje])
          rw [e1, hje, ← HKL.out] at hat
          have HAT := Lib.hid hat
          clear hat e1
          have hjk : ¬ (j : Int) < (k : Int) := by omega
          clear hje
          go_wp2
          go_end0
          refine ⟨rfl, ?_, HK4.out.trans hkp⟩
          have h := HAT.out
          rw [← HRS.out, ← HST.out] at h
          exact h
end Rstp
end Go.Proofs.Ytlfoaefilonidaa
