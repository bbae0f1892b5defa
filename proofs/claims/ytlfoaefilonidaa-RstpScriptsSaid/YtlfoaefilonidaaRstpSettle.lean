/-
  The walk of (*rstp.Tree).settle.
-/
import Derived.Test.YtlfoaefilonidaaRstp
import Derived.Deep.CutBlock
import Derived.StillTailTactics
namespace Go.Proofs.Ytlfoaefilonidaa
set_option linter.unusedVariables false
set_option linter.unusedSimpArgs false
open Go.RowKit
namespace Rstp
open Go.Proofs.Ytlfoaefilonidaa.Prio
theorem heardT_at {t : Tr} {k : Nat} {p : Pt} (h : (dropped t)[k]? = some p) : (heardT t)[k]? = some (heardP p) := by simp [heardT, h]
set_option maxRecDepth 100000 in
set_option maxHeartbeats 8000000 in
theorem settle_ (w : World) (g gp cap : Nat) (t : Tr) (h : At w g gp cap t) (hw : Wf t) :
    Calls Try.prog 26 #[.pointer (some ⟨g, 0, none⟩)] w fun e w' => e = .returned (.tuple #[]) ∧ At w' g gp cap (settleT t) ∧ Keep [g, gp] w w' := by
  obtain ⟨i0, hi, hz0, hz1, hz2⟩ := info_parts infoH
  have hl := hw.l1
  have hlen := dropped_length t
  go_enter Try.func26, Try.ntmps26
  go_wp2_with fail
  refine (drop_ _ g gp cap t h hw).mono ?_
  rintro e w1 ⟨rfl, h1, hk1⟩
  obtain ⟨c0, c1, c2, c3, c4⟩ := h1.tree
  simp only [dropT, dropped_length] at c0 c1 c2 c3 c4
  have hgl := h1.lt
  have HK1 := Lib.hid hk1
  have H1 := Lib.hid h1
  clear hk1 h1 h
  go_wp2
  go_loopw [2, 16] (fun v i wr => ∃ k : Nat, k ≤ t.ps.length ∧ i = .int .i64 k ∧ wr.ownsRow w1.heap.size 76 6 v k (((heardT t).take k).flatMap cellsH) ∧ Below w1.heap.size w1 wr) (fun _ i _ => t.ps.length - (intOf i).toNat)
  case atStart => exact ⟨0, Nat.zero_le _, rfl, ⟨by simp, .inl ⟨rfl, rfl⟩⟩, Below.refl _ _⟩
  case round =>
    obtain ⟨k, hk, rfl, hown, hbel⟩ := hrel
    by_cases hlt : k < t.ps.length
    · have hlt' : (k : Int) < (t.ps.length : Int) := by omega
      obtain ⟨p, hp⟩ : ∃ p, (dropped t)[k]? = some p := ⟨_, List.getElem?_eq_getElem (by omega)⟩
      have hat : At wr g gp cap (dropT t) := H1.out.below hbel
      have e0 : wr.cell? ⟨gp, k * 15, none⟩ = some (.int .i64 p.cost) := hat.port (j := 0) hp rfl
      have e1 : wr.cell? ⟨gp, k * 15 + 1, none⟩ = some (.int .i64 p.role) := hat.port hp rfl
      have e2 : wr.cell? ⟨gp, k * 15 + 2, none⟩ = some (.int .i64 p.since) := hat.port hp rfl
      have e3 : wr.cell? ⟨gp, k * 15 + 3, none⟩ = some (.bool p.up) := hat.port hp rfl
      have e4 : wr.cell? ⟨gp, k * 15 + 4, none⟩ = some (.bool p.keeps) := hat.port hp rfl
      have e5 : wr.cell? ⟨gp, k * 15 + 5, none⟩ = some (.bool p.fwd) := hat.port hp rfl
      have e6 : wr.cell? ⟨gp, k * 15 + 6, none⟩ = some (.int .u64 p.v.root) := hat.port hp rfl
      have e7 : wr.cell? ⟨gp, k * 15 + 7, none⟩ = some (.int .i64 p.v.cost) := hat.port hp rfl
      have e8 : wr.cell? ⟨gp, k * 15 + 8, none⟩ = some (.int .u64 p.v.bridge) := hat.port hp rfl
      have e9 : wr.cell? ⟨gp, k * 15 + 9, none⟩ = some (.int .i64 p.v.port) := hat.port hp rfl
      have e10 : wr.cell? ⟨gp, k * 15 + 10, none⟩ = some (.int .i64 p.age) := hat.port hp rfl
      have e11 : wr.cell? ⟨gp, k * 15 + 11, none⟩ = some (.bool p.chg) := hat.port hp rfl
      have e12 : wr.cell? ⟨gp, k * 15 + 12, none⟩ = some (.bool p.lrn) := hat.port hp rfl
      have e13 : wr.cell? ⟨gp, k * 15 + 13, none⟩ = some (.bool p.kf) := hat.port hp rfl
      have e14 : wr.cell? ⟨gp, k * 15 + 14, none⟩ = some (.int .i64 p.at_) := hat.port hp rfl
      have HT := Lib.hid (cellsH_take (heardT t) k (heardP p) (heardT_at hp))
      clear hat hp
      have q3 : k + 1 ≤ maxLen := by unfold maxLen; omega
      have q4 : (k + 1) * 48 ≤ 140737488355328 := by omega
      have hsz := hbel.size
      --STUB
      by_cases hu : p.up = true
      · have EH := Lib.hid (show cellsH (heardP p) = [.bool p.keeps, .int .u64 p.v.root, .int .i64 p.v.cost, .int .u64 p.v.bridge, .int .i64 p.v.port, .int .i64 p.cost] by simp [cellsH, heardP, hu])
        go_wp2_with (at_builtin; refine wpList_append_own _ rfl (.tmp 20) (.tmp 33) 74 rfl w1.heap.size 76 i0 _ 6 48 Try.underlying74 hi hz0 hz1 hz2 rfl (by omega) _ k _ rfl ((hown.alloc _).alloc _) ⟨wr.heap.size + 1, 0, none⟩ 1 1 [.bool p.keeps, .int .u64 p.v.root, .int .i64 p.v.cost, .int .u64 p.v.bridge, .int .i64 p.v.port, .int .i64 p.cost] rfl rfl (new_cells' _ [.bool p.keeps, .int .u64 p.v.root, .int .i64 p.v.cost, .int .u64 p.v.bridge, .int .i64 p.v.port, .int .i64 p.cost] 76 _ (by simp)) (by rw [← EH.out]; exact cellsH_one _) q3 q4 (by simp; omega) ?_; intro v' w9 hown' hgrow _)
        go_roundw
        case rel => exact ⟨k + 1, by omega, by go_num, by rw [HT.out, EH.out]; exact hown', ((hbel.alloc (by omega) _).alloc (by simp; omega) _).grown hgrow (by simp; omega) (fun q hq => own_from hown q hq)⟩
        case measure => simp [intOf]; omega
      · have hu' : p.up = false := by simpa using hu
        have EH := Lib.hid (show cellsH (heardP p) = [.bool false, .int .u64 p.v.root, .int .i64 p.v.cost, .int .u64 p.v.bridge, .int .i64 p.v.port, .int .i64 p.cost] by simp [cellsH, heardP, hu'])
        go_wp2_with (at_builtin; refine wpList_append_own _ rfl (.tmp 20) (.tmp 33) 74 rfl w1.heap.size 76 i0 _ 6 48 Try.underlying74 hi hz0 hz1 hz2 rfl (by omega) _ k _ rfl ((hown.alloc _).alloc _) ⟨wr.heap.size + 1, 0, none⟩ 1 1 [.bool false, .int .u64 p.v.root, .int .i64 p.v.cost, .int .u64 p.v.bridge, .int .i64 p.v.port, .int .i64 p.cost] rfl rfl (new_cells' _ [.bool false, .int .u64 p.v.root, .int .i64 p.v.cost, .int .u64 p.v.bridge, .int .i64 p.v.port, .int .i64 p.cost] 76 _ (by simp)) (by rw [← EH.out]; exact cellsH_one _) q3 q4 (by simp; omega) ?_; intro v' w9 hown' hgrow _)
        go_roundw
        case rel => exact ⟨k + 1, by omega, by go_num, by rw [HT.out, EH.out]; exact hown', ((hbel.alloc (by omega) _).alloc (by simp; omega) _).grown hgrow (by simp; omega) (fun q hq => own_from hown q hq)⟩
        case measure => simp [intOf]; omega
      --END
    · have hke : k = t.ps.length := by omega
      have htk : (heardT t).take k = heardT t := List.take_of_length_le (by rw [heardT_length]; omega)
      rw [htk] at hown
      have HKE := Lib.hid hke
      clear hke htk hi hz0 hz1 hz2
      have hat : At wr g gp cap (dropT t) := H1.out.below hbel
      have HBEL := Lib.hid hbel
      have hsz := hbel.size
      obtain ⟨d0, d1, d2, d3, d4⟩ := hat.tree
      have HAT := Lib.hid hat
      obtain ⟨A', c', rfl, hrr⟩ := own_form hown
      have HOWN := Lib.hid hown
      clear hat hown hbel c0 c1 c2 c3 c4
      go_wp2_with fail
      refine (best_ t.bridge A' k c' (heardT t) _ (by omega) hrr).mono ?_
      rw [show bestOf t.bridge (heardT t) = stT t from rfl]
      rintro e w2 ⟨rfl, hb2⟩
      have hat2 := HAT.out.below hb2
      have hown2 := own_below HOWN.out hb2
      have hbel2 := HBEL.out.trans (hb2.mono hsz)
      have hz2 := hb2.size
      obtain ⟨d0', d1', d2', d3', d4'⟩ := hat2.tree
      have f3 := hat2.treeF 3
      have f5 := hat2.treeF 5
      have f6 := hat2.treeF 6
      have f7 := hat2.treeF 7
      have f8 := hat2.treeF 8
      have d5' : w2.cell? ⟨g, 5, none⟩ = some (.int .u64 t.best.root) := hat2.blk.cell 5
      have d6' : w2.cell? ⟨g, 6, none⟩ = some (.int .i64 t.best.cost) := hat2.blk.cell 6
      have d7' : w2.cell? ⟨g, 7, none⟩ = some (.int .u64 t.best.bridge) := hat2.blk.cell 7
      have d8' : w2.cell? ⟨g, 8, none⟩ = some (.int .i64 t.best.port) := hat2.blk.cell 8
      have HAT2 := Lib.hid hat2
      clear hb2 hrr HOWN HAT hat2 d0 d1 d2 d3 d4
      generalize hst : stT t = st at *
      have HST := Lib.hid hst
      clear hst
      go_wp2_with fail
      have hat3 : At _ g gp cap { dropT t with root := st.1, best := st.2 } := (HAT2.out.put_root st.1).put_best st.2
      have hown3 := ownsRow_setCell_below (ownsRow_setCell_below (ownsRow_setCell_below (ownsRow_setCell_below (ownsRow_setCell_below hown2 (a := ⟨g, 3, none⟩) hgl.1 (.int .i64 st.1)) (a := ⟨g, 5, none⟩) hgl.1 (.int .u64 st.2.root)) (a := ⟨g, 6, none⟩) hgl.1 (.int .i64 st.2.cost)) (a := ⟨g, 7, none⟩) hgl.1 (.int .u64 st.2.bridge)) (a := ⟨g, 8, none⟩) hgl.1 (.int .i64 st.2.port)
      obtain ⟨A3, c3, hv3, hrr3⟩ := own_form hown3
      obtain ⟨rfl, rfl⟩ : A' = A3 ∧ c' = c3 := by injection hv3 with e1 e2 e3; exact ⟨e1, e3⟩
      have hk3 : Keep [g, gp] w ((((((w2.setCell ⟨g, 3, none⟩ (.int .i64 st.1)).setCell ⟨g, 5, none⟩ (.int .u64 st.2.root)).setCell ⟨g, 6, none⟩ (.int .i64 st.2.cost)).setCell ⟨g, 7, none⟩ (.int .u64 st.2.bridge)).setCell ⟨g, 8, none⟩ (.int .i64 st.2.port))) :=
        (((((((HK1.out.mono (ys := [g, gp]) (fun x hx => .inl (by simp at hx; simp [hx]))).trans (Keep.of_below hbel2 _)).set_ (.inl (by simp)) _).set_ (.inl (by simp)) _).set_ (.inl (by simp)) _).set_ (.inl (by simp)) _).set_ (.inl (by simp)) _)
      have hsz3 : ((((((w2.setCell ⟨g, 3, none⟩ (.int .i64 st.1)).setCell ⟨g, 5, none⟩ (.int .u64 st.2.root)).setCell ⟨g, 6, none⟩ (.int .i64 st.2.cost)).setCell ⟨g, 7, none⟩ (.int .u64 st.2.bridge)).setCell ⟨g, 8, none⟩ (.int .i64 st.2.port))).heap.size = w2.heap.size := by simp [World.setCell]
      refine (roles_lo t.bridge A' k c' (heardT t) _ (by omega) hrr3).mono ?_
      clear d0' d1' d2' d3' d4' d5' d6' d7' d8' f3 f5 f6 f7 f8 hown2 hown3 hv3 hrr3
      generalize (((((w2.setCell ⟨g, 3, none⟩ (.int .i64 st.1)).setCell ⟨g, 5, none⟩ (.int .u64 st.2.root)).setCell ⟨g, 6, none⟩ (.int .i64 st.2.cost)).setCell ⟨g, 7, none⟩ (.int .u64 st.2.bridge)).setCell ⟨g, 8, none⟩ (.int .i64 st.2.port)) = w3 at *
      rintro e w4 ⟨⟨A4, c4, rfl, hr4, hlo4⟩, hb4⟩
      rw [show rolesOf t.bridge (heardT t) = rolesT t from rfl] at hr4
      have hat4 := hat3.below hb4
      have hk4 := hk3.trans (Keep.of_below hb4 _)
      have HAT4 := Lib.hid hat4
      have HK4 := Lib.hid hk4
      have hgl3 := hat3.lt
      have hrl := rolesT_length t
      have hz4 := hb4.size
      have HAT3 := Lib.hid hat3
      clear hat3 hk3 HAT2 hb4 hat4 hk4 hsz3 hz2 hsz HBEL hbel2 HK1 H1
      generalize hrs : rolesT t = rs at *
      have HRS := Lib.hid hrs
      have HRL := Lib.hid hrl
      clear hrs hrl
      go_wp2_with fail
      go_loopw [58] (fun i wr => ∃ j : Nat, j ≤ k ∧ i = .int .i64 j ∧ At wr g gp cap { dropT t with root := st.1, best := st.2, ps := mapTo (portF t.now rs) (dropped t) j, change := chTo t.now t.change rs (dropped t) j } ∧ Keep [g, gp] w4 wr) (fun i _ => k - (intOf i).toNat)
      case atStart => exact ⟨0, Nat.zero_le _, rfl, by rw [mapTo_zero]; exact HAT4.out, Keep.refl _ _⟩
      case round =>
        obtain ⟨j, hj, rfl, hat, hkp⟩ := hrel
        have hsl := hkp.size
        by_cases hjl : j < k
        · have hjl' : (j : Int) < (k : Int) := by omega
          obtain ⟨p, hp⟩ : ∃ p, (dropped t)[j]? = some p := ⟨_, List.getElem?_eq_getElem (by have := HKE.out; omega)⟩
          obtain ⟨r, hr⟩ : ∃ r, rs[j]? = some r := ⟨_, List.getElem?_eq_getElem (by have := HKE.out; have := HRL.out; omega)⟩
          have hrd : rs.getD j 0 = r := by simp [hr]
          obtain ⟨b4, off4, rfl, hb4, hc4⟩ := hr4.flat (by omega) (by simp only [List.length_map]; have := HKE.out; have := HRL.out; omega)
          have hlo : w3.heap.size ≤ b4 := hlo4 _ rfl
          have hrc : wr.cell? ⟨b4, off4 + j, none⟩ = some (.int .i64 r) := by
            rw [hkp.cells b4 _ hb4 (by simp; omega)]
            exact hc4 j _ (by rw [List.getElem?_map, hr]; rfl)
          have hq := mapTo_get (f := portF t.now rs) hp
          obtain ⟨c0, c1, c2, c3, c4⟩ := hat.tree
          simp only [mapTo_length, hlen, dropT] at c0 c1 c2 c3 c4
          have e1 : wr.cell? ⟨gp, j * 15 + 1, none⟩ = some (.int .i64 p.role) := hat.port hq rfl
          have e2 : wr.cell? ⟨gp, j * 15 + 2, none⟩ = some (.int .i64 p.since) := hat.port hq rfl
          have e3 : wr.cell? ⟨gp, j * 15 + 3, none⟩ = some (.bool p.up) := hat.port hq rfl
          have e5 : wr.cell? ⟨gp, j * 15 + 5, none⟩ = some (.bool p.fwd) := hat.port hq rfl
          have f1 := hat.portF (j * 15 + 1)
          have HAT := Lib.hid hat
          have HKP := Lib.hid hkp
          have HQ := Lib.hid hq
          have HP := Lib.hid hp
          have HRD := Lib.hid hrd
          have hjt : j < t.ps.length := by have := HKE.out; omega
          have hjt' : (j : Int) < (t.ps.length : Int) := by omega
          clear hc4 hr hat hkp hq hp hrd
          have hr1 : ∀ u, At (wr.setCell ⟨gp, j * 15 + 1, none⟩ (.int .i64 u)) g gp cap { dropT t with root := st.1, best := st.2, ps := (mapTo (portF t.now rs) (dropped t) j).set j { p with role := u }, change := chTo t.now t.change rs (dropped t) j } := fun u => HAT.out.put HQ.out { p with role := u } 1 _ (by omega) rfl
          have HR1 := Lib.hid hr1
          clear hr1
          go_upto_if 77 with fail
          go_cut [] (fun wx => At wx g gp cap { dropT t with root := st.1, best := st.2, ps := (mapTo (portF t.now rs) (dropped t) j).set j { p with role := roleP r p }, change := chTo t.now t.change rs (dropped t) j } ∧ Keep [g, gp] w4 wx)
          case first =>
            --STUB
            by_cases hu : p.up = true
            · have E := Lib.hid (show roleP r p = r by simp [roleP, hu])
              have hu2 : ¬ (!p.up) = true := by rw [hu]; simp
              clear hu
              go_wp2_with fail
              go_meet
              rw [E.out]
              exact ⟨HR1.out r, HKP.out.set_ (.inl (by simp)) _⟩
            · have hu' : p.up = false := by simpa using hu
              have E := Lib.hid (show roleP r p = 0 by simp [roleP, hu'])
              have HU := Lib.hid hu'
              clear hu hu'
              go_wp2_with fail
              rotate_left
              · exact absurd ‹(!p.up) = false› (by rw [HU.out]; simp)
              go_meet
              rw [E.out]
              exact ⟨(HR1.out r).again rfl HQ.out { p with role := 0 } 1 (.int .i64 0) (by omega) rfl, (HKP.out.set_ (.inl (by simp)) _).set_ (.inl (by simp)) _⟩
            --END
          case rest =>
            obtain ⟨hat5, hkp5⟩ := hcut
            clear c0 c1 c2 c3 c4 e1 e2 e3 e5 f1 HR1 hrc HAT
            have c2 : wc.cell? ⟨g, 2, none⟩ = some (.int .i64 t.now) := hat5.tree.2.2.1
            have e1 : wc.cell? ⟨gp, j * 15 + 1, none⟩ = some (.int .i64 (roleP r p)) := hat5.port_set rfl HQ.out rfl
            have e2 : wc.cell? ⟨gp, j * 15 + 2, none⟩ = some (.int .i64 p.since) := hat5.port_set rfl HQ.out rfl
            have e5 : wc.cell? ⟨gp, j * 15 + 5, none⟩ = some (.bool p.fwd) := hat5.port_set rfl HQ.out rfl
            have f2 := hat5.portF (j * 15 + 2)
            have HAT5 := Lib.hid hat5
            have HKP5 := Lib.hid hkp5
            clear hat5 hkp5
            go_upto_block 4 with fail
            go_cut [] (fun wx => At wx g gp cap { dropT t with root := st.1, best := st.2, ps := (mapTo (portF t.now rs) (dropped t) j).set j { p with role := roleP r p, since := sinceP t.now r p }, change := chTo t.now t.change rs (dropped t) j } ∧ Keep [g, gp] w4 wx)
            case first =>
              --STUB
              have hs : ∀ u, At (wc.setCell ⟨gp, j * 15 + 2, none⟩ (.int .i64 u)) g gp cap { dropT t with root := st.1, best := st.2, ps := (mapTo (portF t.now rs) (dropped t) j).set j { p with role := roleP r p, since := u }, change := chTo t.now t.change rs (dropped t) j } := fun u => HAT5.out.again rfl HQ.out { p with role := roleP r p, since := u } 2 (.int .i64 u) (by omega) rfl
              have HS := Lib.hid hs
              clear hs
              cases hact : activeR (roleP r p)
              · have E := Lib.hid (show sinceP t.now r p = -1 by simp [sinceP, hact])
                go_wp2_with (go_at_call 35; refine (active_ _ ⟨gp, 0, none⟩ (j * 15) gp (roleP r p) e1).mono ?_; rintro e w' ⟨rfl, rfl⟩)
                go_meet
                rw [E.out]
                exact ⟨HS.out _, HKP5.out.set_ (.inl (by simp)) _⟩
              · by_cases hs1 : p.since = -1
                · have E := Lib.hid (show sinceP t.now r p = t.now by simp [sinceP, hact, hs1])
                  have hs2 : (p.since == -1) = true := by simp [hs1]
                  clear hs1
                  go_wp2_with (go_at_call 35; refine (active_ _ ⟨gp, 0, none⟩ (j * 15) gp (roleP r p) e1).mono ?_; rintro e w' ⟨rfl, rfl⟩)
                  go_meet
                  rw [E.out]
                  exact ⟨HS.out _, HKP5.out.set_ (.inl (by simp)) _⟩
                · have E := Lib.hid (show sinceP t.now r p = p.since by simp [sinceP, hact, hs1])
                  have hs2 : (p.since == -1) = false := by simp [hs1]
                  clear hs1
                  go_wp2_with (go_at_call 35; refine (active_ _ ⟨gp, 0, none⟩ (j * 15) gp (roleP r p) e1).mono ?_; rintro e w' ⟨rfl, rfl⟩)
                  go_meet
                  rw [E.out]
                  exact ⟨HAT5.out, HKP5.out⟩
              --END
            case rest =>
              obtain ⟨hat6, hkp6⟩ := hcut
              clear c2 e1 e2 e5 f2 HAT5 HKP5
              have c2 : wc.cell? ⟨g, 2, none⟩ = some (.int .i64 t.now) := hat6.tree.2.2.1
              have e1 : wc.cell? ⟨gp, j * 15 + 1, none⟩ = some (.int .i64 (roleP r p)) := hat6.port_set rfl HQ.out rfl
              have e2 : wc.cell? ⟨gp, j * 15 + 2, none⟩ = some (.int .i64 (sinceP t.now r p)) := hat6.port_set rfl HQ.out rfl
              have e5 : wc.cell? ⟨gp, j * 15 + 5, none⟩ = some (.bool p.fwd) := hat6.port_set rfl HQ.out rfl
              have f5 := hat6.portF (j * 15 + 5)
              have hs : ∀ u, At (wc.setCell ⟨gp, j * 15 + 5, none⟩ (.bool u)) g gp cap { dropT t with root := st.1, best := st.2, ps := (mapTo (portF t.now rs) (dropped t) j).set j { p with role := roleP r p, since := sinceP t.now r p, fwd := u }, change := chTo t.now t.change rs (dropped t) j } := fun u => hat6.again rfl HQ.out { p with role := roleP r p, since := sinceP t.now r p, fwd := u } 5 (.bool u) (by omega) rfl
              have HS := Lib.hid hs
              have HKP6 := Lib.hid hkp6
              have hgne := hat6.ne
              have hbd : -1 ≤ sinceP t.now r p ∧ sinceP t.now r p ≤ t.now := by
                have hm : p ∈ dropped t := List.mem_of_getElem? HP.out
                simp only [dropped, List.mem_map] at hm
                obtain ⟨q, hq, rfl⟩ := hm
                have := ((hw.p q hq).drop t.now).step hw.n0 r
                exact ⟨this.s0, this.s1⟩
              obtain ⟨hb0, hb1⟩ := hbd
              have hn0 := hw.n0
              have hn1 := hw.n1
              have hx : IntKind.i64.wrap (t.now - sinceP t.now r p) = t.now - sinceP t.now r p := IntWalk.i64_in _ (by omega)
              clear hs hat6 hkp6
              go_upto_region 20 with fail
              go_cut [] (fun wx => At wx g gp cap { dropT t with root := st.1, best := st.2, ps := (mapTo (portF t.now rs) (dropped t) j).set j (stepP t.now r p), change := chTo t.now t.change rs (dropped t) j } ∧ Keep [g, gp] w4 wx)
              case first =>
                cases hact : activeR (roleP r p)
                · have E := Lib.hid (show stepP t.now r p = { p with role := roleP r p, since := sinceP t.now r p, fwd := false } by simp [stepP, fwdP, hact])
                  refine region_tail 17 (by kernel_rfl) (by kernel_rfl) ?_
                  simp only [List.take_succ_cons, List.take_zero, List.drop_succ_cons, List.drop_zero]
                  refine SW.un ?_
                  (refine SW.want (by kernel_rfl) (fun K hK => ?_); have HK := Lib.hid hK; clear hK; go_simp; refine SW.on HK ?_; clear HK K)
                  (refine SW.want (by kernel_rfl) (fun K hK => ?_); have HK := Lib.hid hK; clear hK; go_simp; refine SW.on HK ?_; clear HK K)
                  refine SW.want (by kernel_rfl) (fun K hK => ?_); have HK := Lib.hid hK; clear hK; go_simp; refine ⟨.bool false, (active_b _ (j * 15) gp (roleP r p) false hact (by simpa using e1)).mono fun _ _ h => ⟨h.1, h.2.symm⟩, SW.on HK ?_⟩; clear HK K
                  (refine SW.want (by kernel_rfl) (fun K hK => ?_); have HK := Lib.hid hK; clear hK; go_simp; refine SW.on HK ?_; clear HK K)
                  (refine SW.skip (by kernel_rfl) (fun K hK => ?_); have HK := Lib.hid hK; clear hK; go_simp; refine SW.on HK ?_; clear HK K)
                  (refine SW.skip (by kernel_rfl) (fun K hK => ?_); have HK := Lib.hid hK; clear hK; go_simp; refine SW.on HK ?_; clear HK K)
                  (refine SW.skip (by kernel_rfl) (fun K hK => ?_); have HK := Lib.hid hK; clear hK; go_simp; refine SW.on HK ?_; clear HK K)
                  (refine SW.skip (by kernel_rfl) (fun K hK => ?_); have HK := Lib.hid hK; clear hK; go_simp; refine SW.on HK ?_; clear HK K)
                  (refine SW.skip (by kernel_rfl) (fun K hK => ?_); have HK := Lib.hid hK; clear hK; go_simp; refine SW.on HK ?_; clear HK K)
                  (refine SW.skip (by kernel_rfl) (fun K hK => ?_); have HK := Lib.hid hK; clear hK; go_simp; refine SW.on HK ?_; clear HK K)
                  (refine SW.skip (by kernel_rfl) (fun K hK => ?_); have HK := Lib.hid hK; clear hK; go_simp; refine SW.on HK ?_; clear HK K)
                  (refine SW.skip (by kernel_rfl) (fun K hK => ?_); have HK := Lib.hid hK; clear hK; go_simp; refine SW.on HK ?_; clear HK K)
                  (refine SW.skip (by kernel_rfl) (fun K hK => ?_); have HK := Lib.hid hK; clear hK; go_simp; refine SW.on HK ?_; clear HK K)
                  (refine SW.skip (by kernel_rfl) (fun K hK => ?_); have HK := Lib.hid hK; clear hK; go_simp; refine SW.on HK ?_; clear HK K)
                  (refine SW.want (by kernel_rfl) (fun K hK => ?_); have HK := Lib.hid hK; clear hK; go_simp; refine SW.on HK ?_; clear HK K)
                  (refine SW.want (by kernel_rfl) (fun K hK => ?_); have HK := Lib.hid hK; clear hK; go_simp; refine SW.on HK ?_; clear HK K)
                  (refine SW.want (by kernel_rfl) (fun K hK => ?_); have HK := Lib.hid hK; clear hK; go_simp; refine SW.on HK ?_; clear HK K)
                  refine SW.nil ?_
                  go_wp2_with fail
                  go_meet
                  rw [E.out]
                  exact ⟨(HS.out false).drew, (HKP6.out.set_ (.inl (by simp)) _).drew⟩
                · by_cases h30 : 30 ≤ t.now - sinceP t.now r p
                  · have E := Lib.hid (show stepP t.now r p = { p with role := roleP r p, since := sinceP t.now r p, fwd := true } by simp [stepP, fwdP, hact, h30])
                    have h30' : decide (30 ≤ t.now - sinceP t.now r p) = true := decide_eq_true h30
                    refine region_tail 17 (by kernel_rfl) (by kernel_rfl) ?_
                    simp only [List.take_succ_cons, List.take_zero, List.drop_succ_cons, List.drop_zero]
                    refine SW.un ?_
                    (refine SW.want (by kernel_rfl) (fun K hK => ?_); have HK := Lib.hid hK; clear hK; go_simp; refine SW.on HK ?_; clear HK K)
                    (refine SW.want (by kernel_rfl) (fun K hK => ?_); have HK := Lib.hid hK; clear hK; go_simp; refine SW.on HK ?_; clear HK K)
                    refine SW.want (by kernel_rfl) (fun K hK => ?_); have HK := Lib.hid hK; clear hK; go_simp; refine ⟨.bool true, (active_b _ (j * 15) gp (roleP r p) true hact (by simpa using e1)).mono fun _ _ h => ⟨h.1, h.2.symm⟩, SW.on HK ?_⟩; clear HK K
                    (refine SW.want (by kernel_rfl) (fun K hK => ?_); have HK := Lib.hid hK; clear hK; go_simp; refine SW.on HK ?_; clear HK K)
                    (refine SW.want (by kernel_rfl) (fun K hK => ?_); have HK := Lib.hid hK; clear hK; go_simp; refine SW.on HK ?_; clear HK K)
                    (refine SW.want (by kernel_rfl) (fun K hK => ?_); have HK := Lib.hid hK; clear hK; go_simp; refine SW.on HK ?_; clear HK K)
                    (refine SW.want (by kernel_rfl) (fun K hK => ?_); have HK := Lib.hid hK; clear hK; go_simp; refine SW.on HK ?_; clear HK K)
                    (refine SW.want (by kernel_rfl) (fun K hK => ?_); have HK := Lib.hid hK; clear hK; go_simp; refine SW.on HK ?_; clear HK K)
                    (refine SW.want (by kernel_rfl) (fun K hK => ?_); have HK := Lib.hid hK; clear hK; go_simp; refine SW.on HK ?_; clear HK K)
                    (refine SW.want (by kernel_rfl) (fun K hK => ?_); have HK := Lib.hid hK; clear hK; go_simp; refine SW.on HK ?_; clear HK K)
                    (refine SW.want (by kernel_rfl) (fun K hK => ?_); have HK := Lib.hid hK; clear hK; go_simp; refine SW.on HK ?_; clear HK K)
                    (refine SW.want (by kernel_rfl) (fun K hK => ?_); have HK := Lib.hid hK; clear hK; go_simp; refine SW.on HK ?_; clear HK K)
                    (refine SW.want (by kernel_rfl) (fun K hK => ?_); have HK := Lib.hid hK; clear hK; go_simp; refine SW.on HK ?_; clear HK K)
                    (refine SW.want (by kernel_rfl) (fun K hK => ?_); have HK := Lib.hid hK; clear hK; go_simp; refine SW.on HK ?_; clear HK K)
                    (refine SW.want (by kernel_rfl) (fun K hK => ?_); have HK := Lib.hid hK; clear hK; go_simp; refine SW.on HK ?_; clear HK K)
                    (refine SW.want (by kernel_rfl) (fun K hK => ?_); have HK := Lib.hid hK; clear hK; go_simp; refine SW.on HK ?_; clear HK K)
                    (refine SW.want (by kernel_rfl) (fun K hK => ?_); have HK := Lib.hid hK; clear hK; go_simp; refine SW.on HK ?_; clear HK K)
                    refine SW.nil ?_
                    go_wp2_with fail
                    go_meet
                    rw [E.out]
                    exact ⟨(HS.out true).drew, (HKP6.out.set_ (.inl (by simp)) _).drew⟩
                  · have E := Lib.hid (show stepP t.now r p = { p with role := roleP r p, since := sinceP t.now r p, fwd := false } by simp [stepP, fwdP, hact, h30])
                    have h30' : decide (30 ≤ t.now - sinceP t.now r p) = false := decide_eq_false h30
                    refine region_tail 17 (by kernel_rfl) (by kernel_rfl) ?_
                    simp only [List.take_succ_cons, List.take_zero, List.drop_succ_cons, List.drop_zero]
                    refine SW.un ?_
                    (refine SW.want (by kernel_rfl) (fun K hK => ?_); have HK := Lib.hid hK; clear hK; go_simp; refine SW.on HK ?_; clear HK K)
                    (refine SW.want (by kernel_rfl) (fun K hK => ?_); have HK := Lib.hid hK; clear hK; go_simp; refine SW.on HK ?_; clear HK K)
                    refine SW.want (by kernel_rfl) (fun K hK => ?_); have HK := Lib.hid hK; clear hK; go_simp; refine ⟨.bool true, (active_b _ (j * 15) gp (roleP r p) true hact (by simpa using e1)).mono fun _ _ h => ⟨h.1, h.2.symm⟩, SW.on HK ?_⟩; clear HK K
                    (refine SW.want (by kernel_rfl) (fun K hK => ?_); have HK := Lib.hid hK; clear hK; go_simp; refine SW.on HK ?_; clear HK K)
                    (refine SW.want (by kernel_rfl) (fun K hK => ?_); have HK := Lib.hid hK; clear hK; go_simp; refine SW.on HK ?_; clear HK K)
                    (refine SW.want (by kernel_rfl) (fun K hK => ?_); have HK := Lib.hid hK; clear hK; go_simp; refine SW.on HK ?_; clear HK K)
                    (refine SW.want (by kernel_rfl) (fun K hK => ?_); have HK := Lib.hid hK; clear hK; go_simp; refine SW.on HK ?_; clear HK K)
                    (refine SW.want (by kernel_rfl) (fun K hK => ?_); have HK := Lib.hid hK; clear hK; go_simp; refine SW.on HK ?_; clear HK K)
                    (refine SW.want (by kernel_rfl) (fun K hK => ?_); have HK := Lib.hid hK; clear hK; go_simp; refine SW.on HK ?_; clear HK K)
                    (refine SW.want (by kernel_rfl) (fun K hK => ?_); have HK := Lib.hid hK; clear hK; go_simp; refine SW.on HK ?_; clear HK K)
                    (refine SW.want (by kernel_rfl) (fun K hK => ?_); have HK := Lib.hid hK; clear hK; go_simp; refine SW.on HK ?_; clear HK K)
                    (refine SW.want (by kernel_rfl) (fun K hK => ?_); have HK := Lib.hid hK; clear hK; go_simp; refine SW.on HK ?_; clear HK K)
                    (refine SW.want (by kernel_rfl) (fun K hK => ?_); have HK := Lib.hid hK; clear hK; go_simp; refine SW.on HK ?_; clear HK K)
                    (refine SW.want (by kernel_rfl) (fun K hK => ?_); have HK := Lib.hid hK; clear hK; go_simp; refine SW.on HK ?_; clear HK K)
                    (refine SW.want (by kernel_rfl) (fun K hK => ?_); have HK := Lib.hid hK; clear hK; go_simp; refine SW.on HK ?_; clear HK K)
                    (refine SW.want (by kernel_rfl) (fun K hK => ?_); have HK := Lib.hid hK; clear hK; go_simp; refine SW.on HK ?_; clear HK K)
                    (refine SW.want (by kernel_rfl) (fun K hK => ?_); have HK := Lib.hid hK; clear hK; go_simp; refine SW.on HK ?_; clear HK K)
                    refine SW.nil ?_
                    go_wp2_with fail
                    go_meet
                    rw [E.out]
                    exact ⟨(HS.out false).drew, (HKP6.out.set_ (.inl (by simp)) _).drew⟩
              case rest =>
                obtain ⟨hat7, hkp7⟩ := hcut
                clear c2 e1 e2 e5 f5 HS HKP6 hx
                have c2 : wc.cell? ⟨g, 2, none⟩ = some (.int .i64 t.now) := hat7.tree.2.2.1
                have c4 : wc.cell? ⟨g, 4, none⟩ = some (.int .i64 (chTo t.now t.change rs (dropped t) j)) := hat7.tree.2.2.2.2
                have e5 : wc.cell? ⟨gp, j * 15 + 5, none⟩ = some (.bool (fwdP t.now r p)) := hat7.port_set rfl HQ.out rfl
                have f4 := hat7.treeF 4
                have hch := chTo_step (now := t.now) (c := t.change) (rs := rs) HP.out
                rw [HRD.out] at hch
                have HCH := Lib.hid hch
                have hms : (mapTo (portF t.now rs) (dropped t) j).set j (stepP t.now r p) = mapTo (portF t.now rs) (dropped t) (j + 1) := by
                  have h := mapTo_step (f := portF t.now rs) HP.out
                  rw [show portF t.now rs j p = stepP t.now r p by rw [portF, HRD.out]] at h
                  exact h
                rw [hms] at hat7
                have HAT7 := Lib.hid hat7
                have HKP7 := Lib.hid hkp7
                clear hat7 hkp7 hms hch
                cases hfw : fwdP t.now r p
                · have E := Lib.hid (show newly t.now r p = false by simp [newly, hfw])
                  go_wp2
                  go_roundw
                  case rel => exact ⟨j + 1, by omega, by go_num, by rw [HCH.out, E.out]; exact HAT7.out, HKP7.out⟩
                  case measure => simp [intOf]; omega
                · cases hwas : p.fwd
                  · have E := Lib.hid (show newly t.now r p = true by simp [newly, hfw, hwas])
                    go_wp2
                    go_roundw
                    case rel => exact ⟨j + 1, by omega, by go_num, by rw [HCH.out, E.out]; exact HAT7.out.put_change t.now, HKP7.out.set_ (.inl (by simp)) _⟩
                    case measure => simp [intOf]; omega
                  · have E := Lib.hid (show newly t.now r p = false by simp [newly, hfw, hwas])
                    go_wp2
                    go_roundw
                    case rel => exact ⟨j + 1, by omega, by go_num, by rw [HCH.out, E.out]; exact HAT7.out, HKP7.out⟩
                    case measure => simp [intOf]; omega
        · have hje : j = t.ps.length := by have := HKE.out; omega
          have e1 : mapTo (portF t.now rs) (dropped t) j = (dropped t).mapIdx (portF t.now rs) := mapTo_all (by rw [hlen, hje])
          rw [e1, hje] at hat
          have HAT := Lib.hid hat
          clear hat e1
          have hjk : ¬ (j : Int) < (k : Int) := by omega
          have HJE := Lib.hid hje
          clear hje
          go_wp2
          go_end0
          refine ⟨rfl, ?_, HK4.out.trans hkp⟩
          have h := HAT.out
          rw [← HRS.out, ← HST.out] at h
          exact h
end Rstp
end Go.Proofs.Ytlfoaefilonidaa
