/-
  The walks of the document's New, Link, Hear (siphonref15).
-/
import Derived.Test.YtlfoaefilonidaaRstpRight
namespace Go.Proofs.Ytlfoaefilonidaa
set_option linter.unusedVariables false
set_option linter.unusedSimpArgs false
open Go.RowKit
namespace Rstp
open Go.Proofs.Ytlfoaefilonidaa.Prio
theorem rlink_no (w : World) (g gp cap : Nat) (t : Tr) (i : Int) (up : Bool) (now : Int) (h : RAt w g gp cap t) (hl : t.ps.length ≤ 16) (hp : okT t i now = false) :
    Calls Try.prog 30 #[.pointer (some ⟨g, 0, none⟩), .int .i64 i, .bool up, .int .i64 now] w (Gone (.tuple #[]) g gp cap t w) := by
  go_enter Try.func30, Try.ntmps30
  go_wp2_with (go_at_call 39; refine (rgoes_no _ g gp cap t i now h hl hp).mono ?_; rintro e w' ⟨rfl, rfl⟩)
  go_end0
  exact ⟨rfl, h, Keep.refl _ _⟩
theorem rlink_yes (w : World) (g gp cap : Nat) (t : Tr) (k : Nat) (p : Pt) (up : Bool) (now : Int) (h : RAt w g gp cap t) (hw : Wf t) (hok : okT t k now = true) (hp : t.ps[k]? = some p) :
    Calls Try.prog 30 #[.pointer (some ⟨g, 0, none⟩), .int .i64 k, .bool up, .int .i64 now] w (Gone (.tuple #[]) g gp cap (linkT t k p up now) w) := by
  have hl := hw.l1
  obtain ⟨h1, h2, _, _⟩ := okT_iff.1 hok
  have hkl := (List.getElem?_eq_some_iff.1 hp).1
  have hkl' : (k : Int) < (t.ps.length : Int) := by omega
  have hw1 : Wf { nowT t now with ps := t.ps.set k (linkP up p) } := (hw.now h2).set_ k (((hw.at_ hp).mono (show t.now ≤ max t.now now by omega)).link up) (hw.now h2).c0 (hw.now h2).c1
  have hst : ∀ w', RAt w' g gp cap { nowT t now with ps := t.ps.set k (linkP up p) } → Keep [g, gp] w w' → Calls Try.prog 40 #[.pointer (some ⟨g, 0, none⟩)] w' (Gone (.tuple #[]) g gp cap (linkT t k p up now) w) := fun w' ha hk => (right_ w' g gp cap _ ha hw1).mono fun _ _ ⟨e1, e2, e3⟩ => ⟨e1, e2, hk.trans e3⟩
  have HST := Lib.hid hst
  clear hst
  go_enter Try.func30, Try.ntmps30
  go_wp2_with fail
  refine (rgoes_yes _ g gp cap t k now h hl hok).mono ?_
  rintro e w1 ⟨rfl, hat, hkp⟩
  have hp1 : (nowT t now).ps[k]? = some p := hp
  have c1 : w1.cell? ⟨g, 1, none⟩ = some (.slice (some ⟨gp, 0, none⟩) t.ps.length cap) := hat.tree.2.1
  have e1 : w1.cell? ⟨gp, k * 12 + 1, none⟩ = some (.bool p.up) := hat.port hp1 rfl
  have e2 : w1.cell? ⟨gp, k * 12 + 2, none⟩ = some (.bool p.keeps) := hat.port hp1 rfl
  have f1 := hat.portF (k * 12 + 1)
  have f2 := hat.portF (k * 12 + 2)
  have hne := hat.ne
  have q1 := hat.put hp1 { p with up := up } 1 (.bool up) (by omega) rfl
  have q2 := q1.again rfl hp1 { p with up := up, keeps := false } 2 (.bool false) (by omega) rfl
  have Q1 := Lib.hid q1
  have Q2 := Lib.hid q2
  have HKP := Lib.hid hkp
  clear q1 q2 hat hkp hp1 h
  cases hu : up
  · have E := Lib.hid (show linkP up p = { p with up := up, keeps := false } by simp [linkP, hu])
    rw [hu] at E Q1 Q2 HST
    go_wp2_with (go_at_call 40; refine (HST.out _ (by rw [E.out]; exact Q2.out) ((HKP.out.set_ (.inl (by simp)) _).set_ (.inl (by simp)) _)).mono ?_; rintro e w' ⟨rfl, hat, hkp⟩)
    go_end0
    exact ⟨rfl, by rw [hu]; exact hat, hkp⟩
  · have E := Lib.hid (show linkP up p = { p with up := up } by simp [linkP, hu])
    rw [hu] at E Q1 Q2 HST
    go_wp2_with (go_at_call 40; refine (HST.out _ (by rw [E.out]; exact Q1.out) (HKP.out.set_ (.inl (by simp)) _)).mono ?_; rintro e w' ⟨rfl, hat, hkp⟩)
    go_end0
    exact ⟨rfl, by rw [hu]; exact hat, hkp⟩
theorem rlink_ (w : World) (g gp cap : Nat) (t : Tr) (i : Int) (up : Bool) (now : Int) (h : RAt w g gp cap t) (hw : Wf t) :
    Calls Try.prog 30 #[.pointer (some ⟨g, 0, none⟩), .int .i64 i, .bool up, .int .i64 now] w (Gone (.tuple #[]) g gp cap (opLink t i up now) w) := by
  cases hok : okT t i now
  · rw [opLink_no hok]
    exact rlink_no w g gp cap t i up now h hw.l1 hok
  · obtain ⟨k, p, rfl, _, hp⟩ := ok_at hok
    rw [opLink_yes hok hp]
    exact rlink_yes w g gp cap t k p up now h hw hok hp
theorem rhear_no (w : World) (g gp cap : Nat) (t : Tr) (i : Int) (b : Bp) (now : Int) (h : RAt w g gp cap t) (hl : t.ps.length ≤ 16) (hok : okT t i now = false) :
    Calls Try.prog 31 #[.pointer (some ⟨g, 0, none⟩), .int .i64 i, .agg #[.int .u64 b.v.root, .int .i64 b.v.cost, .int .u64 b.v.bridge, .int .i64 b.v.port, .int .i64 b.age, .bool b.chg, .bool b.lrn, .bool b.kf], .int .i64 now] w (Gone (.tuple #[]) g gp cap t w) := by
  obtain ⟨c0, c1, c2, c3, c4⟩ := (h.alloc (.cells #[.int .u64 b.v.root, .int .i64 b.v.cost, .int .u64 b.v.bridge, .int .i64 b.v.port, .int .i64 b.age, .bool b.chg, .bool b.lrn, .bool b.kf] 37)).tree
  rcases ok_no hok with h1 | ⟨h1, h2⟩ | ⟨h1, h2, h3⟩ | ⟨h1, h2, h3, h4⟩
  case inl =>
    clear hok
    go_enter Try.func31, Try.ntmps31
    go_wp2_with (go_at_call 41; refine (rtime_no _ now (.inl h1)).mono ?_; rintro e w' ⟨rfl, rfl⟩)
    go_end0
    exact ⟨rfl, h.alloc _, (Keep.refl _ _).alloc _⟩
  case inr.inl =>
    clear hok
    go_enter Try.func31, Try.ntmps31
    go_wp2_with (go_at_call 41; refine (rtime_no _ now (.inr ⟨h1, h2⟩)).mono ?_; rintro e w' ⟨rfl, rfl⟩)
    go_end0
    exact ⟨rfl, h.alloc _, (Keep.refl _ _).alloc _⟩
  all_goals
    clear hok
    go_enter Try.func31, Try.ntmps31
    go_wp2_with (go_at_call 41; refine (rtime_yes _ now h1 h2).mono ?_; rintro e w' ⟨rfl, rfl⟩)
    go_end0
    exact ⟨rfl, h.alloc _, (Keep.refl _ _).alloc _⟩
theorem rhear_down (w : World) (g gp cap : Nat) (t : Tr) (k : Nat) (p : Pt) (b : Bp) (now : Int) (h : RAt w g gp cap t) (hl : t.ps.length ≤ 16) (hok : okT t k now = true) (hp : t.ps[k]? = some p) (hu : p.up = false) :
    Calls Try.prog 31 #[.pointer (some ⟨g, 0, none⟩), .int .i64 k, .agg #[.int .u64 b.v.root, .int .i64 b.v.cost, .int .u64 b.v.bridge, .int .i64 b.v.port, .int .i64 b.age, .bool b.chg, .bool b.lrn, .bool b.kf], .int .i64 now] w (Gone (.tuple #[]) g gp cap t w) := by
  obtain ⟨c0, c1, c2, c3, c4⟩ := (h.alloc (.cells #[.int .u64 b.v.root, .int .i64 b.v.cost, .int .u64 b.v.bridge, .int .i64 b.v.port, .int .i64 b.age, .bool b.chg, .bool b.lrn, .bool b.kf] 37)).tree
  have e1 : (w.alloc (.cells #[.int .u64 b.v.root, .int .i64 b.v.cost, .int .u64 b.v.bridge, .int .i64 b.v.port, .int .i64 b.age, .bool b.chg, .bool b.lrn, .bool b.kf] 37)).cell? ⟨gp, k * 12 + 1, none⟩ = some (.bool p.up) := (h.alloc _).port hp rfl
  rw [hu] at e1
  obtain ⟨h1, h2, h3, h4⟩ := okT_iff.1 hok
  clear hok
  go_enter Try.func31, Try.ntmps31
  go_wp2_with (go_at_call 41; refine (rtime_yes _ now h1 h2).mono ?_; rintro e w' ⟨rfl, rfl⟩)
  go_end0
  exact ⟨rfl, h.alloc _, (Keep.refl _ _).alloc _⟩
theorem again_sym (q : Pt) (b : Bp) : again q b = ((b.v.bridge == q.v.bridge) && (b.v.port == q.v.port)) := by
  unfold again
  rw [Bool.beq_comm (a := q.v.bridge), Bool.beq_comm (a := q.v.port)]
theorem RAt.kept {w : World} {g gp cap : Nat} {t : Tr} (h : RAt w g gp cap t) {k : Nat} {q : Pt} (hq : t.ps[k]? = some q) (b : Bp) : RAt (((((((w.setCell ⟨gp, k * 12 + 2, none⟩ (.bool true)).setCell ⟨gp, k * 12 + 3, none⟩ (.int .u64 b.v.root)).setCell ⟨gp, k * 12 + 3 + 1, none⟩ (.int .i64 b.v.cost)).setCell ⟨gp, k * 12 + 3 + 2, none⟩ (.int .u64 b.v.bridge)).setCell ⟨gp, k * 12 + 3 + 3, none⟩ (.int .i64 b.v.port)).setCell ⟨gp, k * 12 + 7, none⟩ (.int .i64 b.age)).setCell ⟨gp, k * 12 + 8, none⟩ (.int .i64 t.now)) g gp cap { t with ps := t.ps.set k (keepP t.now b q) } := by
  have h0 := h.put hq { q with keeps := true } 2 (.bool true) (by omega) rfl
  have h1 := h0.again (k := k) rfl hq { q with keeps := true, v := ⟨b.v.root, q.v.cost, q.v.bridge, q.v.port⟩ } 3 (.int .u64 b.v.root) (by omega) rfl
  have h2 := h1.again (k := k) rfl hq { q with keeps := true, v := ⟨b.v.root, b.v.cost, q.v.bridge, q.v.port⟩ } 4 (.int .i64 b.v.cost) (by omega) rfl
  have h3 := h2.again (k := k) rfl hq { q with keeps := true, v := ⟨b.v.root, b.v.cost, b.v.bridge, q.v.port⟩ } 5 (.int .u64 b.v.bridge) (by omega) rfl
  have h4 := h3.again (k := k) rfl hq { q with keeps := true, v := b.v } 6 (.int .i64 b.v.port) (by omega) rfl
  have h5 := h4.again (k := k) rfl hq { q with keeps := true, v := b.v, age := b.age } 7 (.int .i64 b.age) (by omega) rfl
  have h6 := h5.again (k := k) rfl hq (keepP t.now b q) 8 (.int .i64 t.now) (by omega) rfl
  exact h6
theorem rkept_keep {w w0 : World} {g gp : Nat} (hk : Keep [g, gp] w0 w) {k : Nat} {b : Bp} {t : Tr} : Keep [g, gp] w0 (((((((w.setCell ⟨gp, k * 12 + 2, none⟩ (.bool true)).setCell ⟨gp, k * 12 + 3, none⟩ (.int .u64 b.v.root)).setCell ⟨gp, k * 12 + 3 + 1, none⟩ (.int .i64 b.v.cost)).setCell ⟨gp, k * 12 + 3 + 2, none⟩ (.int .u64 b.v.bridge)).setCell ⟨gp, k * 12 + 3 + 3, none⟩ (.int .i64 b.v.port)).setCell ⟨gp, k * 12 + 7, none⟩ (.int .i64 b.age)).setCell ⟨gp, k * 12 + 8, none⟩ (.int .i64 t.now)) :=
  ((((((hk.set_ (.inl (by simp)) _).set_ (.inl (by simp)) _).set_ (.inl (by simp)) _).set_ (.inl (by simp)) _).set_ (.inl (by simp)) _).set_ (.inl (by simp)) _).set_ (.inl (by simp)) _
theorem rkept_blk {w : World} {gb gp : Nat} {T : TypeId} {cs : Array Value} (h : Blk w gb T cs) (hne : gb ≠ gp) {k : Nat} {b : Bp} {t : Tr} : Blk (((((((w.setCell ⟨gp, k * 12 + 2, none⟩ (.bool true)).setCell ⟨gp, k * 12 + 3, none⟩ (.int .u64 b.v.root)).setCell ⟨gp, k * 12 + 3 + 1, none⟩ (.int .i64 b.v.cost)).setCell ⟨gp, k * 12 + 3 + 2, none⟩ (.int .u64 b.v.bridge)).setCell ⟨gp, k * 12 + 3 + 3, none⟩ (.int .i64 b.v.port)).setCell ⟨gp, k * 12 + 7, none⟩ (.int .i64 b.age)).setCell ⟨gp, k * 12 + 8, none⟩ (.int .i64 t.now)) gb T cs :=
  ((((((h.far hne _).far hne _).far hne _).far hne _).far hne _).far hne _).far hne _
set_option maxRecDepth 100000 in
set_option maxHeartbeats 4000000 in
theorem rhear_yes (w : World) (g gp cap : Nat) (t : Tr) (k : Nat) (p : Pt) (b : Bp) (now : Int) (h : RAt w g gp cap t) (hw : Wf t) (hok : okT t k now = true) (hp : t.ps[k]? = some p) (hu : p.up = true) (hb : -9223372036854775808 ≤ b.age ∧ b.age ≤ 9223372036854775807) :
    Calls Try.prog 31 #[.pointer (some ⟨g, 0, none⟩), .int .i64 k, .agg #[.int .u64 b.v.root, .int .i64 b.v.cost, .int .u64 b.v.bridge, .int .i64 b.v.port, .int .i64 b.age, .bool b.chg, .bool b.lrn, .bool b.kf], .int .i64 now] w (Gone (.tuple #[]) g gp cap (hearT t k p b now) w) := by
  obtain ⟨c0, c1, c2, c3, c4⟩ := (h.alloc (.cells #[.int .u64 b.v.root, .int .i64 b.v.cost, .int .u64 b.v.bridge, .int .i64 b.v.port, .int .i64 b.age, .bool b.chg, .bool b.lrn, .bool b.kf] 37)).tree
  have e1 : (w.alloc (.cells #[.int .u64 b.v.root, .int .i64 b.v.cost, .int .u64 b.v.bridge, .int .i64 b.v.port, .int .i64 b.age, .bool b.chg, .bool b.lrn, .bool b.kf] 37)).cell? ⟨gp, k * 12 + 1, none⟩ = some (.bool p.up) := (h.alloc _).port hp rfl
  rw [hu] at e1
  obtain ⟨hlg, hlp⟩ := h.lt
  have hl := hw.l1
  obtain ⟨h1, h2, h3, h4⟩ := okT_iff.1 hok
  have hwn : Wf (nowT t now) := hw.now h2
  have hw1 : Wf (dropT (nowT t now)) := hwn.dropT
  have hq : (dropT (nowT t now)).ps[k]? = some (dropP (max t.now now) p) := by simp [dropT, dropped, nowT, hp]
  have hlen : (dropT (nowT t now)).ps.length = t.ps.length := by simp [dropT, dropped, nowT]
  have hfin : settleT (heardT1 (dropT (nowT t now)) k (dropP (max t.now now) p) b) = hearT t k p b now := rfl
  have HFIN := Lib.hid hfin
  have HQ := Lib.hid hq
  have HBOX := Lib.hid (Blk.new w 37 #[.int .u64 b.v.root, .int .i64 b.v.cost, .int .u64 b.v.bridge, .int .i64 b.v.port, .int .i64 b.age, .bool b.chg, .bool b.lrn, .bool b.kf])
  have H := Lib.hid (h.alloc (.cells #[.int .u64 b.v.root, .int .i64 b.v.cost, .int .u64 b.v.bridge, .int .i64 b.v.port, .int .i64 b.age, .bool b.chg, .bool b.lrn, .bool b.kf] 37))
  have HOK := Lib.hid hok
  clear hq hfin hp h hok
  have hnx : w.heap.size ∉ [g, gp] := by simp; omega
  have HNX := Lib.hid hnx
  clear hnx
  go_enter Try.func31, Try.ntmps31
  go_wp2_with (go_at_call 41; refine (rtime_yes _ now h1 h2).mono ?_; rintro e w' ⟨rfl, rfl⟩)
  refine (rgoes_yes _ g gp cap t k now H.out hl HOK.out).mono ?_
  rintro e w1 ⟨rfl, hat1, hk1⟩
  have HBOX1 := Lib.hid (hk1.blk HBOX.out HNX.out)
  have HK1 := Lib.hid (((Keep.refl [g, gp] w).alloc _).trans hk1)
  clear c0 c1 c2 c3 c4 e1 hk1 H HBOX
  go_wp2_with fail
  refine (rdrop_ _ g gp cap _ hat1 hwn).mono ?_
  rintro e w2 ⟨rfl, hat2, hk2⟩
  have hbox2 := hk2.blk HBOX1.out HNX.out
  have HK2 := Lib.hid (HK1.out.trans hk2)
  generalize dropT (nowT t now) = t1 at *
  generalize dropP (max t.now now) p = q at *
  obtain ⟨b0, b1, b2, b3, b4, b5, b6, b7⟩ := bp_cells hbox2
  have c1 : w2.cell? ⟨g, 1, none⟩ = some (.slice (some ⟨gp, 0, none⟩) t.ps.length cap) := by rw [← hlen]; exact hat2.tree.2.1
  obtain ⟨_, _, e2, e3, e4, e5, e6, _⟩ := cellsQ_at hat2 HQ.out
  have e4' : w2.cell? ⟨gp, k * 12 + 3 + 1, none⟩ = some (.int .i64 q.v.cost) := e4
  have e5' : w2.cell? ⟨gp, k * 12 + 3 + 2, none⟩ = some (.int .u64 q.v.bridge) := e5
  have e6' : w2.cell? ⟨gp, k * 12 + 3 + 3, none⟩ = some (.int .i64 q.v.port) := e6
  have HBOX2 := Lib.hid hbox2
  have HAT2 := Lib.hid hat2
  have hlt2 := hbox2.lt
  have hglt2 := hat2.lt
  clear hat1 hk2 hbox2 hat2 HBOX1 HK1 e4 e5 e6 hlen
  go_upto_region 5 with fail
  go_cut [9] (fun s9 wx => s9 = .bool (again q b) ∧ ∃ n, wx = w2.drewN n)
  case first =>
    cases ha : (b.v.bridge == q.v.bridge)
    · have E := Lib.hid (show again q b = false by simp [again_sym, ha])
      go_quiet (fail)
      go_wp2_with fail
      go_meet
      exact ⟨by rw [E.out], _, rfl⟩
    · have E := Lib.hid (show again q b = (b.v.port == q.v.port) by simp [again_sym, ha])
      go_quiet (fail)
      go_wp2_with fail
      go_meet
      exact ⟨by rw [E.out], _, rfl⟩
  case rest =>
    obtain ⟨rfl, n2, rfl⟩ := hcut
    generalize hag : again q b = ag at *
    have HAG := Lib.hid hag
    clear hag
    go_upto_region 6 with fail
    go_cut [86] (fun s86 wx => s86 = .bool (takes q b) ∧ Below w2.heap.size w2 wx)
    case first =>
      cases hkeeps : q.keeps
      · have E := Lib.hid (show takes q b = true by simp [takes, hkeeps])
        rw [hkeeps] at e2
        go_quiet (fail)
        go_wp2_with fail
        go_meet
        exact ⟨by rw [E.out], below_drewN (below_drewN (Below.refl w2.heap.size w2) n2) _⟩
      · rw [hkeeps] at e2
        cases ag
        · have E := Lib.hid (show takes q b = decide (cmpV b.v q.v ≤ 0) by simp [takes, hkeeps, HAG.out])
          refine region_tail 15 (by kernel_rfl) (by kernel_rfl) ?_
          simp only [List.take_succ_cons, List.take_zero, List.drop_succ_cons, List.drop_zero]
          refine SW.un ?_
          (refine SW.want (by kernel_rfl) (fun K hK => ?_); have HK := Lib.hid hK; clear hK; go_simp; refine SW.on HK ?_; clear HK K)
          (refine SW.want (by kernel_rfl) (fun K hK => ?_); have HK := Lib.hid hK; clear hK; go_simp; refine SW.on HK ?_; clear HK K)
          (refine SW.want (by kernel_rfl) (fun K hK => ?_); have HK := Lib.hid hK; clear hK; go_simp; refine SW.on HK ?_; clear HK K)
          (refine SW.want (by kernel_rfl) (fun K hK => ?_); have HK := Lib.hid hK; clear hK; go_simp; refine SW.on HK ?_; clear HK K)
          (refine SW.want (by kernel_rfl) (fun K hK => ?_); have HK := Lib.hid hK; clear hK; go_simp; refine SW.on HK ?_; clear HK K)
          (refine SW.want (by kernel_rfl) (fun K hK => ?_); have HK := Lib.hid hK; clear hK; go_simp; refine SW.on HK ?_; clear HK K)
          (refine SW.want (by kernel_rfl) (fun K hK => ?_); have HK := Lib.hid hK; clear hK; go_simp; refine SW.on HK ?_; clear HK K)
          (refine SW.want (by kernel_rfl) (fun K hK => ?_); have HK := Lib.hid hK; clear hK; go_simp; refine SW.on HK ?_; clear HK K)
          (refine SW.want (by kernel_rfl) (fun K hK => ?_); have HK := Lib.hid hK; clear hK; go_simp; refine SW.on HK ?_; clear HK K)
          (refine SW.want (by kernel_rfl) (fun K hK => ?_); have HK := Lib.hid hK; clear hK; go_simp; refine SW.on HK ?_; clear HK K)
          (refine SW.want (by kernel_rfl) (fun K hK => ?_); have HK := Lib.hid hK; clear hK; go_simp; refine SW.on HK ?_; clear HK K)
          (refine SW.want (by kernel_rfl) (fun K hK => ?_); have HK := Lib.hid hK; clear hK; go_simp; refine SW.on HK ?_; clear HK K)
          (refine SW.want (by kernel_rfl) (fun K hK => ?_); have HK := Lib.hid hK; clear hK; go_simp; refine SW.on HK ?_; clear HK K)
          (refine SW.want (by kernel_rfl) (fun K hK => ?_); have HK := Lib.hid hK; clear hK; go_simp; refine SW.on HK ?_; clear HK K)
          (refine SW.want (by kernel_rfl) (fun K hK => ?_); have HK := Lib.hid hK; clear hK; go_simp; refine SW.on HK ?_; clear HK K)
          refine SW.nil ?_
          go_wp2_with fail
          refine (rcmp_ b.v q.v _).mono ?_
          rintro e w4 ⟨rfl, hb4⟩
          go_wp2_with fail
          go_meet
          exact ⟨by rw [E.out], (below_drewN (Below.refl w2.heap.size w2) n2).drew.trans hb4⟩
        · have E := Lib.hid (show takes q b = true by simp [takes, hkeeps, HAG.out])
          go_quiet (fail)
          go_wp2_with fail
          go_meet
          exact ⟨by rw [E.out], below_drewN (below_drewN (Below.refl w2.heap.size w2) n2) _⟩
    case rest =>
      obtain ⟨rfl, hbx⟩ := hcut
      have hat3 := HAT2.out.below hbx
      have hk3 : Keep [g, gp] w wc := HK2.out.trans (Keep.of_below hbx _)
      have hbox3 := HBOX2.out.below hbx hlt2
      clear b0 b1 b2 b3 b4 b5 b6 b7 e2 e3 e4' e5' e6' c1 hbx HAT2 HK2 HBOX2
      cases htk : takes q b
      · have hs1 : heardT1 t1 k q b = t1 := by simp [heardT1, htk]
        have hst : Calls Try.prog 40 #[.pointer (some ⟨g, 0, none⟩)] wc (Gone (.tuple #[]) g gp cap (hearT t k p b now) w) := by
          rw [← HFIN.out, hs1]
          exact (right_ wc g gp cap t1 hat3 hw1).mono fun _ _ ⟨e1, e2, e3⟩ => ⟨e1, e2, hk3.trans e3⟩
        have HST := Lib.hid hst
        clear hst hs1 hat3 hk3 hbox3
        go_wp2_with fail
        refine HST.out.mono ?_
        rintro e w5 ⟨rfl, hat5, hk5⟩
        go_wp2
        go_end0
        exact ⟨rfl, hat5, hk5⟩
      · obtain ⟨b0, b1, b2, b3, b4, b5, b6, b7⟩ := bp_cells hbox3
        have c2 : wc.cell? ⟨g, 2, none⟩ = some (.int .i64 t1.now) := hat3.tree.2.2.1
        obtain ⟨_, _, e2, e3, e4, e5, e6, e7, e8, _⟩ := cellsQ_at hat3 HQ.out
        have e4' : wc.cell? ⟨gp, k * 12 + 3 + 1, none⟩ = some (.int .i64 q.v.cost) := e4
        have e5' : wc.cell? ⟨gp, k * 12 + 3 + 2, none⟩ = some (.int .u64 q.v.bridge) := e5
        have e6' : wc.cell? ⟨gp, k * 12 + 3 + 3, none⟩ = some (.int .i64 q.v.port) := e6
        have f2 := hat3.portF (k * 12 + 2)
        have f3 := hat3.portF (k * 12 + 3)
        have f4 := hat3.portF (k * 12 + 3 + 1)
        have f5 := hat3.portF (k * 12 + 3 + 2)
        have f6 := hat3.portF (k * 12 + 3 + 3)
        have f7 := hat3.portF (k * 12 + 7)
        have f8 := hat3.portF (k * 12 + 8)
        have hne1 : w.heap.size ≠ gp := by omega
        have hne2 := hat3.ne
        have HAT3 := Lib.hid hat3
        have HK3 := Lib.hid hk3
        have HB3 := Lib.hid hbox3
        clear hat3 hk3 hbox3 e4 e5 e6
        go_upto_region 11 with fail
        have hat5 := HAT3.out.kept HQ.out b
        have hk5 := rkept_keep HK3.out (k := k) (b := b) (t := t1)
        have hbox5 := rkept_blk HB3.out hne1 (k := k) (b := b) (t := t1)
        clear b0 b1 b2 b3 b4 b5 b6 b7 c2 e2 e3 e4' e5' e6' e7 e8 f2 f3 f4 f5 f6 f7 f8 HAT3 HK3 HB3
        generalize (((((((wc.setCell ⟨gp, k * 12 + 2, none⟩ (.bool true)).setCell ⟨gp, k * 12 + 3, none⟩ (.int .u64 b.v.root)).setCell ⟨gp, k * 12 + 3 + 1, none⟩ (.int .i64 b.v.cost)).setCell ⟨gp, k * 12 + 3 + 2, none⟩ (.int .u64 b.v.bridge)).setCell ⟨gp, k * 12 + 3 + 3, none⟩ (.int .i64 b.v.port)).setCell ⟨gp, k * 12 + 7, none⟩ (.int .i64 b.age)).setCell ⟨gp, k * 12 + 8, none⟩ (.int .i64 t1.now)) = w5 at *
        obtain ⟨b0, b1, b2, b3, b4, b5, b6, b7⟩ := bp_cells hbox5
        have c0 : w5.cell? ⟨g, 0, none⟩ = some (.int .u64 t1.bridge) := hat5.tree.1
        have c2 : w5.cell? ⟨g, 2, none⟩ = some (.int .i64 t1.now) := hat5.tree.2.2.1
        have c8 : w5.cell? ⟨g, 8, none⟩ = some (.int .i64 t1.change) := hat5.tree.2.2.2.2
        have f8 := hat5.treeF 8
        have hfin : ∀ w', RAt w' g gp cap (heardT1 t1 k q b) → Keep [g, gp] w w' → Calls Try.prog 40 #[.pointer (some ⟨g, 0, none⟩)] w' (Gone (.tuple #[]) g gp cap (hearT t k p b now) w) := fun w' ha hk => by
          rw [← HFIN.out]
          exact (right_ w' g gp cap _ ha (hw1.heard1 (hw1.at_ HQ.out) b hb)).mono fun _ _ ⟨e1, e2, e3⟩ => ⟨e1, e2, hk.trans e3⟩
        have HF := Lib.hid hfin
        have HAT5 := Lib.hid hat5
        have HK5 := Lib.hid hk5
        clear hfin hat5 hk5 hbox5
        cases hch : b.chg
        · have E := Lib.hid (show heardT1 t1 k q b = { t1 with ps := t1.ps.set k (keepP t1.now b q) } by simp [heardT1, htk, hch])
          rw [hch] at b5
          go_quiet (fail)
          go_wp2_with fail
          refine (HF.out _ (by rw [E.out]; exact HAT5.out.drewN _) (HK5.out.drewN _)).mono ?_
          rintro e w6 ⟨rfl, hat6, hk6⟩
          go_wp2
          go_end0
          exact ⟨rfl, hat6, hk6⟩
        · rw [hch] at b5
          cases hbr : (b.v.bridge != t1.bridge)
          · have E := Lib.hid (show heardT1 t1 k q b = { t1 with ps := t1.ps.set k (keepP t1.now b q) } by simp only [heardT1, htk, hch, hbr]; rfl)
            go_quiet (fail)
            go_wp2_with fail
            refine (HF.out _ (by rw [E.out]; exact HAT5.out.drewN _) (HK5.out.drewN _)).mono ?_
            rintro e w6 ⟨rfl, hat6, hk6⟩
            go_wp2
            go_end0
            exact ⟨rfl, hat6, hk6⟩
          · have E := Lib.hid (show heardT1 t1 k q b = { t1 with ps := t1.ps.set k (keepP t1.now b q), change := t1.now } by simp only [heardT1, htk, hch, hbr]; rfl)
            go_quiet (fail)
            go_wp2_with (go_at_call 40; refine (HF.out _ (by rw [E.out]; exact (HAT5.out.put_change _).drewN _) ((HK5.out.set_ (.inl (by simp)) _).drewN _)).mono ?_; rintro e w6 ⟨rfl, hat6, hk6⟩)
            go_end0
            exact ⟨rfl, hat6, hk6⟩
theorem rhear_ (w : World) (g gp cap : Nat) (t : Tr) (i : Int) (b : Bp) (now : Int) (h : RAt w g gp cap t) (hw : Wf t) (hb : -9223372036854775808 ≤ b.age ∧ b.age ≤ 9223372036854775807) :
    Calls Try.prog 31 #[.pointer (some ⟨g, 0, none⟩), .int .i64 i, .agg #[.int .u64 b.v.root, .int .i64 b.v.cost, .int .u64 b.v.bridge, .int .i64 b.v.port, .int .i64 b.age, .bool b.chg, .bool b.lrn, .bool b.kf], .int .i64 now] w (Gone (.tuple #[]) g gp cap (opHear t i b now) w) := by
  cases hok : okT t i now
  · rw [opHear_no hok]
    exact rhear_no w g gp cap t i b now h hw.l1 hok
  · obtain ⟨k, p, rfl, _, hp⟩ := ok_at hok
    cases hu : p.up
    · rw [opHear_down hok hp hu]
      exact rhear_down w g gp cap t k p b now h hw.l1 hok hp hu
    · rw [opHear_yes hok hp hu]
      exact rhear_yes w g gp cap t k p b now h hw hok hp hu hb
end Rstp
end Go.Proofs.Ytlfoaefilonidaa
