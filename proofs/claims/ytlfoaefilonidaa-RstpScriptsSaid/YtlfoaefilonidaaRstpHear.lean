/-
  The walk of (*rstp.Tree).Hear.
-/
import Derived.Test.YtlfoaefilonidaaRstpOps
namespace Go.Proofs.Ytlfoaefilonidaa
set_option linter.unusedVariables false
set_option linter.unusedSimpArgs false
open Go.RowKit
namespace Rstp
open Go.Proofs.Ytlfoaefilonidaa.Prio
def cellsB (b : Bp) : List Value := [.int .u64 b.v.root, .int .i64 b.v.cost, .int .u64 b.v.bridge, .int .i64 b.v.port, .int .i64 b.age, .bool b.chg, .bool b.lrn, .bool b.kf]
def aggB (b : Bp) : Value := .agg #[.int .u64 b.v.root, .int .i64 b.v.cost, .int .u64 b.v.bridge, .int .i64 b.v.port, .int .i64 b.age, .bool b.chg, .bool b.lrn, .bool b.kf]
theorem hear_no (w : World) (g gp cap : Nat) (t : Tr) (i : Int) (b : Bp) (now : Int) (h : At w g gp cap t) (hl : t.ps.length ≤ 16) (hp : okT t i now = false) :
    Calls Try.prog 17 #[.pointer (some ⟨g, 0, none⟩), .int .i64 i, .agg #[.int .u64 b.v.root, .int .i64 b.v.cost, .int .u64 b.v.bridge, .int .i64 b.v.port, .int .i64 b.age, .bool b.chg, .bool b.lrn, .bool b.kf], .int .i64 now] w (Did g gp cap t w) := by
  go_enter Try.func17, Try.ntmps17
  go_wp2_with (go_at_call 25; refine (at_no _ g gp cap t i now (h.alloc _) hl hp).mono ?_; rintro e w' ⟨rfl, rfl⟩)
  go_end0
  exact ⟨rfl, h.alloc _, (Keep.refl _ _).alloc _⟩
theorem hear_down (w : World) (g gp cap : Nat) (t : Tr) (k : Nat) (p : Pt) (b : Bp) (now : Int) (h : At w g gp cap t) (hl : t.ps.length ≤ 16) (hok : okT t k now = true) (hp : t.ps[k]? = some p) (hu : p.up = false) :
    Calls Try.prog 17 #[.pointer (some ⟨g, 0, none⟩), .int .i64 k, .agg #[.int .u64 b.v.root, .int .i64 b.v.cost, .int .u64 b.v.bridge, .int .i64 b.v.port, .int .i64 b.age, .bool b.chg, .bool b.lrn, .bool b.kf], .int .i64 now] w (Did g gp cap t w) := by
  have e3 : w.cell? ⟨gp, k * 15 + 3, none⟩ = some (.bool p.up) := h.port hp rfl
  rw [hu] at e3
  have hlt := h.lt.2
  go_enter Try.func17, Try.ntmps17
  go_wp2_with (go_at_call 25; refine (at_yes _ g gp cap t k now (h.alloc _) hl hok).mono ?_; rintro e w' ⟨rfl, rfl⟩)
  go_end0
  exact ⟨rfl, h.alloc _, (Keep.refl _ _).alloc _⟩
theorem bp_cells {w : World} {gb : Nat} {t : TypeId} {b : Bp} (h : Blk w gb t #[.int .u64 b.v.root, .int .i64 b.v.cost, .int .u64 b.v.bridge, .int .i64 b.v.port, .int .i64 b.age, .bool b.chg, .bool b.lrn, .bool b.kf]) :
    w.cell? ⟨gb, 0, none⟩ = some (.int .u64 b.v.root) ∧ w.cell? ⟨gb, 1, none⟩ = some (.int .i64 b.v.cost) ∧ w.cell? ⟨gb, 2, none⟩ = some (.int .u64 b.v.bridge) ∧ w.cell? ⟨gb, 3, none⟩ = some (.int .i64 b.v.port) ∧
    w.cell? ⟨gb, 4, none⟩ = some (.int .i64 b.age) ∧ w.cell? ⟨gb, 5, none⟩ = some (.bool b.chg) ∧ w.cell? ⟨gb, 6, none⟩ = some (.bool b.lrn) ∧ w.cell? ⟨gb, 7, none⟩ = some (.bool b.kf) :=
  ⟨h.cell 0, h.cell 1, h.cell 2, h.cell 3, h.cell 4, h.cell 5, h.cell 6, h.cell 7⟩
theorem At.kept {w : World} {g gp cap : Nat} {t : Tr} (h : At w g gp cap t) {k : Nat} {q : Pt} (hq : t.ps[k]? = some q) (b : Bp) : At ((((((((((w.setCell ⟨gp, k * 15 + 4, none⟩ (.bool true)).setCell ⟨gp, k * 15 + 6, none⟩ (.int .u64 b.v.root)).setCell ⟨gp, k * 15 + 6 + 1, none⟩ (.int .i64 b.v.cost)).setCell ⟨gp, k * 15 + 6 + 2, none⟩ (.int .u64 b.v.bridge)).setCell ⟨gp, k * 15 + 6 + 3, none⟩ (.int .i64 b.v.port)).setCell ⟨gp, k * 15 + 6 + 4, none⟩ (.int .i64 b.age)).setCell ⟨gp, k * 15 + 6 + 5, none⟩ (.bool b.chg)).setCell ⟨gp, k * 15 + 6 + 6, none⟩ (.bool b.lrn)).setCell ⟨gp, k * 15 + 6 + 7, none⟩ (.bool b.kf)).setCell ⟨gp, k * 15 + 14, none⟩ (.int .i64 t.now)) g gp cap { t with ps := t.ps.set k (keepP t.now b q) } := by
  have h0 := h.put hq { q with keeps := true } 4 (.bool true) (by omega) rfl
  have h1 := h0.again (k := k) rfl hq { q with keeps := true, v := ⟨b.v.root, q.v.cost, q.v.bridge, q.v.port⟩ } 6 (.int .u64 b.v.root) (by omega) rfl
  have h2 := h1.again (k := k) rfl hq { q with keeps := true, v := ⟨b.v.root, b.v.cost, q.v.bridge, q.v.port⟩ } 7 (.int .i64 b.v.cost) (by omega) rfl
  have h3 := h2.again (k := k) rfl hq { q with keeps := true, v := ⟨b.v.root, b.v.cost, b.v.bridge, q.v.port⟩ } 8 (.int .u64 b.v.bridge) (by omega) rfl
  have h4 := h3.again (k := k) rfl hq { q with keeps := true, v := b.v } 9 (.int .i64 b.v.port) (by omega) rfl
  have h5 := h4.again (k := k) rfl hq { q with keeps := true, v := b.v, age := b.age } 10 (.int .i64 b.age) (by omega) rfl
  have h6 := h5.again (k := k) rfl hq { q with keeps := true, v := b.v, age := b.age, chg := b.chg } 11 (.bool b.chg) (by omega) rfl
  have h7 := h6.again (k := k) rfl hq { q with keeps := true, v := b.v, age := b.age, chg := b.chg, lrn := b.lrn } 12 (.bool b.lrn) (by omega) rfl
  have h8 := h7.again (k := k) rfl hq { q with keeps := true, v := b.v, age := b.age, chg := b.chg, lrn := b.lrn, kf := b.kf } 13 (.bool b.kf) (by omega) rfl
  have h9 := h8.again (k := k) rfl hq (keepP t.now b q) 14 (.int .i64 t.now) (by omega) rfl
  exact h9
theorem kept_keep {w w0 : World} {g gp : Nat} (hk : Keep [g, gp] w0 w) {k : Nat} {b : Bp} {t : Tr} : Keep [g, gp] w0 ((((((((((w.setCell ⟨gp, k * 15 + 4, none⟩ (.bool true)).setCell ⟨gp, k * 15 + 6, none⟩ (.int .u64 b.v.root)).setCell ⟨gp, k * 15 + 6 + 1, none⟩ (.int .i64 b.v.cost)).setCell ⟨gp, k * 15 + 6 + 2, none⟩ (.int .u64 b.v.bridge)).setCell ⟨gp, k * 15 + 6 + 3, none⟩ (.int .i64 b.v.port)).setCell ⟨gp, k * 15 + 6 + 4, none⟩ (.int .i64 b.age)).setCell ⟨gp, k * 15 + 6 + 5, none⟩ (.bool b.chg)).setCell ⟨gp, k * 15 + 6 + 6, none⟩ (.bool b.lrn)).setCell ⟨gp, k * 15 + 6 + 7, none⟩ (.bool b.kf)).setCell ⟨gp, k * 15 + 14, none⟩ (.int .i64 t.now)) :=
  ((((((((((hk.set_ (.inl (by simp)) _).set_ (.inl (by simp)) _).set_ (.inl (by simp)) _).set_ (.inl (by simp)) _).set_ (.inl (by simp)) _).set_ (.inl (by simp)) _).set_ (.inl (by simp)) _).set_ (.inl (by simp)) _).set_ (.inl (by simp)) _).set_ (.inl (by simp)) _)
theorem kept_blk {w : World} {gb gp : Nat} {T : TypeId} {cs : Array Value} (h : Blk w gb T cs) (hne : gb ≠ gp) {k : Nat} {b : Bp} {t : Tr} : Blk ((((((((((w.setCell ⟨gp, k * 15 + 4, none⟩ (.bool true)).setCell ⟨gp, k * 15 + 6, none⟩ (.int .u64 b.v.root)).setCell ⟨gp, k * 15 + 6 + 1, none⟩ (.int .i64 b.v.cost)).setCell ⟨gp, k * 15 + 6 + 2, none⟩ (.int .u64 b.v.bridge)).setCell ⟨gp, k * 15 + 6 + 3, none⟩ (.int .i64 b.v.port)).setCell ⟨gp, k * 15 + 6 + 4, none⟩ (.int .i64 b.age)).setCell ⟨gp, k * 15 + 6 + 5, none⟩ (.bool b.chg)).setCell ⟨gp, k * 15 + 6 + 6, none⟩ (.bool b.lrn)).setCell ⟨gp, k * 15 + 6 + 7, none⟩ (.bool b.kf)).setCell ⟨gp, k * 15 + 14, none⟩ (.int .i64 t.now)) gb T cs :=
  ((((((((((h.far hne _).far hne _).far hne _).far hne _).far hne _).far hne _).far hne _).far hne _).far hne _).far hne _)
set_option maxRecDepth 100000 in
set_option maxHeartbeats 4000000 in
theorem hear_ (w : World) (g gp cap : Nat) (t : Tr) (k : Nat) (p : Pt) (b : Bp) (now : Int) (h : At w g gp cap t) (hw : Wf t) (hok : okT t k now = true) (hp : t.ps[k]? = some p) (hu : p.up = true) (hb : -9223372036854775808 ≤ b.age ∧ b.age ≤ 9223372036854775807) :
    Calls Try.prog 17 #[.pointer (some ⟨g, 0, none⟩), .int .i64 k, .agg #[.int .u64 b.v.root, .int .i64 b.v.cost, .int .u64 b.v.bridge, .int .i64 b.v.port, .int .i64 b.age, .bool b.chg, .bool b.lrn, .bool b.kf], .int .i64 now] w (Did g gp cap (hearT t k p b now) w) := by
  have e3 : w.cell? ⟨gp, k * 15 + 3, none⟩ = some (.bool p.up) := h.port hp rfl
  rw [hu] at e3
  have c2 := h.tree.2.2.1
  have f2 := h.treeF 2
  obtain ⟨hlg, hlp⟩ := h.lt
  have hl := hw.l1
  obtain ⟨h1, h2, _, _⟩ := okT_iff.1 hok
  have hwn : Wf (nowT t now) := hw.now h2
  have hw1 : Wf (dropT (nowT t now)) := hwn.dropT
  have hq : (dropT (nowT t now)).ps[k]? = some (dropP (max t.now now) p) := by simp [dropT, dropped, nowT, hp]
  have hput : ∀ v : Int, v = max t.now now → ∀ o, At ((w.setCell ⟨g, 2, none⟩ (.int .i64 v)).alloc o) g gp cap (nowT t now) := fun v hv o => by
    subst hv
    exact (h.put_now (max t.now now)).alloc o
  have hfin : settleT (heardT1 (dropT (nowT t now)) k (dropP (max t.now now) p) b) = hearT t k p b now := rfl
  have HFIN := Lib.hid hfin
  have HPUT := Lib.hid hput
  have HQ := Lib.hid hq
  clear hput hq hfin hp
  generalize htn : nowT t now = tn at *
  have HTN := Lib.hid htn
  clear htn
  have hd : ∀ w', At w' g gp cap tn → Calls Try.prog 27 #[.pointer (some ⟨g, 0, none⟩)] w' fun e w'' => e = .returned (.tuple #[]) ∧ At w'' g gp cap (dropT tn) ∧ Keep [gp] w' w'' := fun w' ha => drop_ w' g gp cap tn ha hwn
  have HD := Lib.hid hd
  clear hd
  have hbox : ∀ v, Blk ((w.setCell ⟨g, 2, none⟩ v).alloc (.cells #[.int .u64 b.v.root, .int .i64 b.v.cost, .int .u64 b.v.bridge, .int .i64 b.v.port, .int .i64 b.age, .bool b.chg, .bool b.lrn, .bool b.kf] 37)) w.heap.size 37 #[.int .u64 b.v.root, .int .i64 b.v.cost, .int .u64 b.v.bridge, .int .i64 b.v.port, .int .i64 b.age, .bool b.chg, .bool b.lrn, .bool b.kf] := fun v => by
    have h := Blk.new (w.setCell ⟨g, 2, none⟩ v) 37 #[.int .u64 b.v.root, .int .i64 b.v.cost, .int .u64 b.v.bridge, .int .i64 b.v.port, .int .i64 b.age, .bool b.chg, .bool b.lrn, .bool b.kf]
    rw [show (w.setCell ⟨g, 2, none⟩ v).heap.size = w.heap.size by simp [World.setCell]] at h
    exact h
  rcases max_cases' t.now now with ⟨hm, em⟩ | ⟨hm, em⟩
  all_goals
    have EM := Lib.hid em
    have HBOX := Lib.hid hbox
    clear em hbox
    go_enter Try.func17, Try.ntmps17
    go_wp2_with (go_at_call 25; refine (at_yes _ g gp cap t k now (h.alloc _) hl hok).mono ?_; rintro e w' ⟨rfl, rfl⟩)
    refine (HD.out _ (HPUT.out _ EM.out.symm _)).mono ?_
    rintro e w2 ⟨rfl, hat, hkp⟩
    have hbox2 := hkp.blk (HBOX.out _) (by simp; omega)
    have hk2 : Keep [g, gp] w w2 := (((Keep.refl _ _).set_ (.inl (by simp)) _).alloc _).then hkp (by simp)
    clear hkp HPUT HD HBOX c2 f2 e3
    generalize ht1 : dropT tn = t1 at *
    have HT1 := Lib.hid ht1
    clear ht1
    generalize hqe : dropP (max t.now now) p = q at *
    have HQE := Lib.hid hqe
    clear hqe
    have hz2 : w.heap.size < w2.heap.size := hbox2.lt
    obtain ⟨b0, b1, b2, b3, b4, b5, b6, b7⟩ := bp_cells hbox2
    have e4 : w2.cell? ⟨gp, k * 15 + 4, none⟩ = some (.bool q.keeps) := hat.port HQ.out rfl
    have e6 : w2.cell? ⟨gp, k * 15 + 6, none⟩ = some (.int .u64 q.v.root) := hat.port HQ.out rfl
    have e7 : w2.cell? ⟨gp, k * 15 + 7, none⟩ = some (.int .i64 q.v.cost) := hat.port HQ.out rfl
    have e8 : w2.cell? ⟨gp, k * 15 + 8, none⟩ = some (.int .u64 q.v.bridge) := hat.port HQ.out rfl
    have e9 : w2.cell? ⟨gp, k * 15 + 9, none⟩ = some (.int .i64 q.v.port) := hat.port HQ.out rfl
    have HBOX2 := Lib.hid hbox2
    have HAT := Lib.hid hat
    have HK2 := Lib.hid hk2
    obtain ⟨hg2, hgp2⟩ := hat.lt
    clear hbox2 hat hk2
    go_upto_region 6 with fail
    go_cut [10] (fun s10 wx => s10 = .bool (again q b) ∧ wx = w2.alloc (.cells #[.int .u64 q.v.root, .int .i64 q.v.cost, .int .u64 q.v.bridge, .int .i64 q.v.port] 33))
    case first =>
      cases ha : (q.v.bridge == b.v.bridge)
      · have E := Lib.hid (show again q b = false by simp [again, ha])
        go_wp2_with fail
        go_meet
        exact ⟨by rw [E.out], rfl⟩
      · have E := Lib.hid (show again q b = (q.v.port == b.v.port) by simp [again, ha])
        go_wp2_with fail
        go_meet
        exact ⟨by rw [E.out], rfl⟩
    case rest =>
      obtain ⟨rfl, rfl⟩ := hcut
      go_upto_region 7 with fail
      go_cut [10, 68] (fun _ s68 wx => s68 = .bool (takes q b) ∧ Below (w2.heap.size + 1) (w2.alloc (.cells #[.int .u64 q.v.root, .int .i64 q.v.cost, .int .u64 q.v.bridge, .int .i64 q.v.port] 33)) wx)
      case first =>
        cases hkeeps : q.keeps
        · have E := Lib.hid (show takes q b = true by simp [takes, hkeeps])
          go_wp2_with fail
          go_meet
          exact ⟨by rw [E.out], Below.refl _ _⟩
        · cases hag : again q b
          · have E := Lib.hid (show takes q b = decide (cmpV b.v q.v ≤ 0) by simp [takes, hkeeps, hag])
            go_wp2_with fail
            refine (cmp b.v q.v _).mono ?_
            rintro e w4 ⟨rfl, hb4⟩
            go_wp2_with fail
            go_meet
            exact ⟨by rw [E.out], by simpa using hb4⟩
          · have E := Lib.hid (show takes q b = true by simp [takes, hkeeps, hag])
            go_wp2_with fail
            go_meet
            exact ⟨by rw [E.out], Below.refl _ _⟩
      case rest =>
        obtain ⟨rfl, hbx⟩ := hcut
        have hbx' : Below (w2.alloc (.cells #[.int .u64 q.v.root, .int .i64 q.v.cost, .int .u64 q.v.bridge, .int .i64 q.v.port] 33)).heap.size (w2.alloc (.cells #[.int .u64 q.v.root, .int .i64 q.v.cost, .int .u64 q.v.bridge, .int .i64 q.v.port] 33)) wc := by simpa using hbx
        have hat3 := (HAT.out.alloc (.cells #[.int .u64 q.v.root, .int .i64 q.v.cost, .int .u64 q.v.bridge, .int .i64 q.v.port] 33)).below hbx'
        have hk3 : Keep [g, gp] w wc := (HK2.out.alloc _).trans (Keep.of_below hbx' _)
        have hbox3 := (HBOX2.out.alloc (.cells #[.int .u64 q.v.root, .int .i64 q.v.cost, .int .u64 q.v.bridge, .int .i64 q.v.port] 33)).below hbx (by omega)
        clear b0 b1 b2 b3 b4 b5 b6 b7 e4 e6 e7 e8 e9 hbx hbx' HAT HK2 HBOX2
        cases htk : takes q b
        · have hs1 : heardT1 t1 k q b = t1 := by simp [heardT1, htk]
          have hst : Calls Try.prog 26 #[.pointer (some ⟨g, 0, none⟩)] wc (Did g gp cap (hearT t k p b now) w) := by
            rw [← HFIN.out, hs1]
            exact (settle_ wc g gp cap t1 hat3 hw1).mono fun _ _ ⟨e1, e2, e3⟩ => ⟨e1, e2, hk3.trans e3⟩
          have HST := Lib.hid hst
          clear hst hs1 hat3 hk3 hbox3
          go_wp2_with fail
          refine HST.out.mono ?_
          rintro e w5 ⟨rfl, hat5, hk5⟩
          go_wp2
          go_end0
          exact ⟨rfl, hat5, hk5⟩
        · obtain ⟨b0, b1, b2, b3, b4, b5, b6, b7⟩ := bp_cells hbox3
          have c2 := hat3.tree.2.2.1
          have c0 := hat3.tree.1
          have f4 := hat3.portF (k * 15 + 4)
          have e4 : wc.cell? ⟨gp, k * 15 + 4, none⟩ = some (.bool q.keeps) := hat3.port HQ.out rfl
          have e6 : wc.cell? ⟨gp, k * 15 + 6, none⟩ = some (.int .u64 q.v.root) := hat3.port HQ.out rfl
          have e7 : wc.cell? ⟨gp, k * 15 + 7, none⟩ = some (.int .i64 q.v.cost) := hat3.port HQ.out rfl
          have e8 : wc.cell? ⟨gp, k * 15 + 8, none⟩ = some (.int .u64 q.v.bridge) := hat3.port HQ.out rfl
          have e9 : wc.cell? ⟨gp, k * 15 + 9, none⟩ = some (.int .i64 q.v.port) := hat3.port HQ.out rfl
          have e10 : wc.cell? ⟨gp, k * 15 + 10, none⟩ = some (.int .i64 q.age) := hat3.port HQ.out rfl
          have e11 : wc.cell? ⟨gp, k * 15 + 11, none⟩ = some (.bool q.chg) := hat3.port HQ.out rfl
          have e12 : wc.cell? ⟨gp, k * 15 + 12, none⟩ = some (.bool q.lrn) := hat3.port HQ.out rfl
          have e13 : wc.cell? ⟨gp, k * 15 + 13, none⟩ = some (.bool q.kf) := hat3.port HQ.out rfl
          have e14 : wc.cell? ⟨gp, k * 15 + 14, none⟩ = some (.int .i64 q.at_) := hat3.port HQ.out rfl
          have f6 := hat3.portF (k * 15 + 6)
          have f7 := hat3.portF (k * 15 + 7)
          have f8 := hat3.portF (k * 15 + 8)
          have f9 := hat3.portF (k * 15 + 9)
          have f10 := hat3.portF (k * 15 + 10)
          have f11 := hat3.portF (k * 15 + 11)
          have f12 := hat3.portF (k * 15 + 12)
          have f13 := hat3.portF (k * 15 + 13)
          have f14 := hat3.portF (k * 15 + 14)
          have HAT3 := Lib.hid hat3
          have HK3 := Lib.hid hk3
          have HB3 := Lib.hid hbox3
          clear hat3 hk3 hbox3
          go_upto_region 8 with fail
          have hne1 : w.heap.size ≠ gp := by omega
          have hne2 : g ≠ gp := by have := HAT3.out.ne; exact this
          go_cut [] (fun wx => At wx g gp cap { t1 with ps := t1.ps.set k (keepP t1.now b q) } ∧ Keep [g, gp] w wx ∧ Blk wx w.heap.size 37 #[.int .u64 b.v.root, .int .i64 b.v.cost, .int .u64 b.v.bridge, .int .i64 b.v.port, .int .i64 b.age, .bool b.chg, .bool b.lrn, .bool b.kf])
          case first =>
            go_region_held3 (fun w' => w'.cell? ⟨w.heap.size, 0, none⟩ = some (.int .u64 b.v.root) ∧ w'.cell? ⟨w.heap.size, 1, none⟩ = some (.int .i64 b.v.cost) ∧ w'.cell? ⟨w.heap.size, 2, none⟩ = some (.int .u64 b.v.bridge) ∧ w'.cell? ⟨w.heap.size, 3, none⟩ = some (.int .i64 b.v.port) ∧
                w'.cell? ⟨w.heap.size, 4, none⟩ = some (.int .i64 b.age) ∧ w'.cell? ⟨w.heap.size, 5, none⟩ = some (.bool b.chg) ∧ w'.cell? ⟨w.heap.size, 6, none⟩ = some (.bool b.lrn) ∧ w'.cell? ⟨w.heap.size, 7, none⟩ = some (.bool b.kf) ∧ w'.cell? ⟨g, 2, none⟩ = some (.int .i64 t1.now))
              ((simp [cell_far, hne1, hne2, b0, b1, b2, b3, b4, b5, b6, b7, c2]; done)) (fail)
            go_wp2_with fail
            go_meet
            exact ⟨(HAT3.out.kept HQ.out b).drew, (kept_keep HK3.out (t := t1)).drew, (kept_blk HB3.out hne1 (t := t1)).drew⟩
          case rest =>
            obtain ⟨hat4, hk4, hbox4⟩ := hcut
            clear b0 b1 b2 b3 b4 b5 b6 b7 c2 c0 e4 e6 e7 e8 e9 e10 e11 e12 e13 e14 f4 f6 f7 f8 f9 f10 f11 f12 f13 f14 HAT3 HK3 HB3
            obtain ⟨b0, b1, b2, b3, b4, b5, b6, b7⟩ := bp_cells hbox4
            have c0 : wc.cell? ⟨g, 0, none⟩ = some (.int .u64 t1.bridge) := hat4.tree.1
            have c2 : wc.cell? ⟨g, 2, none⟩ = some (.int .i64 t1.now) := hat4.tree.2.2.1
            have f4 := hat4.treeF 4
            have c4 : wc.cell? ⟨g, 4, none⟩ = some (.int .i64 t1.change) := hat4.tree.2.2.2.2
            have hfin : ∀ w', At w' g gp cap (heardT1 t1 k q b) → Keep [g, gp] w w' → Calls Try.prog 26 #[.pointer (some ⟨g, 0, none⟩)] w' (Did g gp cap (hearT t k p b now) w) := fun w' ha hk => by
              rw [← HFIN.out]
              exact (settle_ w' g gp cap _ ha (hw1.heard1 (by have := (hw1.at_ HQ.out); exact this) b hb)).mono fun _ _ ⟨e1, e2, e3⟩ => ⟨e1, e2, hk.trans e3⟩
            have HF := Lib.hid hfin
            have HAT4 := Lib.hid hat4
            have HK4 := Lib.hid hk4
            clear hfin hat4 hk4 hbox4
            cases hch : b.chg
            · have E := Lib.hid (show heardT1 t1 k q b = { t1 with ps := t1.ps.set k (keepP t1.now b q) } by simp [heardT1, htk, hch])
              rw [hch] at b5
              go_upto_region 9 with fail
              go_quiet (fail)
              go_wp2_with fail
              refine (HF.out _ (by rw [E.out]; exact HAT4.out.drewN _) (HK4.out.drewN _)).mono ?_
              rintro e w5 ⟨rfl, hat5, hk5⟩
              go_wp2
              go_end0
              exact ⟨rfl, hat5, hk5⟩
            · rw [hch] at b5
              cases hbr : (b.v.bridge != t1.bridge)
              · have E := Lib.hid (show heardT1 t1 k q b = { t1 with ps := t1.ps.set k (keepP t1.now b q) } by simp only [heardT1, htk, hch, hbr]; rfl)
                go_upto_region 9 with fail
                go_quiet (fail)
                go_wp2_with fail
                refine (HF.out _ (by rw [E.out]; exact HAT4.out.drewN _) (HK4.out.drewN _)).mono ?_
                rintro e w5 ⟨rfl, hat5, hk5⟩
                go_wp2
                go_end0
                exact ⟨rfl, hat5, hk5⟩
              · have E := Lib.hid (show heardT1 t1 k q b = { t1 with ps := t1.ps.set k (keepP t1.now b q), change := t1.now } by simp only [heardT1, htk, hch, hbr]; rfl)
                go_upto_region 9 with fail
                go_quiet (fail)
                go_wp2_with (go_at_call 26; refine (HF.out _ (by rw [E.out]; exact (HAT4.out.put_change _).drewN _) ((HK4.out.set_ (.inl (by simp)) _).drewN _)).mono ?_; rintro e w5 ⟨rfl, hat5, hk5⟩)
                go_end0
                exact ⟨rfl, hat5, hk5⟩
end Rstp
end Go.Proofs.Ytlfoaefilonidaa
