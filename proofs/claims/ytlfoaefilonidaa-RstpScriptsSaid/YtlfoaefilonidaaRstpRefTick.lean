/-
  The walks of the document's Tick and New (siphonref15).
-/
import Derived.Test.YtlfoaefilonidaaRstpRefOps
import Derived.Deep.RegionHeld3
namespace Go.Proofs.Ytlfoaefilonidaa
set_option linter.unusedVariables false
set_option linter.unusedSimpArgs false
open Go.RowKit
namespace Rstp
open Go.Proofs.Ytlfoaefilonidaa.Prio
theorem infoROu : (Try.prog.info? 73).map (fun i => (i.zero, i.size, i.bytes)) = some (some (.agg #[.int .i64 0, .int .u64 0, .int .i64 0, .int .u64 0, .int .i64 0, .int .i64 0, .bool false, .bool false, .bool false]), 9, 56) := by kernel_rfl
def RTold (g gp cap : Nat) (t : Tr) (os : List Ou) (w : World) (e : Ending) (w' : World) : Prop := ∃ A c, e = .returned (.slice A os.length c) ∧ Reads w' w'.heap.size 9 A os.length (os.flatMap cellsOu) ∧ (∀ ad, A = some ad → w.heap.size ≤ ad.block) ∧ RAt w' g gp cap t ∧ Keep [g, gp] w w'
theorem rtick_no (w : World) (g gp cap : Nat) (t : Tr) (now : Int) (h : RAt w g gp cap t) (hl : t.ps.length ≤ 16) (hp : okT t 0 now = false) :
    Calls Try.prog 32 #[.pointer (some ⟨g, 0, none⟩), .int .i64 now] w fun e w' => e = .returned (.slice none 0 0) ∧ w = w' := by
  go_enter Try.func32, Try.ntmps32
  go_wp2_with (go_at_call 39; refine (rgoes_no _ g gp cap t 0 now h hl hp).mono ?_; rintro e w' ⟨rfl, rfl⟩)
  go_ret
  exact ⟨rfl, rfl⟩
theorem cell_drewN_alloc {w : World} {o : Obj} {n b i : Nat} {v : Value} (hb : b < w.heap.size) (h : w.cell? ⟨b, i, none⟩ = some v) : ((w.alloc o).drewN n).cell? ⟨b, i, none⟩ = some v := (alloc_cell w o b i hb).trans h
theorem cell_drew_alloc {w : World} {o : Obj} {b i : Nat} {v : Value} (hb : b < w.heap.size) (h : w.cell? ⟨b, i, none⟩ = some v) : ((w.alloc o).drew).cell? ⟨b, i, none⟩ = some v := (alloc_cell w o b i hb).trans h
theorem below_drewN_alloc {B : Nat} {a w : World} (h : Below B a w) (hB : B ≤ w.heap.size) (o : Obj) (n : Nat) : Below B a ((w.alloc o).drewN n) := below_drewN (h.alloc hB o) n
theorem blk_drewN_new (w : World) (t : TypeId) (cs : Array Value) (n : Nat) : Blk ((w.alloc (.cells cs t)).drewN n) w.heap.size t cs := Blk.new w t cs
theorem lt_drew_alloc {w : World} {o : Obj} {b : Nat} (h : b < w.heap.size) : b < ((w.alloc o).drew).heap.size := by
  show b < (w.alloc o).heap.size
  simp
  omega
theorem rat_drew_alloc {w w5 : World} {o : Obj} {g gp cap : Nat} {t : Tr} (h : RAt w g gp cap t) (hb : Below ((w.alloc o).drew).heap.size ((w.alloc o).drew) w5) : RAt w5 g gp cap t := ((h.alloc o).drew).below hb
theorem below_drew_alloc {w w5 : World} {o : Obj} (hb : Below ((w.alloc o).drew).heap.size ((w.alloc o).drew) w5) : Below w.heap.size w w5 :=
  (((Below.refl w.heap.size w).alloc (Nat.le_refl _) o).drew).trans (hb.mono (by show w.heap.size ≤ (w.alloc o).heap.size; simp))
theorem blk_drew_alloc {w w5 : World} {t : TypeId} {cs : Array Value} (hb : Below ((w.alloc (.cells cs t)).drew).heap.size ((w.alloc (.cells cs t)).drew) w5) : Blk w5 w.heap.size t cs :=
  ((Blk.new w t cs).drew).below hb (by show w.heap.size < (w.alloc (.cells cs t)).heap.size; simp)
theorem blk_store8 {w : World} {gb : Nat} {t : TypeId} {c0 c1 c2 c3 c4 c5 c6 c7 v0 v1 v2 v3 v4 v5 v6 v7 : Value} (h : Blk w gb t #[c0, c1, c2, c3, c4, c5, c6, c7]) : Blk ((((((((w.setCell ⟨gb, 0, none⟩ v0).setCell ⟨gb, 1, none⟩ v1).setCell ⟨gb, 2, none⟩ v2).setCell ⟨gb, 3, none⟩ v3).setCell ⟨gb, 4, none⟩ v4).setCell ⟨gb, 5, none⟩ v5).setCell ⟨gb, 6, none⟩ v6).setCell ⟨gb, 7, none⟩ v7) gb t #[v0, v1, v2, v3, v4, v5, v6, v7] := by
  have h0 : Blk (w.setCell ⟨gb, 0, none⟩ v0) gb t #[v0, c1, c2, c3, c4, c5, c6, c7] := h.set_ 0 v0
  have h1 : Blk ((w.setCell ⟨gb, 0, none⟩ v0).setCell ⟨gb, 1, none⟩ v1) gb t #[v0, v1, c2, c3, c4, c5, c6, c7] := h0.set_ 1 v1
  have h2 : Blk (((w.setCell ⟨gb, 0, none⟩ v0).setCell ⟨gb, 1, none⟩ v1).setCell ⟨gb, 2, none⟩ v2) gb t #[v0, v1, v2, c3, c4, c5, c6, c7] := h1.set_ 2 v2
  have h3 : Blk ((((w.setCell ⟨gb, 0, none⟩ v0).setCell ⟨gb, 1, none⟩ v1).setCell ⟨gb, 2, none⟩ v2).setCell ⟨gb, 3, none⟩ v3) gb t #[v0, v1, v2, v3, c4, c5, c6, c7] := h2.set_ 3 v3
  have h4 : Blk (((((w.setCell ⟨gb, 0, none⟩ v0).setCell ⟨gb, 1, none⟩ v1).setCell ⟨gb, 2, none⟩ v2).setCell ⟨gb, 3, none⟩ v3).setCell ⟨gb, 4, none⟩ v4) gb t #[v0, v1, v2, v3, v4, c5, c6, c7] := h3.set_ 4 v4
  have h5 : Blk ((((((w.setCell ⟨gb, 0, none⟩ v0).setCell ⟨gb, 1, none⟩ v1).setCell ⟨gb, 2, none⟩ v2).setCell ⟨gb, 3, none⟩ v3).setCell ⟨gb, 4, none⟩ v4).setCell ⟨gb, 5, none⟩ v5) gb t #[v0, v1, v2, v3, v4, v5, c6, c7] := h4.set_ 5 v5
  have h6 : Blk (((((((w.setCell ⟨gb, 0, none⟩ v0).setCell ⟨gb, 1, none⟩ v1).setCell ⟨gb, 2, none⟩ v2).setCell ⟨gb, 3, none⟩ v3).setCell ⟨gb, 4, none⟩ v4).setCell ⟨gb, 5, none⟩ v5).setCell ⟨gb, 6, none⟩ v6) gb t #[v0, v1, v2, v3, v4, v5, v6, c7] := h5.set_ 6 v6
  have h7 : Blk ((((((((w.setCell ⟨gb, 0, none⟩ v0).setCell ⟨gb, 1, none⟩ v1).setCell ⟨gb, 2, none⟩ v2).setCell ⟨gb, 3, none⟩ v3).setCell ⟨gb, 4, none⟩ v4).setCell ⟨gb, 5, none⟩ v5).setCell ⟨gb, 6, none⟩ v6).setCell ⟨gb, 7, none⟩ v7) gb t #[v0, v1, v2, v3, v4, v5, v6, v7] := h6.set_ 7 v7
  exact h7
theorem below_store8 {B : Nat} {a w : World} {gb : Nat} {v0 v1 v2 v3 v4 v5 v6 v7 : Value} (h : Below B a w) (hB : B ≤ gb) : Below B a ((((((((w.setCell ⟨gb, 0, none⟩ v0).setCell ⟨gb, 1, none⟩ v1).setCell ⟨gb, 2, none⟩ v2).setCell ⟨gb, 3, none⟩ v3).setCell ⟨gb, 4, none⟩ v4).setCell ⟨gb, 5, none⟩ v5).setCell ⟨gb, 6, none⟩ v6).setCell ⟨gb, 7, none⟩ v7) :=
  ((((((((h.setCell (p := ⟨gb, 0, none⟩) hB v0).setCell (p := ⟨gb, 1, none⟩) hB v1).setCell (p := ⟨gb, 2, none⟩) hB v2).setCell (p := ⟨gb, 3, none⟩) hB v3).setCell (p := ⟨gb, 4, none⟩) hB v4).setCell (p := ⟨gb, 5, none⟩) hB v5).setCell (p := ⟨gb, 6, none⟩) hB v6).setCell (p := ⟨gb, 7, none⟩) hB v7)
theorem outB {t : Tr} {k : Nat} {p : Pt} {x : Bool} (h : changesT t = x) : (cellsB (outP t k p).b).toArray = #[.int .u64 t.best.root, .int .i64 t.best.cost, .int .u64 t.bridge, .int .i64 k, .int .i64 (ageT t), .bool x, .bool (learnsP t.now p), .bool p.fwd] := by
  subst h
  rfl
theorem changesT_is {t : Tr} (h : -1 ≤ t.change) : changesT t = (decide (0 ≤ t.change) && decide (t.now < t.change + 4)) := by
  by_cases h1 : t.change = -1
  · simp [changesT, h1]
  · have e1 : (t.change != -1) = true := by simp [h1]
    have e2 : decide (0 ≤ t.change) = true := decide_eq_true (by omega)
    rw [changesT, e1, e2]
    have : (t.now - t.change < 4) ↔ (t.now < t.change + 4) := by omega
    simp [this]
set_option maxRecDepth 100000 in
set_option maxHeartbeats 4000000 in
theorem rtick_yes (w : World) (g gp cap : Nat) (t : Tr) (now : Int) (h : RAt w g gp cap t) (hw : Wf t) (hok : okT t 0 now = true) :
    Calls Try.prog 32 #[.pointer (some ⟨g, 0, none⟩), .int .i64 now] w (RTold g gp cap (tickT t now) (outsT (tickT t now) now) w) := by
  have hl := hw.l1
  obtain ⟨h1, h2, _, _⟩ := okT_iff.1 hok
  have hw1 : Wf (nowT t now) := hw.now h2
  have hw2 : Wf (tickT t now) := hw.tick h2
  have hro := root_ok (nowT t now)
  rw [show settleT (nowT t now) = tickT t now from rfl] at hro
  have HRO := Lib.hid hro
  clear hro
  go_enter Try.func32, Try.ntmps32
  go_wp2_with fail
  refine (rgoes_yes _ g gp cap t 0 now h hl hok).mono ?_
  rintro e w1 ⟨rfl, hat1, hk1⟩
  have HK1 := Lib.hid hk1
  clear hk1
  go_wp2_with fail
  refine (right_ _ g gp cap _ hat1 hw1).mono ?_
  rw [show settleT (nowT t now) = tickT t now from rfl]
  rintro e w2 ⟨rfl, hat, hkp⟩
  have hk2 : Keep [g, gp] w w2 := HK1.out.trans hkp
  clear hkp hat1 HK1
  generalize tickT t now = t1 at *
  have c3 : w2.cell? ⟨g, 3, none⟩ = some (.int .i64 t1.root) := hat.tree.2.2.2.1
  have c1 : w2.cell? ⟨g, 1, none⟩ = some (.slice (some ⟨gp, 0, none⟩) t1.ps.length cap) := hat.tree.2.1
  have HAT := Lib.hid hat
  have HK2 := Lib.hid hk2
  have hl1 := hw2.l1
  clear hat hk2 h hw hw1 hok
  go_upto_if 20 with fail
  go_cut [5] (fun s5 wx => s5 = .int .i64 (ageT t1) ∧ ∃ n, wx = w2.drewN n)
  case first =>
    rcases HRO.out with hr | ⟨i, p, hr, hp, ha, hu⟩
    · have E := Lib.hid (show ageT t1 = 0 by simp [ageT, hr])
      have hr' : ¬ 0 ≤ t1.root := by omega
      clear hr
      go_wp2_with fail
      go_meet
      exact ⟨by rw [E.out], 0, rfl⟩
    · have E := Lib.hid (show ageT t1 = p.age + 1 by simp [ageT, hr, hp])
      have e10 : w2.cell? ⟨gp, i * 12 + 7, none⟩ = some (.int .i64 p.age) := HAT.out.port hp rfl
      have hil : (i : Int) < (t1.ps.length : Int) := by have := (List.getElem?_eq_some_iff.1 hp).1; omega
      have hr' : 0 ≤ t1.root := by omega
      have hi0 : (0 : Int) ≤ (i : Int) := by omega
      have hg0 := (hw2.at_ hp).g0
      have hx : IntKind.i64.wrap (p.age + 1) = p.age + 1 := IntWalk.i64_in _ (by omega)
      rw [hr] at c3
      clear hr hp
      go_wp2_with fail
      go_quiet (fail)
      go_wp2_with fail
      go_meet
      exact ⟨by rw [E.out], _, rfl⟩
  case rest =>
    obtain ⟨rfl, n2, rfl⟩ := hcut
    have hat2 : RAt (w2.drewN n2) g gp cap t1 := HAT.out.drewN n2
    have hk2 : Keep [g, gp] w (w2.drewN n2) := HK2.out.drewN n2
    clear c1 c3
    by_cases ho : now % 2 = 1
    · have E := Lib.hid (show outsT t1 now = [] by simp [outsT, silent, ho])
      go_wp2
      go_ret
      rw [E.out]
      exact ⟨none, 0, rfl, Reads.none_, fun _ h => (by cases h), hat2, hk2⟩
    · have ho' : (now % 2 == 1) = false := by simp [ho]
      by_cases ha : 20 ≤ ageT t1
      · have E := Lib.hid (show outsT t1 now = [] by simp [outsT, silent, ha])
        clear ho
        go_wp2
        go_ret
        rw [E.out]
        exact ⟨none, 0, rfl, Reads.none_, fun _ h => (by cases h), hat2, hk2⟩
      · have E := Lib.hid (show outsT t1 now = outsTo t1 t1.ps.length by simp [outsT, silent, ha, ho])
        clear ho
        generalize w2.drewN n2 = w3 at *
        have HAT2 := Lib.hid hat2
        have HK3 := Lib.hid hk2
        clear hat2 hk2 HAT HK2
        obtain ⟨i0, hi, hz0, hz1, hz2⟩ := info_parts infoROu
        go_wp2_with fail
        go_loopw [6, 7] (fun v i wr => ∃ k : Nat, k ≤ t1.ps.length ∧ i = .int .i64 k ∧ wr.ownsRow w3.heap.size 73 9 v (outsTo t1 k).length ((outsTo t1 k).flatMap cellsOu) ∧ Below w3.heap.size w3 wr) (fun _ i _ => t1.ps.length - (intOf i).toNat)
        case atStart => exact ⟨0, Nat.zero_le _, rfl, ⟨by simp [outsTo], .inl ⟨rfl, rfl⟩⟩, Below.refl _ _⟩
        case round =>
          obtain ⟨k, hk, rfl, hown, hbel⟩ := hrel
          have hat : RAt wr g gp cap t1 := HAT2.out.below hbel
          have c1 : wr.cell? ⟨g, 1, none⟩ = some (.slice (some ⟨gp, 0, none⟩) t1.ps.length cap) := hat.tree.2.1
          by_cases hlt : k < t1.ps.length
          · have hlt' : (k : Int) < (t1.ps.length : Int) := by omega
            obtain ⟨p, hp⟩ : ∃ p, t1.ps[k]? = some p := ⟨_, List.getElem?_eq_getElem hlt⟩
            obtain ⟨hlg, hlp⟩ := hat.lt
            obtain ⟨e0, e1, e2, e3, e4, e5, e6, e7, e8, e9, e10, e11⟩ := cellsQ_at hat hp
            by_cases hr : p.role = 2
            · have EO := Lib.hid (outsTo_yes hp hr)
              have hr' : (p.role != 2) = false := by simp [hr]
              have HP := Lib.hid hp
              have HAT3 := Lib.hid (hat.alloc (.cells #[.int .i64 p.cost, .bool p.up, .bool p.keeps, .int .u64 p.v.root, .int .i64 p.v.cost, .int .u64 p.v.bridge, .int .i64 p.v.port, .int .i64 p.age, .int .i64 p.at_, .int .i64 p.role, .int .i64 p.since, .bool p.fwd] 70))
              have hsz := hbel.size
              have HLTV := Lib.hid (own_lt hown)
              have HOWN := Lib.hid (hown.alloc (.cells #[.int .i64 p.cost, .bool p.up, .bool p.keeps, .int .u64 p.v.root, .int .i64 p.v.cost, .int .u64 p.v.bridge, .int .i64 p.v.port, .int .i64 p.age, .int .i64 p.at_, .int .i64 p.role, .int .i64 p.since, .bool p.fwd] 70))
              have HBEL := Lib.hid (hbel.alloc hsz (.cells #[.int .i64 p.cost, .bool p.up, .bool p.keeps, .int .u64 p.v.root, .int .i64 p.v.cost, .int .u64 p.v.bridge, .int .i64 p.v.port, .int .i64 p.age, .int .i64 p.at_, .int .i64 p.role, .int .i64 p.since, .bool p.fwd] 70))
              have HPF := Lib.hid (show (wr.alloc (.cells #[.int .i64 p.cost, .bool p.up, .bool p.keeps, .int .u64 p.v.root, .int .i64 p.v.cost, .int .u64 p.v.bridge, .int .i64 p.v.port, .int .i64 p.age, .int .i64 p.at_, .int .i64 p.role, .int .i64 p.since, .bool p.fwd] 70)).cell? ⟨wr.heap.size, 11, none⟩ = some (.bool p.fwd) from (Blk.new wr 70 (cellsQ p).toArray).cell 11)
              have hwz : (wr.alloc (.cells #[.int .i64 p.cost, .bool p.up, .bool p.keeps, .int .u64 p.v.root, .int .i64 p.v.cost, .int .u64 p.v.bridge, .int .i64 p.v.port, .int .i64 p.age, .int .i64 p.at_, .int .i64 p.role, .int .i64 p.since, .bool p.fwd] 70)).heap.size = wr.heap.size + 1 := by simp
              clear hr hp hat hown hbel
              go_upto_region 15 with fail
              clear e0 e1 e2 e3 e4 e5 e6 e7 e8 e9 e10 e11 c1
              generalize wr.alloc (.cells #[.int .i64 p.cost, .bool p.up, .bool p.keeps, .int .u64 p.v.root, .int .i64 p.v.cost, .int .u64 p.v.bridge, .int .i64 p.v.port, .int .i64 p.age, .int .i64 p.at_, .int .i64 p.role, .int .i64 p.since, .bool p.fwd] 70) = wa at *
              have c0 : wa.cell? ⟨g, 0, none⟩ = some (.int .u64 t1.bridge) := HAT3.out.tree.1
              obtain ⟨c4, c5, c6, c7⟩ := HAT3.out.best
              have c5' : wa.cell? ⟨g, 4 + 1, none⟩ = some (.int .i64 t1.best.cost) := c5
              have c6' : wa.cell? ⟨g, 4 + 2, none⟩ = some (.int .u64 t1.best.bridge) := c6
              have c7' : wa.cell? ⟨g, 4 + 3, none⟩ = some (.int .i64 t1.best.port) := c7
              have c8 : wa.cell? ⟨g, 8, none⟩ = some (.int .i64 t1.change) := HAT3.out.tree.2.2.2.2
              have c2 : wa.cell? ⟨g, 2, none⟩ = some (.int .i64 t1.now) := HAT3.out.tree.2.2.1
              have c11 := HPF.out
              have hga : g < wa.heap.size := by omega
              have hxa : wr.heap.size < wa.heap.size := by omega
              have hgx : g ≠ wr.heap.size := by omega
              clear hwz
              have hlrn : ∀ w', RAt w' g gp cap t1 → Calls Try.prog 29 #[.pointer (some ⟨g, 0, none⟩), .int .i64 k] w' fun e w'' => e = .returned (.bool (learnsP t1.now p)) ∧ ∃ n, w'' = w'.drewN n := fun w' h => by
                have := rlearns_ w' g gp cap t1 k h hw2
                rw [(roleA_yes HP.out).2.2] at this
                exact this
              have LRN := Lib.hid hlrn
              have hch0 := hw2.c0
              have hch1 := hw2.c1
              have hch2 := hw2.n1
              have hx : IntKind.i64.wrap (t1.change + 4) = t1.change + 4 := IntWalk.i64_in _ (by omega)
              have HCH := Lib.hid (changesT_is hch0)
              clear c5 c6 c7 hlrn
              go_cut [9] (fun s9 wx => ∃ gb, s9 = .pointer (some ⟨gb, 0, none⟩) ∧ wa.heap.size ≤ gb ∧ Blk wx gb 37 (cellsB (outP t1 k p).b).toArray ∧ Below wa.heap.size wa wx)
              case first =>
                by_cases hc : 0 ≤ t1.change
                · have hc' : decide (0 ≤ t1.change) = true := decide_eq_true hc
                  have E' := Lib.hid (show changesT t1 = decide (t1.now < t1.change + 4) by rw [HCH.out, hc']; rfl)
                  clear hc
                  go_region_held3 (fun w' => w'.cell? ⟨g, 0, none⟩ = some (.int .u64 t1.bridge) ∧ w'.cell? ⟨g, 4, none⟩ = some (.int .u64 t1.best.root) ∧ w'.cell? ⟨g, 4 + 1, none⟩ = some (.int .i64 t1.best.cost) ∧ w'.cell? ⟨g, 4 + 2, none⟩ = some (.int .u64 t1.best.bridge) ∧ w'.cell? ⟨g, 4 + 3, none⟩ = some (.int .i64 t1.best.port) ∧ w'.cell? ⟨g, 8, none⟩ = some (.int .i64 t1.change) ∧ w'.cell? ⟨g, 2, none⟩ = some (.int .i64 t1.now) ∧ w'.cell? ⟨wr.heap.size, 11, none⟩ = some (.bool p.fwd))
                    (first
                      | (with_reducible exact g6)
                      | (with_reducible exact g5)
                      | (obtain ⟨k0, k1, k2, k3, k4, k5, k6, k7⟩ := g6; simp (disch := ((try simp) <;> omega)) [alloc_cell, cell_far, hgx, k0, k1, k2, k3, k4, k5, k6, k7]; done)
                      | (obtain ⟨k0, k1, k2, k3, k4, k5, k6, k7⟩ := g5; simp (disch := ((try simp) <;> omega)) [alloc_cell, cell_far, hgx, k0, k1, k2, k3, k4, k5, k6, k7]; done)
                      | (simp (disch := ((try simp) <;> omega)) [alloc_cell, cell_far, hgx, c0, c4, c5', c6', c7', c8, c2, c11]; done))
                    (first
                      | (go_at_call 14; refine (rtells_ t1.bridge t1.best k _).mono ?_; rintro e w5 ⟨rfl, hb5⟩; have hb5' : Below wa.drew.heap.size wa.drew w5 := (by with_reducible exact hb5); have g5 : w5.cell? ⟨g, 0, none⟩ = some (.int .u64 t1.bridge) ∧ w5.cell? ⟨g, 4, none⟩ = some (.int .u64 t1.best.root) ∧ w5.cell? ⟨g, 4 + 1, none⟩ = some (.int .i64 t1.best.cost) ∧ w5.cell? ⟨g, 4 + 2, none⟩ = some (.int .u64 t1.best.bridge) ∧ w5.cell? ⟨g, 4 + 3, none⟩ = some (.int .i64 t1.best.port) ∧ w5.cell? ⟨g, 8, none⟩ = some (.int .i64 t1.change) ∧ w5.cell? ⟨g, 2, none⟩ = some (.int .i64 t1.now) ∧ w5.cell? ⟨wr.heap.size, 11, none⟩ = some (.bool p.fwd) := ⟨bkeep hb5 hga c0, bkeep hb5 hga c4, bkeep hb5 hga c5', bkeep hb5 hga c6', bkeep hb5 hga c7', bkeep hb5 hga c8, bkeep hb5 hga c2, bkeep hb5 hxa c11⟩; have HAT5 := Lib.hid ((HAT3.out.drew).below hb5); have HB5 : Hid (Below wa.heap.size wa w5) := Lib.hid (Below.trans (b := wa.drew) (Below.drew (Below.refl wa.heap.size wa)) hb5); have hz5 : wa.heap.size ≤ w5.heap.size := hb5.size; clear hb5)
                      | (go_at_call 14; refine (rtells_ t1.bridge t1.best k _).mono ?_; rintro e w5 ⟨rfl, hb5⟩; have hgA := lt_drew_alloc (o := (.cells #[.int .u64 0, .int .i64 0, .int .u64 0, .int .i64 0, .int .i64 0, .bool false, .bool false, .bool false] 37)) hga; have hxA := lt_drew_alloc (o := (.cells #[.int .u64 0, .int .i64 0, .int .u64 0, .int .i64 0, .int .i64 0, .bool false, .bool false, .bool false] 37)) hxa; have g5 : w5.cell? ⟨g, 0, none⟩ = some (.int .u64 t1.bridge) ∧ w5.cell? ⟨g, 4, none⟩ = some (.int .u64 t1.best.root) ∧ w5.cell? ⟨g, 4 + 1, none⟩ = some (.int .i64 t1.best.cost) ∧ w5.cell? ⟨g, 4 + 2, none⟩ = some (.int .u64 t1.best.bridge) ∧ w5.cell? ⟨g, 4 + 3, none⟩ = some (.int .i64 t1.best.port) ∧ w5.cell? ⟨g, 8, none⟩ = some (.int .i64 t1.change) ∧ w5.cell? ⟨g, 2, none⟩ = some (.int .i64 t1.now) ∧ w5.cell? ⟨wr.heap.size, 11, none⟩ = some (.bool p.fwd) := ⟨bkeep hb5 hgA (cell_drew_alloc hga c0), bkeep hb5 hgA (cell_drew_alloc hga c4), bkeep hb5 hgA (cell_drew_alloc hga c5'), bkeep hb5 hgA (cell_drew_alloc hga c6'), bkeep hb5 hgA (cell_drew_alloc hga c7'), bkeep hb5 hgA (cell_drew_alloc hga c8), bkeep hb5 hgA (cell_drew_alloc hga c2), bkeep hb5 hxA (cell_drew_alloc hxa c11)⟩; have HAT5 := Lib.hid (rat_drew_alloc HAT3.out hb5); have HB5 : Hid (Below wa.heap.size wa w5) := Lib.hid (below_drew_alloc hb5); have BL5 : Hid (Blk w5 wa.heap.size 37 #[.int .u64 0, .int .i64 0, .int .u64 0, .int .i64 0, .int .i64 0, .bool false, .bool false, .bool false]) := Lib.hid (blk_drew_alloc hb5); have hz5 : wa.heap.size < w5.heap.size := BL5.out.lt; clear hb5 hgA hxA)
                      | (go_at_call 29; have bl5 := BL5; refine (LRN.out _ (by with_reducible exact HAT5.out)).mono ?_; rintro e w6 ⟨rfl, n6, hw6⟩; have g6 : w6.cell? ⟨g, 0, none⟩ = some (.int .u64 t1.bridge) ∧ w6.cell? ⟨g, 4, none⟩ = some (.int .u64 t1.best.root) ∧ w6.cell? ⟨g, 4 + 1, none⟩ = some (.int .i64 t1.best.cost) ∧ w6.cell? ⟨g, 4 + 2, none⟩ = some (.int .u64 t1.best.bridge) ∧ w6.cell? ⟨g, 4 + 3, none⟩ = some (.int .i64 t1.best.port) ∧ w6.cell? ⟨g, 8, none⟩ = some (.int .i64 t1.change) ∧ w6.cell? ⟨g, 2, none⟩ = some (.int .i64 t1.now) ∧ w6.cell? ⟨wr.heap.size, 11, none⟩ = some (.bool p.fwd) := (by rw [hw6]; exact g5); have BL6 : Blk w6 wa.heap.size 37 #[.int .u64 0, .int .i64 0, .int .u64 0, .int .i64 0, .int .i64 0, .bool false, .bool false, .bool false] := (by rw [hw6]; exact BL5.out.drewN n6); have z0 : w6.cell? ⟨wa.heap.size, 0, none⟩ = some (.int .u64 0) := BL6.cell 0; have y0 : w6.frozen? ⟨wa.heap.size, 0, none⟩ = false := BL6.frozen 0; have z1 : w6.cell? ⟨wa.heap.size, 1, none⟩ = some (.int .i64 0) := BL6.cell 1; have y1 : w6.frozen? ⟨wa.heap.size, 1, none⟩ = false := BL6.frozen 1; have z2 : w6.cell? ⟨wa.heap.size, 2, none⟩ = some (.int .u64 0) := BL6.cell 2; have y2 : w6.frozen? ⟨wa.heap.size, 2, none⟩ = false := BL6.frozen 2; have z3 : w6.cell? ⟨wa.heap.size, 3, none⟩ = some (.int .i64 0) := BL6.cell 3; have y3 : w6.frozen? ⟨wa.heap.size, 3, none⟩ = false := BL6.frozen 3; have z4 : w6.cell? ⟨wa.heap.size, 4, none⟩ = some (.int .i64 0) := BL6.cell 4; have y4 : w6.frozen? ⟨wa.heap.size, 4, none⟩ = false := BL6.frozen 4; have z5 : w6.cell? ⟨wa.heap.size, 5, none⟩ = some (.bool false) := BL6.cell 5; have y5 : w6.frozen? ⟨wa.heap.size, 5, none⟩ = false := BL6.frozen 5; have z6 : w6.cell? ⟨wa.heap.size, 6, none⟩ = some (.bool false) := BL6.cell 6; have y6 : w6.frozen? ⟨wa.heap.size, 6, none⟩ = false := BL6.frozen 6; have z7 : w6.cell? ⟨wa.heap.size, 7, none⟩ = some (.bool false) := BL6.cell 7; have y7 : w6.frozen? ⟨wa.heap.size, 7, none⟩ = false := BL6.frozen 7; have HBL6 := Lib.hid BL6; have HB6 : Hid (Below wa.heap.size wa w6) := Lib.hid (by rw [hw6]; exact below_drewN HB5.out n6); have hz6 : wa.heap.size < w6.heap.size := BL6.lt; clear hw6 BL6)
                      | (go_at_call 29; refine (LRN.out _ (by with_reducible exact HAT5.out)).mono ?_; rintro e w6 ⟨rfl, n6, hw6⟩; have g6 : w6.cell? ⟨g, 0, none⟩ = some (.int .u64 t1.bridge) ∧ w6.cell? ⟨g, 4, none⟩ = some (.int .u64 t1.best.root) ∧ w6.cell? ⟨g, 4 + 1, none⟩ = some (.int .i64 t1.best.cost) ∧ w6.cell? ⟨g, 4 + 2, none⟩ = some (.int .u64 t1.best.bridge) ∧ w6.cell? ⟨g, 4 + 3, none⟩ = some (.int .i64 t1.best.port) ∧ w6.cell? ⟨g, 8, none⟩ = some (.int .i64 t1.change) ∧ w6.cell? ⟨g, 2, none⟩ = some (.int .i64 t1.now) ∧ w6.cell? ⟨wr.heap.size, 11, none⟩ = some (.bool p.fwd) := (by rw [hw6]; exact g5); have HB6 : Hid (Below wa.heap.size wa w6) := Lib.hid (by rw [hw6]; exact below_drewN HB5.out n6); have hz6 : wa.heap.size ≤ w6.heap.size := (by rw [hw6]; exact hz5); clear hw6)
                      | (go_at_call 29; refine (LRN.out _ (by exact HAT5.out.alloc _)).mono ?_; rintro e w6 ⟨rfl, n6, hw6⟩; have hg5 : g < w5.heap.size := (by omega); have hx5 : wr.heap.size < w5.heap.size := (by omega); have g6 : w6.cell? ⟨g, 0, none⟩ = some (.int .u64 t1.bridge) ∧ w6.cell? ⟨g, 4, none⟩ = some (.int .u64 t1.best.root) ∧ w6.cell? ⟨g, 4 + 1, none⟩ = some (.int .i64 t1.best.cost) ∧ w6.cell? ⟨g, 4 + 2, none⟩ = some (.int .u64 t1.best.bridge) ∧ w6.cell? ⟨g, 4 + 3, none⟩ = some (.int .i64 t1.best.port) ∧ w6.cell? ⟨g, 8, none⟩ = some (.int .i64 t1.change) ∧ w6.cell? ⟨g, 2, none⟩ = some (.int .i64 t1.now) ∧ w6.cell? ⟨wr.heap.size, 11, none⟩ = some (.bool p.fwd) := (by rw [hw6]; exact ⟨cell_drewN_alloc hg5 g5.1, cell_drewN_alloc hg5 g5.2.1, cell_drewN_alloc hg5 g5.2.2.1, cell_drewN_alloc hg5 g5.2.2.2.1, cell_drewN_alloc hg5 g5.2.2.2.2.1, cell_drewN_alloc hg5 g5.2.2.2.2.2.1, cell_drewN_alloc hg5 g5.2.2.2.2.2.2.1, cell_drewN_alloc hx5 g5.2.2.2.2.2.2.2⟩); have BL6 : Blk w6 w5.heap.size 37 #[.int .u64 0, .int .i64 0, .int .u64 0, .int .i64 0, .int .i64 0, .bool false, .bool false, .bool false] := (by rw [hw6]; exact blk_drewN_new w5 _ _ n6); have z0 : w6.cell? ⟨w5.heap.size, 0, none⟩ = some (.int .u64 0) := BL6.cell 0; have y0 : w6.frozen? ⟨w5.heap.size, 0, none⟩ = false := BL6.frozen 0; have z1 : w6.cell? ⟨w5.heap.size, 1, none⟩ = some (.int .i64 0) := BL6.cell 1; have y1 : w6.frozen? ⟨w5.heap.size, 1, none⟩ = false := BL6.frozen 1; have z2 : w6.cell? ⟨w5.heap.size, 2, none⟩ = some (.int .u64 0) := BL6.cell 2; have y2 : w6.frozen? ⟨w5.heap.size, 2, none⟩ = false := BL6.frozen 2; have z3 : w6.cell? ⟨w5.heap.size, 3, none⟩ = some (.int .i64 0) := BL6.cell 3; have y3 : w6.frozen? ⟨w5.heap.size, 3, none⟩ = false := BL6.frozen 3; have z4 : w6.cell? ⟨w5.heap.size, 4, none⟩ = some (.int .i64 0) := BL6.cell 4; have y4 : w6.frozen? ⟨w5.heap.size, 4, none⟩ = false := BL6.frozen 4; have z5 : w6.cell? ⟨w5.heap.size, 5, none⟩ = some (.bool false) := BL6.cell 5; have y5 : w6.frozen? ⟨w5.heap.size, 5, none⟩ = false := BL6.frozen 5; have z6 : w6.cell? ⟨w5.heap.size, 6, none⟩ = some (.bool false) := BL6.cell 6; have y6 : w6.frozen? ⟨w5.heap.size, 6, none⟩ = false := BL6.frozen 6; have z7 : w6.cell? ⟨w5.heap.size, 7, none⟩ = some (.bool false) := BL6.cell 7; have y7 : w6.frozen? ⟨w5.heap.size, 7, none⟩ = false := BL6.frozen 7; have HBL6 := Lib.hid BL6; have HB6 : Hid (Below wa.heap.size wa w6) := Lib.hid (by rw [hw6]; exact below_drewN_alloc HB5.out hz5 _ n6); have hz6 : w5.heap.size < w6.heap.size := BL6.lt; clear hw6 BL6))
                  · go_wp2_with fail
                    go_meet
                    exact ⟨_, rfl, hz6, by rw [outB E'.out]; exact Blk.new _ _ _, HB6.out.alloc hz6 _⟩
                  · go_wp2_with fail
                    go_meet
                    exact ⟨_, rfl, hz5, by rw [outB E'.out]; exact blk_store8 HBL6.out, below_store8 HB6.out hz5⟩
                  · go_wp2_with fail
                    go_meet
                    exact ⟨_, rfl, Nat.le_refl _, by rw [outB E'.out]; exact blk_store8 HBL6.out, below_store8 HB6.out (Nat.le_refl _)⟩
                · have hc' : decide (0 ≤ t1.change) = false := decide_eq_false hc
                  have E' := Lib.hid (show changesT t1 = false by rw [HCH.out, hc']; rfl)
                  clear hc
                  refine wp_region_held_drew (S := fun w' => w'.cell? ⟨g, 0, none⟩ = some (.int .u64 t1.bridge) ∧ w'.cell? ⟨g, 4, none⟩ = some (.int .u64 t1.best.root) ∧ w'.cell? ⟨g, 4 + 1, none⟩ = some (.int .i64 t1.best.cost) ∧ w'.cell? ⟨g, 4 + 2, none⟩ = some (.int .u64 t1.best.bridge) ∧ w'.cell? ⟨g, 4 + 3, none⟩ = some (.int .i64 t1.best.port) ∧ w'.cell? ⟨g, 8, none⟩ = some (.int .i64 t1.change) ∧ w'.cell? ⟨g, 2, none⟩ = some (.int .i64 t1.now) ∧ w'.cell? ⟨wr.heap.size, 11, none⟩ = some (.bool p.fwd)) (by kernel_rfl) ⟨c0, c4, c5', c6', c7', c8, c2, c11⟩ (fun hHeld => ?_)
                  have gc : wa.cell? ⟨g, 0, none⟩ = some (.int .u64 t1.bridge) ∧ wa.cell? ⟨g, 4, none⟩ = some (.int .u64 t1.best.root) ∧ wa.cell? ⟨g, 4 + 1, none⟩ = some (.int .i64 t1.best.cost) ∧ wa.cell? ⟨g, 4 + 2, none⟩ = some (.int .u64 t1.best.bridge) ∧ wa.cell? ⟨g, 4 + 3, none⟩ = some (.int .i64 t1.best.port) ∧ wa.cell? ⟨g, 8, none⟩ = some (.int .i64 t1.change) ∧ wa.cell? ⟨g, 2, none⟩ = some (.int .i64 t1.now) ∧ wa.cell? ⟨wr.heap.size, 11, none⟩ = some (.bool p.fwd) := ⟨c0, c4, c5', c6', c7', c8, c2, c11⟩
                  refine wpAnyH_take (i := 0) (v := ?_) rfl (by kernel_rfl) (by kernel_rfl) (by kernel_rfl) (fun _ _ _ h => h) (Or.inl ⟨by kernel_rfl, ?_⟩) hHeld ?_
                  rotate_left
                  · (intro w hSw; go_split_ands; (try go_simp); (try with_reducible rfl))
                  (try simp only [Act.put, List.setIfInBounds_toArray, List.set_cons_zero, List.set_cons_succ])
                  refine wpAnyH_take (i := 1) (v := ?_) rfl (by kernel_rfl) (by kernel_rfl) (by kernel_rfl) (fun _ _ _ h => h) (Or.inl ⟨by kernel_rfl, ?_⟩) hHeld ?_
                  rotate_left
                  · (intro w hSw; go_split_ands; (try go_simp); (try with_reducible rfl))
                  (try simp only [Act.put, List.setIfInBounds_toArray, List.set_cons_zero, List.set_cons_succ])
                  refine wpAnyH_take (i := 2) (v := ?_) rfl (by kernel_rfl) (by kernel_rfl) (by kernel_rfl) (fun _ _ _ h => h) (Or.inl ⟨by kernel_rfl, ?_⟩) hHeld ?_
                  rotate_left
                  · (intro w hSw; go_split_ands; (try go_simp); (try with_reducible rfl))
                  (try simp only [Act.put, List.setIfInBounds_toArray, List.set_cons_zero, List.set_cons_succ])
                  refine wpAnyH_take (i := 3) (v := ?_) rfl (by kernel_rfl) (by kernel_rfl) (by kernel_rfl) (fun _ _ _ h => h) (Or.inl ⟨by kernel_rfl, ?_⟩) hHeld ?_
                  rotate_left
                  · (intro w hSw; go_split_ands; (try go_simp); (try with_reducible rfl))
                  (try simp only [Act.put, List.setIfInBounds_toArray, List.set_cons_zero, List.set_cons_succ])
                  refine wpAnyH_take (i := 4) (v := ?_) rfl (by kernel_rfl) (by kernel_rfl) (by kernel_rfl) (fun _ _ _ h => h) (Or.inl ⟨by kernel_rfl, ?_⟩) hHeld ?_
                  rotate_left
                  · (intro w hSw; go_split_ands; (try go_simp); (try with_reducible rfl))
                  (try simp only [Act.put, List.setIfInBounds_toArray, List.set_cons_zero, List.set_cons_succ])
                  refine wpAnyH_take (i := 5) (v := ?_) rfl (by kernel_rfl) (by kernel_rfl) (by kernel_rfl) (fun _ _ _ h => h) (Or.inl ⟨by kernel_rfl, ?_⟩) hHeld ?_
                  rotate_left
                  · (intro w hSw; go_split_ands; (try go_simp); (try with_reducible rfl))
                  (try simp only [Act.put, List.setIfInBounds_toArray, List.set_cons_zero, List.set_cons_succ])
                  refine wpAnyH_take (i := 6) (v := ?_) rfl (by kernel_rfl) (by kernel_rfl) (by kernel_rfl) (fun _ _ _ h => h) (Or.inl ⟨by kernel_rfl, ?_⟩) hHeld ?_
                  rotate_left
                  · (intro w hSw; go_split_ands; (try go_simp); (try with_reducible rfl))
                  (try simp only [Act.put, List.setIfInBounds_toArray, List.set_cons_zero, List.set_cons_succ])
                  refine wpAnyH_take (i := 7) (v := ?_) rfl (by kernel_rfl) (by kernel_rfl) (by kernel_rfl) (fun _ _ _ h => h) (Or.inl ⟨by kernel_rfl, ?_⟩) hHeld ?_
                  rotate_left
                  · (intro w hSw; go_split_ands; (try go_simp); (try with_reducible rfl))
                  (try simp only [Act.put, List.setIfInBounds_toArray, List.set_cons_zero, List.set_cons_succ])
                  refine wpAnyH_take (i := 8) (v := ?_) rfl (by kernel_rfl) (by kernel_rfl) (by kernel_rfl) (fun _ _ _ h => h) (Or.inl ⟨by kernel_rfl, ?_⟩) hHeld ?_
                  rotate_left
                  · (intro w hSw; go_split_ands; (try go_simp); (try with_reducible rfl))
                  (try simp only [Act.put, List.setIfInBounds_toArray, List.set_cons_zero, List.set_cons_succ])
                  refine wpAnyH_take (i := 10) (v := ?_) rfl (by kernel_rfl) (by kernel_rfl) (by kernel_rfl) (fun _ _ _ h => h) (Or.inl ⟨by kernel_rfl, ?_⟩) hHeld ?_
                  rotate_left
                  · (intro w hSw; go_split_ands; (try go_simp); (try with_reducible rfl))
                  (try simp only [Act.put, List.setIfInBounds_toArray, List.set_cons_zero, List.set_cons_succ])
                  refine wpAnyH_take (i := 11) (v := ?_) rfl (by kernel_rfl) (by kernel_rfl) (by kernel_rfl) (fun _ _ _ h => h) (Or.inl ⟨by kernel_rfl, ?_⟩) hHeld ?_
                  rotate_left
                  · (intro w hSw; go_split_ands; (try go_simp); (try with_reducible rfl))
                  (try simp only [Act.put, List.setIfInBounds_toArray, List.set_cons_zero, List.set_cons_succ])
                  refine wpAnyH_take (i := 12) (v := ?_) rfl (by kernel_rfl) (by kernel_rfl) (by kernel_rfl) (fun _ _ _ h => h) (Or.inl ⟨by kernel_rfl, ?_⟩) hHeld ?_
                  rotate_left
                  · (intro w hSw; go_split_ands; (try go_simp); (try with_reducible rfl))
                  (try simp only [Act.put, List.setIfInBounds_toArray, List.set_cons_zero, List.set_cons_succ])
                  refine wpAnyH_take (i := 13) (v := ?_) rfl (by kernel_rfl) (by kernel_rfl) (by kernel_rfl) (fun _ _ _ h => h) (Or.inl ⟨by kernel_rfl, ?_⟩) hHeld ?_
                  rotate_left
                  · (intro w hSw; go_split_ands; (try go_simp); (try with_reducible rfl))
                  (try simp only [Act.put, List.setIfInBounds_toArray, List.set_cons_zero, List.set_cons_succ])
                  refine wpAnyH_take (i := 14) (v := ?_) rfl (by kernel_rfl) (by kernel_rfl) (by kernel_rfl) (fun _ _ _ h => h) (Or.inl ⟨by kernel_rfl, ?_⟩) hHeld ?_
                  rotate_left
                  · (intro w hSw; go_split_ands; (try go_simp); (try with_reducible rfl))
                  (try simp only [Act.put, List.setIfInBounds_toArray, List.set_cons_zero, List.set_cons_succ])
                  refine wpAnyH_take (i := 15) (v := ?_) rfl (by kernel_rfl) (by kernel_rfl) (by kernel_rfl) (fun _ _ _ h => h) (Or.inl ⟨by kernel_rfl, ?_⟩) hHeld ?_
                  rotate_left
                  · (intro w hSw; go_split_ands; (try go_simp); (try with_reducible rfl))
                  (try simp only [Act.put, List.setIfInBounds_toArray, List.set_cons_zero, List.set_cons_succ])
                  refine wpAnyH_take (i := 28) (v := ?_) rfl (by kernel_rfl) (by kernel_rfl) (by kernel_rfl) (fun _ _ _ h => h) (Or.inl ⟨by kernel_rfl, ?_⟩) hHeld ?_
                  rotate_left
                  · (intro w hSw; go_split_ands; (try go_simp); (try with_reducible rfl))
                  (try simp only [Act.put, List.setIfInBounds_toArray, List.set_cons_zero, List.set_cons_succ])
                  refine wpAnyH_take (i := 29) (v := ?_) rfl (by kernel_rfl) (by kernel_rfl) (by kernel_rfl) (fun _ _ _ h => h) (Or.inl ⟨by kernel_rfl, ?_⟩) hHeld ?_
                  rotate_left
                  · (intro w hSw; go_split_ands; (try go_simp); (try with_reducible rfl))
                  (try simp only [Act.put, List.setIfInBounds_toArray, List.set_cons_zero, List.set_cons_succ])
                  refine wpAnyH_take (i := 31) (v := ?_) rfl (by kernel_rfl) (by kernel_rfl) (by kernel_rfl) (fun _ _ _ h => h) (Or.inl ⟨by kernel_rfl, ?_⟩) hHeld ?_
                  rotate_left
                  · (intro w hSw; go_split_ands; (try go_simp); (try with_reducible rfl))
                  (try simp only [Act.put, List.setIfInBounds_toArray, List.set_cons_zero, List.set_cons_succ])
                  refine wpAnyH_take (i := 32) (v := ?_) rfl (by kernel_rfl) (by kernel_rfl) (by kernel_rfl) (fun _ _ _ h => h) (Or.inl ⟨by kernel_rfl, ?_⟩) hHeld ?_
                  rotate_left
                  · (intro w hSw; go_split_ands; (try go_simp); (try with_reducible rfl))
                  (try simp only [Act.put, List.setIfInBounds_toArray, List.set_cons_zero, List.set_cons_succ])
                  refine wpAnyH_ready (rs := [9, 34]) (by kernel_rfl) (by simp) ?_
                  refine AllReadyH.cons (o := _) rfl (fun K hK => ?_) ?_
                  · skip
                    go_simp
                    refine (rtells_ t1.bridge t1.best k _).mono ?_
                    rintro e w5 ⟨rfl, hb5⟩
                    have g5 : w5.cell? ⟨g, 0, none⟩ = some (.int .u64 t1.bridge) ∧ w5.cell? ⟨g, 4, none⟩ = some (.int .u64 t1.best.root) ∧ w5.cell? ⟨g, 4 + 1, none⟩ = some (.int .i64 t1.best.cost) ∧ w5.cell? ⟨g, 4 + 2, none⟩ = some (.int .u64 t1.best.bridge) ∧ w5.cell? ⟨g, 4 + 3, none⟩ = some (.int .i64 t1.best.port) ∧ w5.cell? ⟨g, 8, none⟩ = some (.int .i64 t1.change) ∧ w5.cell? ⟨g, 2, none⟩ = some (.int .i64 t1.now) ∧ w5.cell? ⟨wr.heap.size, 11, none⟩ = some (.bool p.fwd) := ⟨bkeep hb5 hga c0, bkeep hb5 hga c4, bkeep hb5 hga c5', bkeep hb5 hga c6', bkeep hb5 hga c7', bkeep hb5 hga c8, bkeep hb5 hga c2, bkeep hb5 hxa c11⟩
                    have HAT5 := Lib.hid ((HAT3.out.drew).below hb5)
                    have HB5 : Hid (Below wa.heap.size wa w5) := Lib.hid (Below.trans (b := wa.drew) (Below.drew (Below.refl wa.heap.size wa)) hb5)
                    have hz5 : wa.heap.size ≤ w5.heap.size := hb5.size
                    clear hb5
                    go_wp2_with fail
                    refine hK.out _ _ ?_ (fun hHeld => ?_)
                    · ((try dsimp only); first | (with_reducible exact g5) | (obtain ⟨k0, k1, k2, k3, k4, k5, k6, k7⟩ := g5; simp (disch := ((try simp) <;> omega)) [alloc_cell, cell_far, hgx, k0, k1, k2, k3, k4, k5, k6, k7]; done))
                    clear hK K
                    (try simp only [Act.put, List.setIfInBounds_toArray, List.set_cons_zero, List.set_cons_succ])
                    refine wpAnyH_take (i := 16) (v := ?_) rfl (by kernel_rfl) (by kernel_rfl) (by kernel_rfl) (fun _ _ _ h => h) (Or.inl ⟨by kernel_rfl, ?_⟩) hHeld ?_
                    rotate_left
                    · (intro w hSw; go_split_ands; (try go_simp); (try with_reducible rfl))
                    (try simp only [Act.put, List.setIfInBounds_toArray, List.set_cons_zero, List.set_cons_succ])
                    refine wpAnyH_take (i := 17) (v := undef) rfl (by kernel_rfl) (by kernel_rfl) (by kernel_rfl) (fun _ _ _ h => h) (Or.inr ⟨by kernel_rfl, rfl⟩) hHeld ?_
                    (try simp only [Act.put, List.setIfInBounds_toArray, List.set_cons_zero, List.set_cons_succ])
                    refine wpAnyH_take (i := 18) (v := undef) rfl (by kernel_rfl) (by kernel_rfl) (by kernel_rfl) (fun _ _ _ h => h) (Or.inr ⟨by kernel_rfl, rfl⟩) hHeld ?_
                    (try simp only [Act.put, List.setIfInBounds_toArray, List.set_cons_zero, List.set_cons_succ])
                    refine wpAnyH_take (i := 19) (v := undef) rfl (by kernel_rfl) (by kernel_rfl) (by kernel_rfl) (fun _ _ _ h => h) (Or.inr ⟨by kernel_rfl, rfl⟩) hHeld ?_
                    (try simp only [Act.put, List.setIfInBounds_toArray, List.set_cons_zero, List.set_cons_succ])
                    refine wpAnyH_take (i := 20) (v := undef) rfl (by kernel_rfl) (by kernel_rfl) (by kernel_rfl) (fun _ _ _ h => h) (Or.inr ⟨by kernel_rfl, rfl⟩) hHeld ?_
                    (try simp only [Act.put, List.setIfInBounds_toArray, List.set_cons_zero, List.set_cons_succ])
                    refine wpAnyH_take (i := 21) (v := undef) rfl (by kernel_rfl) (by kernel_rfl) (by kernel_rfl) (fun _ _ _ h => h) (Or.inr ⟨by kernel_rfl, rfl⟩) hHeld ?_
                    (try simp only [Act.put, List.setIfInBounds_toArray, List.set_cons_zero, List.set_cons_succ])
                    refine wpAnyH_take (i := 22) (v := undef) rfl (by kernel_rfl) (by kernel_rfl) (by kernel_rfl) (fun _ _ _ h => h) (Or.inr ⟨by kernel_rfl, rfl⟩) hHeld ?_
                    (try simp only [Act.put, List.setIfInBounds_toArray, List.set_cons_zero, List.set_cons_succ])
                    refine wpAnyH_take (i := 23) (v := undef) rfl (by kernel_rfl) (by kernel_rfl) (by kernel_rfl) (fun _ _ _ h => h) (Or.inr ⟨by kernel_rfl, rfl⟩) hHeld ?_
                    (try simp only [Act.put, List.setIfInBounds_toArray, List.set_cons_zero, List.set_cons_succ])
                    refine wpAnyH_take (i := 24) (v := undef) rfl (by kernel_rfl) (by kernel_rfl) (by kernel_rfl) (fun _ _ _ h => h) (Or.inr ⟨by kernel_rfl, rfl⟩) hHeld ?_
                    (try simp only [Act.put, List.setIfInBounds_toArray, List.set_cons_zero, List.set_cons_succ])
                    refine wpAnyH_take (i := 25) (v := undef) rfl (by kernel_rfl) (by kernel_rfl) (by kernel_rfl) (fun _ _ _ h => h) (Or.inr ⟨by kernel_rfl, rfl⟩) hHeld ?_
                    (try simp only [Act.put, List.setIfInBounds_toArray, List.set_cons_zero, List.set_cons_succ])
                    refine wpAnyH_take (i := 26) (v := undef) rfl (by kernel_rfl) (by kernel_rfl) (by kernel_rfl) (fun _ _ _ h => h) (Or.inr ⟨by kernel_rfl, rfl⟩) hHeld ?_
                    (try simp only [Act.put, List.setIfInBounds_toArray, List.set_cons_zero, List.set_cons_succ])
                    refine wpAnyH_take (i := 27) (v := ?_) rfl (by kernel_rfl) (by kernel_rfl) (by kernel_rfl) (fun _ _ _ h => h) (Or.inl ⟨by kernel_rfl, ?_⟩) hHeld ?_
                    rotate_left
                    · (intro w hSw; go_split_ands; (try go_simp); (try with_reducible rfl))
                    (try simp only [Act.put, List.setIfInBounds_toArray, List.set_cons_zero, List.set_cons_succ])
                    refine wpAnyH_ready (rs := [30, 34]) (by kernel_rfl) (by simp) ?_
                    refine AllReadyH.cons (o := _) rfl (fun K hK => ?_) ?_
                    · skip
                      go_simp
                      refine (LRN.out _ HAT5.out).mono ?_
                      rintro e w6 ⟨rfl, n6, hw6⟩
                      have g6 : w6.cell? ⟨g, 0, none⟩ = some (.int .u64 t1.bridge) ∧ w6.cell? ⟨g, 4, none⟩ = some (.int .u64 t1.best.root) ∧ w6.cell? ⟨g, 4 + 1, none⟩ = some (.int .i64 t1.best.cost) ∧ w6.cell? ⟨g, 4 + 2, none⟩ = some (.int .u64 t1.best.bridge) ∧ w6.cell? ⟨g, 4 + 3, none⟩ = some (.int .i64 t1.best.port) ∧ w6.cell? ⟨g, 8, none⟩ = some (.int .i64 t1.change) ∧ w6.cell? ⟨g, 2, none⟩ = some (.int .i64 t1.now) ∧ w6.cell? ⟨wr.heap.size, 11, none⟩ = some (.bool p.fwd) := (by rw [hw6]; exact g5)
                      have HB6 : Hid (Below wa.heap.size wa w6) := Lib.hid (by rw [hw6]; exact below_drewN HB5.out n6)
                      have hz6 : wa.heap.size ≤ w6.heap.size := (by rw [hw6]; exact hz5)
                      clear hw6
                      go_wp2_with fail
                      refine hK.out _ _ ?_ (fun hHeld => ?_)
                      · ((try dsimp only); first | (with_reducible exact g6) | (obtain ⟨k0, k1, k2, k3, k4, k5, k6, k7⟩ := g6; simp (disch := ((try simp) <;> omega)) [alloc_cell, cell_far, hgx, k0, k1, k2, k3, k4, k5, k6, k7]; done))
                      clear hK K
                      (try simp only [Act.put, List.setIfInBounds_toArray, List.set_cons_zero, List.set_cons_succ])
                      refine wpAnyH_take (i := 33) (v := ?_) rfl (by kernel_rfl) (by kernel_rfl) (by kernel_rfl) (fun _ _ _ h => h) (Or.inl ⟨by kernel_rfl, ?_⟩) hHeld ?_
                      rotate_left
                      · (intro w hSw; go_split_ands; (try go_simp); (try with_reducible rfl))
                      (try simp only [Act.put, List.setIfInBounds_toArray, List.set_cons_zero, List.set_cons_succ])
                      refine wpAnyH_ready (rs := [34]) (by kernel_rfl) (by simp) ?_
                      refine AllReadyH.cons (o := _) rfl (fun K hK => ?_) ?_
                      rotate_left
                      · exact AllReadyH.nil
                      go_simp
                      refine hK.out _ _ ?_ (fun hHeld => ?_)
                      · ((try dsimp only); first | (with_reducible exact g6) | (obtain ⟨k0, k1, k2, k3, k4, k5, k6, k7⟩ := g6; simp (disch := ((try simp) <;> omega)) [alloc_cell, cell_far, hgx, k0, k1, k2, k3, k4, k5, k6, k7]; done))
                      clear hK K
                      (try simp only [Act.put, List.setIfInBounds_toArray, List.set_cons_zero, List.set_cons_succ])
                      refine wpAnyH_ready (rs := [35]) (by kernel_rfl) (by simp) ?_
                      refine AllReadyH.cons (o := _) rfl (fun K hK => ?_) ?_
                      rotate_left
                      · exact AllReadyH.nil
                      go_simp
                      refine hK.out _ _ ?_ (fun hHeld => ?_)
                      · ((try dsimp only); first | (with_reducible exact g6) | (obtain ⟨k0, k1, k2, k3, k4, k5, k6, k7⟩ := g6; simp (disch := ((try simp) <;> omega)) [alloc_cell, cell_far, hgx, k0, k1, k2, k3, k4, k5, k6, k7]; done))
                      clear hK K
                      (try simp only [Act.put, List.setIfInBounds_toArray, List.set_cons_zero, List.set_cons_succ])
                      refine wpAnyH_done (by kernel_rfl) ?_ _
                      go_wp2_with fail
                      go_meet
                      exact ⟨_, rfl, hz6, by rw [outB E'.out]; exact Blk.new _ _ _, HB6.out.alloc hz6 _⟩
                    · refine AllReadyH.cons (o := _) rfl (fun K hK => ?_) AllReadyH.nil
                      go_simp
                      refine hK.out _ _ ?_ (fun hHeld => ?_)
                      · ((try dsimp only); first | (with_reducible exact g5) | (obtain ⟨k0, k1, k2, k3, k4, k5, k6, k7⟩ := g5; simp (disch := ((try simp) <;> omega)) [alloc_cell, cell_far, hgx, k0, k1, k2, k3, k4, k5, k6, k7]; done))
                      clear hK K
                      (try simp only [Act.put, List.setIfInBounds_toArray, List.set_cons_zero, List.set_cons_succ])
                      refine wpAnyH_ready (rs := [30]) (by kernel_rfl) (by simp) ?_
                      refine AllReadyH.cons (o := _) rfl (fun K hK => ?_) ?_
                      rotate_left
                      · exact AllReadyH.nil
                      go_simp
                      refine (LRN.out _ (HAT5.out.alloc _)).mono ?_
                      rintro e w6 ⟨rfl, n6, hw6⟩
                      have hg5 : g < w5.heap.size := (by omega)
                      have hx5 : wr.heap.size < w5.heap.size := (by omega)
                      have g6 : w6.cell? ⟨g, 0, none⟩ = some (.int .u64 t1.bridge) ∧ w6.cell? ⟨g, 4, none⟩ = some (.int .u64 t1.best.root) ∧ w6.cell? ⟨g, 4 + 1, none⟩ = some (.int .i64 t1.best.cost) ∧ w6.cell? ⟨g, 4 + 2, none⟩ = some (.int .u64 t1.best.bridge) ∧ w6.cell? ⟨g, 4 + 3, none⟩ = some (.int .i64 t1.best.port) ∧ w6.cell? ⟨g, 8, none⟩ = some (.int .i64 t1.change) ∧ w6.cell? ⟨g, 2, none⟩ = some (.int .i64 t1.now) ∧ w6.cell? ⟨wr.heap.size, 11, none⟩ = some (.bool p.fwd) := (by rw [hw6]; exact ⟨cell_drewN_alloc hg5 g5.1, cell_drewN_alloc hg5 g5.2.1, cell_drewN_alloc hg5 g5.2.2.1, cell_drewN_alloc hg5 g5.2.2.2.1, cell_drewN_alloc hg5 g5.2.2.2.2.1, cell_drewN_alloc hg5 g5.2.2.2.2.2.1, cell_drewN_alloc hg5 g5.2.2.2.2.2.2.1, cell_drewN_alloc hx5 g5.2.2.2.2.2.2.2⟩)
                      have BL6 : Blk w6 w5.heap.size 37 #[.int .u64 0, .int .i64 0, .int .u64 0, .int .i64 0, .int .i64 0, .bool false, .bool false, .bool false] := (by rw [hw6]; exact blk_drewN_new w5 _ _ n6)
                      have z0 : w6.cell? ⟨w5.heap.size, 0, none⟩ = some (.int .u64 0) := BL6.cell 0
                      have y0 : w6.frozen? ⟨w5.heap.size, 0, none⟩ = false := BL6.frozen 0
                      have z1 : w6.cell? ⟨w5.heap.size, 1, none⟩ = some (.int .i64 0) := BL6.cell 1
                      have y1 : w6.frozen? ⟨w5.heap.size, 1, none⟩ = false := BL6.frozen 1
                      have z2 : w6.cell? ⟨w5.heap.size, 2, none⟩ = some (.int .u64 0) := BL6.cell 2
                      have y2 : w6.frozen? ⟨w5.heap.size, 2, none⟩ = false := BL6.frozen 2
                      have z3 : w6.cell? ⟨w5.heap.size, 3, none⟩ = some (.int .i64 0) := BL6.cell 3
                      have y3 : w6.frozen? ⟨w5.heap.size, 3, none⟩ = false := BL6.frozen 3
                      have z4 : w6.cell? ⟨w5.heap.size, 4, none⟩ = some (.int .i64 0) := BL6.cell 4
                      have y4 : w6.frozen? ⟨w5.heap.size, 4, none⟩ = false := BL6.frozen 4
                      have z5 : w6.cell? ⟨w5.heap.size, 5, none⟩ = some (.bool false) := BL6.cell 5
                      have y5 : w6.frozen? ⟨w5.heap.size, 5, none⟩ = false := BL6.frozen 5
                      have z6 : w6.cell? ⟨w5.heap.size, 6, none⟩ = some (.bool false) := BL6.cell 6
                      have y6 : w6.frozen? ⟨w5.heap.size, 6, none⟩ = false := BL6.frozen 6
                      have z7 : w6.cell? ⟨w5.heap.size, 7, none⟩ = some (.bool false) := BL6.cell 7
                      have y7 : w6.frozen? ⟨w5.heap.size, 7, none⟩ = false := BL6.frozen 7
                      have HBL6 := Lib.hid BL6
                      have HB6 : Hid (Below wa.heap.size wa w6) := Lib.hid (by rw [hw6]; exact below_drewN_alloc HB5.out hz5 _ n6)
                      have hz6 : w5.heap.size < w6.heap.size := BL6.lt
                      clear hw6 BL6
                      go_wp2_with fail
                      refine hK.out _ _ ?_ (fun hHeld => ?_)
                      · ((try dsimp only); first | (with_reducible exact g6) | (obtain ⟨k0, k1, k2, k3, k4, k5, k6, k7⟩ := g6; simp (disch := ((try simp) <;> omega)) [alloc_cell, cell_far, hgx, k0, k1, k2, k3, k4, k5, k6, k7]; done))
                      clear hK K
                      (try simp only [Act.put, List.setIfInBounds_toArray, List.set_cons_zero, List.set_cons_succ])
                      refine wpAnyH_take (i := 33) (v := ?_) rfl (by kernel_rfl) (by kernel_rfl) (by kernel_rfl) (fun _ _ _ h => h) (Or.inl ⟨by kernel_rfl, ?_⟩) hHeld ?_
                      rotate_left
                      · (intro w hSw; go_split_ands; (try go_simp); (try with_reducible rfl))
                      (try simp only [Act.put, List.setIfInBounds_toArray, List.set_cons_zero, List.set_cons_succ])
                      refine wpAnyH_ready (rs := [35]) (by kernel_rfl) (by simp) ?_
                      refine AllReadyH.cons (o := _) rfl (fun K hK => ?_) ?_
                      rotate_left
                      · exact AllReadyH.nil
                      go_simp
                      refine hK.out _ _ ?_ (fun hHeld => ?_)
                      · ((try dsimp only); first | (with_reducible exact g6) | (obtain ⟨k0, k1, k2, k3, k4, k5, k6, k7⟩ := g6; simp (disch := ((try simp) <;> omega)) [alloc_cell, cell_far, hgx, k0, k1, k2, k3, k4, k5, k6, k7]; done))
                      clear hK K
                      (try simp only [Act.put, List.setIfInBounds_toArray, List.set_cons_zero, List.set_cons_succ])
                      refine wpAnyH_done (by kernel_rfl) ?_ _
                      go_wp2_with fail
                      go_meet
                      exact ⟨_, rfl, hz5, by rw [outB E'.out]; exact blk_store8 HBL6.out, below_store8 HB6.out hz5⟩
                  · refine AllReadyH.cons (o := _) rfl (fun K hK => ?_) AllReadyH.nil
                    go_simp
                    refine hK.out _ _ ?_ (fun hHeld => ?_)
                    · ((try dsimp only); first | (with_reducible exact gc) | (obtain ⟨k0, k1, k2, k3, k4, k5, k6, k7⟩ := gc; simp (disch := ((try simp) <;> omega)) [alloc_cell, cell_far, hgx, k0, k1, k2, k3, k4, k5, k6, k7]; done))
                    clear hK K
                    (try simp only [Act.put, List.setIfInBounds_toArray, List.set_cons_zero, List.set_cons_succ])
                    refine wpAnyH_ready (rs := [9]) (by kernel_rfl) (by simp) ?_
                    refine AllReadyH.cons (o := _) rfl (fun K hK => ?_) ?_
                    rotate_left
                    · exact AllReadyH.nil
                    go_simp
                    refine (rtells_ t1.bridge t1.best k _).mono ?_
                    rintro e w5 ⟨rfl, hb5⟩
                    have hgA := lt_drew_alloc (o := (.cells #[.int .u64 0, .int .i64 0, .int .u64 0, .int .i64 0, .int .i64 0, .bool false, .bool false, .bool false] 37)) hga
                    have hxA := lt_drew_alloc (o := (.cells #[.int .u64 0, .int .i64 0, .int .u64 0, .int .i64 0, .int .i64 0, .bool false, .bool false, .bool false] 37)) hxa
                    have g5 : w5.cell? ⟨g, 0, none⟩ = some (.int .u64 t1.bridge) ∧ w5.cell? ⟨g, 4, none⟩ = some (.int .u64 t1.best.root) ∧ w5.cell? ⟨g, 4 + 1, none⟩ = some (.int .i64 t1.best.cost) ∧ w5.cell? ⟨g, 4 + 2, none⟩ = some (.int .u64 t1.best.bridge) ∧ w5.cell? ⟨g, 4 + 3, none⟩ = some (.int .i64 t1.best.port) ∧ w5.cell? ⟨g, 8, none⟩ = some (.int .i64 t1.change) ∧ w5.cell? ⟨g, 2, none⟩ = some (.int .i64 t1.now) ∧ w5.cell? ⟨wr.heap.size, 11, none⟩ = some (.bool p.fwd) := ⟨bkeep hb5 hgA (cell_drew_alloc hga c0), bkeep hb5 hgA (cell_drew_alloc hga c4), bkeep hb5 hgA (cell_drew_alloc hga c5'), bkeep hb5 hgA (cell_drew_alloc hga c6'), bkeep hb5 hgA (cell_drew_alloc hga c7'), bkeep hb5 hgA (cell_drew_alloc hga c8), bkeep hb5 hgA (cell_drew_alloc hga c2), bkeep hb5 hxA (cell_drew_alloc hxa c11)⟩
                    have HAT5 := Lib.hid (rat_drew_alloc HAT3.out hb5)
                    have HB5 : Hid (Below wa.heap.size wa w5) := Lib.hid (below_drew_alloc hb5)
                    have BL5 : Hid (Blk w5 wa.heap.size 37 #[.int .u64 0, .int .i64 0, .int .u64 0, .int .i64 0, .int .i64 0, .bool false, .bool false, .bool false]) := Lib.hid (blk_drew_alloc hb5)
                    have hz5 : wa.heap.size < w5.heap.size := BL5.out.lt
                    clear hb5 hgA hxA
                    go_wp2_with fail
                    refine hK.out _ _ ?_ (fun hHeld => ?_)
                    · ((try dsimp only); first | (with_reducible exact g5) | (obtain ⟨k0, k1, k2, k3, k4, k5, k6, k7⟩ := g5; simp (disch := ((try simp) <;> omega)) [alloc_cell, cell_far, hgx, k0, k1, k2, k3, k4, k5, k6, k7]; done))
                    clear hK K
                    (try simp only [Act.put, List.setIfInBounds_toArray, List.set_cons_zero, List.set_cons_succ])
                    refine wpAnyH_take (i := 16) (v := ?_) rfl (by kernel_rfl) (by kernel_rfl) (by kernel_rfl) (fun _ _ _ h => h) (Or.inl ⟨by kernel_rfl, ?_⟩) hHeld ?_
                    rotate_left
                    · (intro w hSw; go_split_ands; (try go_simp); (try with_reducible rfl))
                    (try simp only [Act.put, List.setIfInBounds_toArray, List.set_cons_zero, List.set_cons_succ])
                    refine wpAnyH_take (i := 17) (v := undef) rfl (by kernel_rfl) (by kernel_rfl) (by kernel_rfl) (fun _ _ _ h => h) (Or.inr ⟨by kernel_rfl, rfl⟩) hHeld ?_
                    (try simp only [Act.put, List.setIfInBounds_toArray, List.set_cons_zero, List.set_cons_succ])
                    refine wpAnyH_take (i := 18) (v := undef) rfl (by kernel_rfl) (by kernel_rfl) (by kernel_rfl) (fun _ _ _ h => h) (Or.inr ⟨by kernel_rfl, rfl⟩) hHeld ?_
                    (try simp only [Act.put, List.setIfInBounds_toArray, List.set_cons_zero, List.set_cons_succ])
                    refine wpAnyH_take (i := 19) (v := undef) rfl (by kernel_rfl) (by kernel_rfl) (by kernel_rfl) (fun _ _ _ h => h) (Or.inr ⟨by kernel_rfl, rfl⟩) hHeld ?_
                    (try simp only [Act.put, List.setIfInBounds_toArray, List.set_cons_zero, List.set_cons_succ])
                    refine wpAnyH_take (i := 20) (v := undef) rfl (by kernel_rfl) (by kernel_rfl) (by kernel_rfl) (fun _ _ _ h => h) (Or.inr ⟨by kernel_rfl, rfl⟩) hHeld ?_
                    (try simp only [Act.put, List.setIfInBounds_toArray, List.set_cons_zero, List.set_cons_succ])
                    refine wpAnyH_take (i := 21) (v := undef) rfl (by kernel_rfl) (by kernel_rfl) (by kernel_rfl) (fun _ _ _ h => h) (Or.inr ⟨by kernel_rfl, rfl⟩) hHeld ?_
                    (try simp only [Act.put, List.setIfInBounds_toArray, List.set_cons_zero, List.set_cons_succ])
                    refine wpAnyH_take (i := 22) (v := undef) rfl (by kernel_rfl) (by kernel_rfl) (by kernel_rfl) (fun _ _ _ h => h) (Or.inr ⟨by kernel_rfl, rfl⟩) hHeld ?_
                    (try simp only [Act.put, List.setIfInBounds_toArray, List.set_cons_zero, List.set_cons_succ])
                    refine wpAnyH_take (i := 23) (v := undef) rfl (by kernel_rfl) (by kernel_rfl) (by kernel_rfl) (fun _ _ _ h => h) (Or.inr ⟨by kernel_rfl, rfl⟩) hHeld ?_
                    (try simp only [Act.put, List.setIfInBounds_toArray, List.set_cons_zero, List.set_cons_succ])
                    refine wpAnyH_take (i := 24) (v := undef) rfl (by kernel_rfl) (by kernel_rfl) (by kernel_rfl) (fun _ _ _ h => h) (Or.inr ⟨by kernel_rfl, rfl⟩) hHeld ?_
                    (try simp only [Act.put, List.setIfInBounds_toArray, List.set_cons_zero, List.set_cons_succ])
                    refine wpAnyH_take (i := 25) (v := undef) rfl (by kernel_rfl) (by kernel_rfl) (by kernel_rfl) (fun _ _ _ h => h) (Or.inr ⟨by kernel_rfl, rfl⟩) hHeld ?_
                    (try simp only [Act.put, List.setIfInBounds_toArray, List.set_cons_zero, List.set_cons_succ])
                    refine wpAnyH_take (i := 26) (v := undef) rfl (by kernel_rfl) (by kernel_rfl) (by kernel_rfl) (fun _ _ _ h => h) (Or.inr ⟨by kernel_rfl, rfl⟩) hHeld ?_
                    (try simp only [Act.put, List.setIfInBounds_toArray, List.set_cons_zero, List.set_cons_succ])
                    refine wpAnyH_take (i := 27) (v := ?_) rfl (by kernel_rfl) (by kernel_rfl) (by kernel_rfl) (fun _ _ _ h => h) (Or.inl ⟨by kernel_rfl, ?_⟩) hHeld ?_
                    rotate_left
                    · (intro w hSw; go_split_ands; (try go_simp); (try with_reducible rfl))
                    (try simp only [Act.put, List.setIfInBounds_toArray, List.set_cons_zero, List.set_cons_succ])
                    refine wpAnyH_ready (rs := [30]) (by kernel_rfl) (by simp) ?_
                    refine AllReadyH.cons (o := _) rfl (fun K hK => ?_) ?_
                    rotate_left
                    · exact AllReadyH.nil
                    go_simp
                    refine (LRN.out _ HAT5.out).mono ?_
                    rintro e w6 ⟨rfl, n6, hw6⟩
                    have g6 : w6.cell? ⟨g, 0, none⟩ = some (.int .u64 t1.bridge) ∧ w6.cell? ⟨g, 4, none⟩ = some (.int .u64 t1.best.root) ∧ w6.cell? ⟨g, 4 + 1, none⟩ = some (.int .i64 t1.best.cost) ∧ w6.cell? ⟨g, 4 + 2, none⟩ = some (.int .u64 t1.best.bridge) ∧ w6.cell? ⟨g, 4 + 3, none⟩ = some (.int .i64 t1.best.port) ∧ w6.cell? ⟨g, 8, none⟩ = some (.int .i64 t1.change) ∧ w6.cell? ⟨g, 2, none⟩ = some (.int .i64 t1.now) ∧ w6.cell? ⟨wr.heap.size, 11, none⟩ = some (.bool p.fwd) := (by rw [hw6]; exact g5)
                    have BL6 : Blk w6 wa.heap.size 37 #[.int .u64 0, .int .i64 0, .int .u64 0, .int .i64 0, .int .i64 0, .bool false, .bool false, .bool false] := (by rw [hw6]; exact BL5.out.drewN n6)
                    have z0 : w6.cell? ⟨wa.heap.size, 0, none⟩ = some (.int .u64 0) := BL6.cell 0
                    have y0 : w6.frozen? ⟨wa.heap.size, 0, none⟩ = false := BL6.frozen 0
                    have z1 : w6.cell? ⟨wa.heap.size, 1, none⟩ = some (.int .i64 0) := BL6.cell 1
                    have y1 : w6.frozen? ⟨wa.heap.size, 1, none⟩ = false := BL6.frozen 1
                    have z2 : w6.cell? ⟨wa.heap.size, 2, none⟩ = some (.int .u64 0) := BL6.cell 2
                    have y2 : w6.frozen? ⟨wa.heap.size, 2, none⟩ = false := BL6.frozen 2
                    have z3 : w6.cell? ⟨wa.heap.size, 3, none⟩ = some (.int .i64 0) := BL6.cell 3
                    have y3 : w6.frozen? ⟨wa.heap.size, 3, none⟩ = false := BL6.frozen 3
                    have z4 : w6.cell? ⟨wa.heap.size, 4, none⟩ = some (.int .i64 0) := BL6.cell 4
                    have y4 : w6.frozen? ⟨wa.heap.size, 4, none⟩ = false := BL6.frozen 4
                    have z5 : w6.cell? ⟨wa.heap.size, 5, none⟩ = some (.bool false) := BL6.cell 5
                    have y5 : w6.frozen? ⟨wa.heap.size, 5, none⟩ = false := BL6.frozen 5
                    have z6 : w6.cell? ⟨wa.heap.size, 6, none⟩ = some (.bool false) := BL6.cell 6
                    have y6 : w6.frozen? ⟨wa.heap.size, 6, none⟩ = false := BL6.frozen 6
                    have z7 : w6.cell? ⟨wa.heap.size, 7, none⟩ = some (.bool false) := BL6.cell 7
                    have y7 : w6.frozen? ⟨wa.heap.size, 7, none⟩ = false := BL6.frozen 7
                    have HBL6 := Lib.hid BL6
                    have HB6 : Hid (Below wa.heap.size wa w6) := Lib.hid (by rw [hw6]; exact below_drewN HB5.out n6)
                    have hz6 : wa.heap.size < w6.heap.size := BL6.lt
                    clear hw6 BL6
                    go_wp2_with fail
                    refine hK.out _ _ ?_ (fun hHeld => ?_)
                    · ((try dsimp only); first | (with_reducible exact g6) | (obtain ⟨k0, k1, k2, k3, k4, k5, k6, k7⟩ := g6; simp (disch := ((try simp) <;> omega)) [alloc_cell, cell_far, hgx, k0, k1, k2, k3, k4, k5, k6, k7]; done))
                    clear hK K
                    (try simp only [Act.put, List.setIfInBounds_toArray, List.set_cons_zero, List.set_cons_succ])
                    refine wpAnyH_take (i := 33) (v := ?_) rfl (by kernel_rfl) (by kernel_rfl) (by kernel_rfl) (fun _ _ _ h => h) (Or.inl ⟨by kernel_rfl, ?_⟩) hHeld ?_
                    rotate_left
                    · (intro w hSw; go_split_ands; (try go_simp); (try with_reducible rfl))
                    (try simp only [Act.put, List.setIfInBounds_toArray, List.set_cons_zero, List.set_cons_succ])
                    refine wpAnyH_ready (rs := [35]) (by kernel_rfl) (by simp) ?_
                    refine AllReadyH.cons (o := _) rfl (fun K hK => ?_) ?_
                    rotate_left
                    · exact AllReadyH.nil
                    go_simp
                    refine hK.out _ _ ?_ (fun hHeld => ?_)
                    · ((try dsimp only); first | (with_reducible exact g6) | (obtain ⟨k0, k1, k2, k3, k4, k5, k6, k7⟩ := g6; simp (disch := ((try simp) <;> omega)) [alloc_cell, cell_far, hgx, k0, k1, k2, k3, k4, k5, k6, k7]; done))
                    clear hK K
                    (try simp only [Act.put, List.setIfInBounds_toArray, List.set_cons_zero, List.set_cons_succ])
                    refine wpAnyH_done (by kernel_rfl) ?_ _
                    go_wp2_with fail
                    go_meet
                    exact ⟨_, rfl, Nat.le_refl _, by rw [outB E'.out]; exact blk_store8 HBL6.out, below_store8 HB6.out (Nat.le_refl _)⟩
              case rest =>
                obtain ⟨gb, rfl, hgb, hblk, hbw⟩ := hcut
                have hsza := HBEL.out.size
                have hbl := hblk.lt
                have hownc := own_below HOWN.out hbw
                have v0 : wc.cell? ⟨gb, 0, none⟩ = some (.int .u64 t1.best.root) := hblk.cell 0
                have v1 : wc.cell? ⟨gb, 1, none⟩ = some (.int .i64 t1.best.cost) := hblk.cell 1
                have v2 : wc.cell? ⟨gb, 2, none⟩ = some (.int .u64 t1.bridge) := hblk.cell 2
                have v3 : wc.cell? ⟨gb, 3, none⟩ = some (.int .i64 k) := hblk.cell 3
                have v4 : wc.cell? ⟨gb, 4, none⟩ = some (.int .i64 (ageT t1)) := hblk.cell 4
                have v5 : wc.cell? ⟨gb, 5, none⟩ = some (.bool (changesT t1)) := hblk.cell 5
                have v6 : wc.cell? ⟨gb, 6, none⟩ = some (.bool (learnsP t1.now p)) := hblk.cell 6
                have v7 : wc.cell? ⟨gb, 7, none⟩ = some (.bool p.fwd) := hblk.cell 7
                have hle := outsTo_le t1 k
                have q3 : (outsTo t1 k).length + 1 ≤ maxLen := by unfold maxLen; omega
                have q4 : ((outsTo t1 k).length + 1) * 56 ≤ 140737488355328 := by omega
                have HBC := Lib.hid (HBEL.out.trans (hbw.mono hsza))
                have hszc : w3.heap.size ≤ wc.heap.size := HBC.out.size
                have HOWNC := Lib.hid hownc
                clear hblk hbw hownc c0 c4 c5' c6' c7' c8 c2 c11 HPF HAT3 hx HCH hch0 hch1 hch2
                go_wp2_with (at_builtin; refine wpList_append_own _ rfl (.tmp 93) (.tmp 97) 71 rfl w3.heap.size 73 i0 _ 9 56 Try.underlying71 hi hz0 hz1 hz2 rfl (by omega) _ _ _ rfl (HOWNC.out.alloc _) ⟨wc.heap.size, 0, none⟩ 1 1 (cellsOu (outP t1 k p)) rfl rfl (new_cells' _ (cellsOu (outP t1 k p)) 73 _ (by simp)) (oneOu _) q3 q4 (by simp; omega) ?_; intro v' w9 hown' hgrow _)
                go_roundw
                case rel =>
                  refine ⟨k + 1, by omega, by go_num, ?_, ?_⟩
                  · rw [EO.out]
                    simpa [List.flatMap_append] using hown'
                  · exact (HBC.out.alloc hszc _).grown hgrow (by simp; omega) (own_from HOWNC.out)
                case measure => simp [intOf]; omega
            · have EO := Lib.hid (outsTo_no hp hr)
              have hr' : (p.role != 2) = true := by simp [hr]
              clear hr hp hat
              go_wp2
              go_roundw
              case rel => exact ⟨k + 1, by omega, by go_num, by rw [EO.out]; exact hown.alloc _, hbel.alloc hbel.size _⟩
              case measure => simp [intOf]; omega
          · have hke : k = t1.ps.length := by omega
            have hge : ¬ (k : Int) < (t1.ps.length : Int) := by omega
            have HKE := Lib.hid hke
            clear hke
            obtain ⟨A', c', rfl, hrr⟩ := own_form hown
            have hfr : ∀ ad, A' = some ad → w.heap.size ≤ ad.block := fun ad e => by
              subst e
              have h1 := own_from hown ad.block rfl
              have h2 := HK3.out.size
              omega
            have HFR := Lib.hid hfr
            clear hfr
            have hk4 := HK3.out.trans (Keep.of_below hbel _)
            go_wp2
            go_ret
            rw [E.out, ← HKE.out]
            exact ⟨A', c', rfl, hrr, HFR.out, hat, hk4⟩
theorem rtick_ (w : World) (g gp cap : Nat) (t : Tr) (now : Int) (h : RAt w g gp cap t) (hw : Wf t) :
    Calls Try.prog 32 #[.pointer (some ⟨g, 0, none⟩), .int .i64 now] w (RTold g gp cap (opTick t now) (tells t now) w) := by
  cases hok : okT t 0 now
  · rw [(opTick_no hok).1, (opTick_no hok).2]
    refine (rtick_no w g gp cap t now h hw.l1 hok).mono ?_
    rintro e w' ⟨rfl, rfl⟩
    exact ⟨none, 0, rfl, Reads.none_, fun _ h => (by cases h), h, Keep.refl _ _⟩
  · rw [(opTick_yes hok).1, (opTick_yes hok).2]
    exact rtick_yes w g gp cap t now h hw hok
end Rstp
end Go.Proofs.Ytlfoaefilonidaa
