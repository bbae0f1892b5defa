/-
  The walks of siphonlaw15.step and RstpScripts.
-/
import Derived.Test.YtlfoaefilonidaaRstpLooks
namespace Go.Proofs.Ytlfoaefilonidaa
set_option linter.unusedVariables false
set_option linter.unusedSimpArgs false
open Go.RowKit
namespace Rstp
open Go.Proofs.Ytlfoaefilonidaa.Prio
set_option maxRecDepth 100000 in
set_option maxHeartbeats 4000000 in
theorem step_ (w : World) (g gp cap gk kp kcap : Nat) (t : Tr) (o : OpR) (ha : At w g gp cap t) (hr : RAt w gk kp kcap t) (hw : Wf t) (ho : OkOp o) (hd : gk ≠ g ∧ gk ≠ gp ∧ kp ≠ g ∧ kp ≠ gp) :
    Calls Try.prog 22 #[.pointer (some ⟨g, 0, none⟩), .pointer (some ⟨gk, 0, none⟩), .agg #[.int .i64 o.kind, .int .i64 o.port, .bool o.up, .int .u64 o.b.v.root, .int .i64 o.b.v.cost, .int .u64 o.b.v.bridge, .int .i64 o.b.v.port, .int .i64 o.b.age, .bool o.b.chg, .bool o.b.lrn, .bool o.b.kf, .int .i64 o.now]] w (Both g gp cap gk kp kcap (opStep t o) w) := by
  obtain ⟨kd, prt, up, bp, nw⟩ := o
  have hglt := ha.lt
  have hklt := hr.lt
  have hkg : gk ∉ [g, gp] := by simp; omega
  have hkp : kp ∉ [g, gp] := by simp; omega
  have hgk : g ∉ [gk, kp] := by simp; omega
  have hpk : gp ∉ [gk, kp] := by simp; omega
  have hxg : w.heap.size ∉ [g, gp] := by simp; omega
  have hxk : w.heap.size ∉ [gk, kp] := by simp; omega
  have NM := Lib.hid (And.intro hkg (And.intro hkp (And.intro hgk (And.intro hpk (And.intro hxg hxk)))))
  clear hkg hkp hgk hpk hxg hxk hd
  have HA := Lib.hid (ha.alloc (.cells (cellsOp ⟨kd, prt, up, bp, nw⟩).toArray 46))
  have HR := Lib.hid (hr.alloc (.cells (cellsOp ⟨kd, prt, up, bp, nw⟩).toArray 46))
  have HX := Lib.hid (Blk.new w 46 (cellsOp ⟨kd, prt, up, bp, nw⟩).toArray)
  have HW := Lib.hid hw
  have HO := Lib.hid ho
  clear ha hr hw ho
  by_cases hk0 : kd = 0
  · subst hk0
    have E := Lib.hid (show opStep t ⟨0, prt, up, bp, nw⟩ = opLink t prt up nw from rfl)
    go_enter Try.func22, Try.ntmps22
    go_wp2_with fail
    refine (link_any _ g gp cap t prt up nw HA.out HW.out).mono ?_
    rintro e w1 ⟨rfl, hat1, hk1⟩
    have hx1 := hk1.blk HX.out NM.out.2.2.2.2.1
    have hr1 := HR.out.keep hk1 NM.out.1 NM.out.2.1
    have x1 : w1.cell? ⟨w.heap.size, 1, none⟩ = some (.int .i64 prt) := hx1.cell 1
    have x2 : w1.cell? ⟨w.heap.size, 2, none⟩ = some (.bool up) := hx1.cell 2
    have x4 : w1.cell? ⟨w.heap.size, 11, none⟩ = some (.int .i64 nw) := hx1.cell 11
    have HK1 := Lib.hid hk1
    have HA1 := Lib.hid hat1
    clear hk1 hat1 hx1
    go_wp2_with fail
    refine (rlink_ _ gk kp kcap t prt up nw hr1 HW.out).mono ?_
    rintro e w2 ⟨rfl, hr2, hk2⟩
    have hat2 := HA1.out.keep hk2 NM.out.2.2.1 NM.out.2.2.2.1
    have HK2 := Lib.hid hk2
    clear hk2 hr1 x1 x2 x4
    go_wp2_with fail
    refine (looks_ _ g gp cap gk kp kcap _ hat2 hr2 (HW.out.opLink prt up nw)).mono ?_
    rintro e w3 ⟨rfl, hb3⟩
    go_wp2_with fail
    go_ret
    exact ⟨rfl, by rw [E.out]; exact hat2.below hb3, by rw [E.out]; exact hr2.below hb3, keep4 (((Keep.refl _ _).alloc _).trans HK1.out) HK2.out hb3⟩
  · have hk0' : (kd == 0) = false := by simp [hk0]
    by_cases hk1 : kd = 1
    · subst hk1
      have E := Lib.hid (show opStep t ⟨1, prt, up, bp, nw⟩ = opHear t prt bp nw from rfl)
      go_enter Try.func22, Try.ntmps22
      go_wp2_with fail
      refine (hear_any _ g gp cap t prt bp nw HA.out HW.out ⟨HO.out.a0, HO.out.a1⟩).mono ?_
      rintro e w1 ⟨rfl, hat1, hk1⟩
      have hx1 := hk1.blk HX.out NM.out.2.2.2.2.1
      have hr1 := HR.out.keep hk1 NM.out.1 NM.out.2.1
      have x1 : w1.cell? ⟨w.heap.size, 1, none⟩ = some (.int .i64 prt) := hx1.cell 1
      have y0 : w1.cell? ⟨w.heap.size, 3, none⟩ = some (.int .u64 bp.v.root) := hx1.cell 3
      have y1 : w1.cell? ⟨w.heap.size, 3 + 1, none⟩ = some (.int .i64 bp.v.cost) := hx1.cell 4
      have y2 : w1.cell? ⟨w.heap.size, 3 + 2, none⟩ = some (.int .u64 bp.v.bridge) := hx1.cell 5
      have y3 : w1.cell? ⟨w.heap.size, 3 + 3, none⟩ = some (.int .i64 bp.v.port) := hx1.cell 6
      have y4 : w1.cell? ⟨w.heap.size, 3 + 4, none⟩ = some (.int .i64 bp.age) := hx1.cell 7
      have y5 : w1.cell? ⟨w.heap.size, 3 + 5, none⟩ = some (.bool bp.chg) := hx1.cell 8
      have y6 : w1.cell? ⟨w.heap.size, 3 + 6, none⟩ = some (.bool bp.lrn) := hx1.cell 9
      have y7 : w1.cell? ⟨w.heap.size, 3 + 7, none⟩ = some (.bool bp.kf) := hx1.cell 10
      have x4 : w1.cell? ⟨w.heap.size, 11, none⟩ = some (.int .i64 nw) := hx1.cell 11
      have HK1 := Lib.hid hk1
      have HA1 := Lib.hid hat1
      clear hk1 hat1 hx1
      go_wp2_with fail
      refine (rhear_ _ gk kp kcap t prt bp nw hr1 HW.out ⟨HO.out.a0, HO.out.a1⟩).mono ?_
      rintro e w2 ⟨rfl, hr2, hk2⟩
      have hat2 := HA1.out.keep hk2 NM.out.2.2.1 NM.out.2.2.2.1
      have HK2 := Lib.hid hk2
      clear hk2 hr1 x1 x4 y0 y1 y2 y3 y4 y5 y6 y7
      go_wp2_with fail
      refine (looks_ _ g gp cap gk kp kcap _ hat2 hr2 (HW.out.opHear prt bp nw ⟨HO.out.a0, HO.out.a1⟩)).mono ?_
      rintro e w3 ⟨rfl, hb3⟩
      go_wp2_with fail
      go_ret
      exact ⟨rfl, by rw [E.out]; exact hat2.below hb3, by rw [E.out]; exact hr2.below hb3, keep4 (((Keep.refl _ _).alloc _).trans HK1.out) HK2.out hb3⟩
    · have hk1' : (kd == 1) = false := by simp [hk1]
      have E := Lib.hid (show opStep t ⟨kd, prt, up, bp, nw⟩ = opTick t nw by unfold opStep; rw [if_neg hk0, if_neg hk1])
      clear hk0 hk1
      go_enter Try.func22, Try.ntmps22
      go_wp2_with fail
      refine (tick_any _ g gp cap t nw HA.out HW.out).mono ?_
      rintro e w1 ⟨A1, c1, rfl, ho1, hf1, hat1, hk1⟩
      have hx1 := hk1.blk HX.out NM.out.2.2.2.2.1
      have hr1 := HR.out.keep hk1 NM.out.1 NM.out.2.1
      have x4 : w1.cell? ⟨w.heap.size, 11, none⟩ = some (.int .i64 nw) := hx1.cell 11
      have HK1 := Lib.hid hk1
      have HA1 := Lib.hid hat1
      have HO1 := Lib.hid ho1
      have HF1 := Lib.hid hf1
      have hz1 := hk1.size
      simp only [World.size_alloc] at hz1
      have HKL := Lib.hid hr1.lt
      clear hk1 hat1 hx1 ho1 hf1
      go_wp2_with fail
      refine (rtick_ _ gk kp kcap t nw hr1 HW.out).mono ?_
      rintro e w2 ⟨A2, c2, rfl, ho2, hf2, hr2, hk2⟩
      have hat2 := HA1.out.keep hk2 NM.out.2.2.1 NM.out.2.2.2.1
      have hos : (tells t nw).length ≤ 16 := by
        have h1 := HW.out.l1
        unfold tells outsT
        split
        · split
          · simp
          · have := outsTo_le (tickT t nw) (tickT t nw).ps.length
            have h2 := len_settle (nowT t nw)
            have h3 : (tickT t nw).ps.length = t.ps.length := h2
            omega
        · simp
      have HK2 := Lib.hid hk2
      have HO2 := Lib.hid ho2
      have HA2 := Lib.hid hat2
      have HR2 := Lib.hid hr2
      clear hk2 hr1 x4 ho2 hf2 hat2 hr2
      generalize tells t nw = os at *
      go_wp2_with fail
      go_loopw [9] (fun i wr => ∃ (j n : Nat), j ≤ os.length ∧ i = .int .i64 j ∧ wr = w2.drewN n) (fun i _ => os.length - (intOf i).toNat)
      case atStart => exact ⟨0, 0, Nat.zero_le _, rfl, rfl⟩
      case round =>
        obtain ⟨j, n, hj, rfl, rfl⟩ := hrel
        by_cases hjl : j < os.length
        · have hjl' : (j : Int) < (os.length : Int) := by omega
          have hj0 : (0 : Int) ≤ (j : Int) := by omega
          obtain ⟨b1, f1, o1, rfl, hb1, ho1, hc1⟩ := HO1.out.chunk cellsOu 9 (by omega) lenOu hjl
          obtain ⟨b2, f2, o2, rfl, hb2, ho2, hc2⟩ := HO2.out.chunk cellsOu 9 (by omega) lenOu hjl
          obtain rfl : o1 = o2 := by rw [ho1] at ho2; exact Option.some.inj ho2
          have hnk : b1 ∉ [gk, kp] := by
            have h1 := HF1.out _ rfl
            have h2 : w.heap.size + 1 ≤ b1 := by simpa using h1
            simp
            omega
          have hc1' : ∀ jj u, (cellsOu o1)[jj]? = some u → w2.cell? ⟨b1, f1 + j * 9 + jj, none⟩ = some u := fun jj u hu => (HK2.out.cells b1 _ hb1 hnk).trans (hc1 jj u hu)
          have p0 : w2.cell? ⟨b1, f1 + j * 9, none⟩ = some (.int .i64 o1.port) := hc1' 0 _ rfl
          have p1 : w2.cell? ⟨b1, f1 + j * 9 + 1, none⟩ = some (.int .u64 o1.b.v.root) := hc1' 1 _ rfl
          have p2 : w2.cell? ⟨b1, f1 + j * 9 + 1 + 1, none⟩ = some (.int .i64 o1.b.v.cost) := hc1' 2 _ rfl
          have p3 : w2.cell? ⟨b1, f1 + j * 9 + 1 + 2, none⟩ = some (.int .u64 o1.b.v.bridge) := hc1' 3 _ rfl
          have p4 : w2.cell? ⟨b1, f1 + j * 9 + 1 + 3, none⟩ = some (.int .i64 o1.b.v.port) := hc1' 4 _ rfl
          have p5 : w2.cell? ⟨b1, f1 + j * 9 + 1 + 4, none⟩ = some (.int .i64 o1.b.age) := hc1' 5 _ rfl
          have p6 : w2.cell? ⟨b1, f1 + j * 9 + 1 + 5, none⟩ = some (.bool o1.b.chg) := hc1' 6 _ rfl
          have p7 : w2.cell? ⟨b1, f1 + j * 9 + 1 + 6, none⟩ = some (.bool o1.b.lrn) := hc1' 7 _ rfl
          have p8 : w2.cell? ⟨b1, f1 + j * 9 + 1 + 7, none⟩ = some (.bool o1.b.kf) := hc1' 8 _ rfl
          have q0 : w2.cell? ⟨b2, f2 + j * 9, none⟩ = some (.int .i64 o1.port) := hc2 0 _ rfl
          have q1 : w2.cell? ⟨b2, f2 + j * 9 + 1, none⟩ = some (.int .u64 o1.b.v.root) := hc2 1 _ rfl
          have q2 : w2.cell? ⟨b2, f2 + j * 9 + 1 + 1, none⟩ = some (.int .i64 o1.b.v.cost) := hc2 2 _ rfl
          have q3 : w2.cell? ⟨b2, f2 + j * 9 + 1 + 2, none⟩ = some (.int .u64 o1.b.v.bridge) := hc2 3 _ rfl
          have q4 : w2.cell? ⟨b2, f2 + j * 9 + 1 + 3, none⟩ = some (.int .i64 o1.b.v.port) := hc2 4 _ rfl
          have q5 : w2.cell? ⟨b2, f2 + j * 9 + 1 + 4, none⟩ = some (.int .i64 o1.b.age) := hc2 5 _ rfl
          have q6 : w2.cell? ⟨b2, f2 + j * 9 + 1 + 5, none⟩ = some (.bool o1.b.chg) := hc2 6 _ rfl
          have q7 : w2.cell? ⟨b2, f2 + j * 9 + 1 + 6, none⟩ = some (.bool o1.b.lrn) := hc2 7 _ rfl
          have q8 : w2.cell? ⟨b2, f2 + j * 9 + 1 + 7, none⟩ = some (.bool o1.b.kf) := hc2 8 _ rfl
          clear hc1 hc2 hc1' ho1 ho2 hnk hb1 hb2
          go_wp2_with fail
          go_quiet (fail)
          go_wp2
          go_roundw
          case rel => exact ⟨j + 1, _, by omega, by go_num, rfl⟩
          case measure => simp [intOf]; omega
        · have hjn : ¬ (j : Int) < (os.length : Int) := by omega
          have hwt := HW.out.opTick nw
          go_wp2_with fail
          refine (looks_ _ g gp cap gk kp kcap _ (HA2.out.drewN n) (HR2.out.drewN n) hwt).mono ?_
          rintro e w3 ⟨rfl, hb3⟩
          go_wp2_with fail
          go_ret
          exact ⟨rfl, by rw [E.out]; exact (HA2.out.drewN n).below hb3, by rw [E.out]; exact (HR2.out.drewN n).below hb3, keep4 (((Keep.refl _ _).alloc _).trans HK1.out) (HK2.out.drewN n) hb3⟩
set_option maxRecDepth 100000 in
set_option maxHeartbeats 4000000 in
theorem scripts_ (b : Int) (A1 : Option Addr) (n1 c1 : Nat) (cs : List Int) (A2 : Option Addr) (n2 c2 : Nat) (os : List OpR) (w : World)
    (hr1 : Reads w w.heap.size 1 A1 n1 (cs.map (Value.int .i64))) (hr2 : Reads w w.heap.size 12 A2 n2 (os.flatMap cellsOp)) (hop : ∀ o ∈ os, OkOp o) :
    Calls Try.prog 5 #[.int .u64 b, .slice A1 n1 c1, .slice A2 n2 c2] w fun e w' => e = .returned (.bool true) ∧ Below w.heap.size w w' := by
  cases hm : mayT cs
  · go_enter Try.func5, Try.ntmps5
    go_wp2_with fail
    refine (new_no b A1 n1 c1 cs _ hr1 hm).mono ?_
    rintro e w1 ⟨rfl, hb1⟩
    go_wp2_with fail
    refine (rmay_ A1 n1 c1 cs _ ((hr1.below hb1).more hb1.size)).mono ?_
    rw [hm]
    rintro e w2 ⟨rfl, rfl⟩
    go_wp2_with fail
    refine (live_ _).mono ?_
    rintro e w2 ⟨rfl, hb2⟩
    go_wp2_with fail
    go_ret
    exact ⟨rfl, hb1.trans (hb2.mono hb1.size)⟩
  · have HM := Lib.hid hm
    have HR1 := Lib.hid hr1
    have HR2 := Lib.hid hr2
    go_enter Try.func5, Try.ntmps5
    go_wp2_with fail
    refine (new_yes b A1 n1 c1 cs _ hr1 hm).mono ?_
    rintro e w1 ⟨g, gp, cap, rfl, hat1, hg, hgp, hb1⟩
    have HAT1 := Lib.hid hat1
    have HB1 := Lib.hid hb1
    have hglt := hat1.lt
    clear hat1 hb1 hr1 hr2 hm
    go_wp2_with fail
    refine (rmay_ A1 n1 c1 cs _ ((HR1.out.below HB1.out).more HB1.out.size)).mono ?_
    rw [HM.out]
    rintro e w2 ⟨rfl, rfl⟩
    go_wp2_with fail
    refine (rnew_ b A1 n1 c1 cs _ ((HR1.out.below HB1.out).more HB1.out.size) HM.out).mono ?_
    rintro e w2 ⟨gk, kp, kcap, rfl, hrk, hgk, hkp, hb2⟩
    have hz1 := HB1.out.size
    have hd : gk ≠ g ∧ gk ≠ gp ∧ kp ≠ g ∧ kp ≠ gp := by omega
    have hat2 := HAT1.out.below hb2
    have HB2 := Lib.hid (HB1.out.trans (hb2.mono hz1))
    have HRK := Lib.hid hrk
    have HAT2 := Lib.hid hat2
    clear hb2 HAT1 HB1
    go_wp2_with fail
    refine (looks_ _ g gp cap gk kp kcap _ hat2 hrk (Wf.new b HM.out)).mono ?_
    rintro e w3 ⟨rfl, hb3⟩
    have HA3 := Lib.hid (HAT2.out.below hb3)
    have HR3 := Lib.hid (HRK.out.below hb3)
    have HB3 := Lib.hid (HB2.out.trans (hb3.mono HB2.out.size))
    clear hat2 hrk hb3 HB2 HRK HAT2
    go_wp2_with fail
    go_loopw [10] (fun i wr => ∃ (k : Nat) (t : Tr), k ≤ n2 ∧ k ≤ 60 ∧ i = .int .i64 k ∧ At wr g gp cap t ∧ RAt wr gk kp kcap t ∧ Wf t ∧ Below w.heap.size w wr) (fun i _ => 60 - (intOf i).toNat)
    case atStart => exact ⟨0, newT b cs, Nat.zero_le _, Nat.zero_le _, rfl, HA3.out, HR3.out, Wf.new b HM.out, HB3.out⟩
    case round =>
      obtain ⟨k, t, hk, hk60, rfl, hat, hrt, hwf, hbel⟩ := hrel
      have HB4 := Lib.hid hbel
      by_cases hlt : k < n2 ∧ k < 60
      · obtain ⟨hlt, hlt60⟩ := hlt
        have hlt' : (k : Int) < (n2 : Int) := by omega
        have hlt60' : (k : Int) < 60 := by omega
        obtain ⟨bb, off, x, rfl, hbb, hx, hcc⟩ := (HR2.out.below hbel).chunk cellsOp 12 (by omega) (fun _ => rfl) hlt
        have d0 : wr.cell? ⟨bb, off + k * 12, none⟩ = some (.int .i64 x.kind) := hcc 0 _ rfl
        have d1 : wr.cell? ⟨bb, off + k * 12 + 1, none⟩ = some (.int .i64 x.port) := hcc 1 _ rfl
        have d2 : wr.cell? ⟨bb, off + k * 12 + 2, none⟩ = some (.bool x.up) := hcc 2 _ rfl
        have d3 : wr.cell? ⟨bb, off + k * 12 + 3, none⟩ = some (.int .u64 x.b.v.root) := hcc 3 _ rfl
        have d4 : wr.cell? ⟨bb, off + k * 12 + 4, none⟩ = some (.int .i64 x.b.v.cost) := hcc 4 _ rfl
        have d5 : wr.cell? ⟨bb, off + k * 12 + 5, none⟩ = some (.int .u64 x.b.v.bridge) := hcc 5 _ rfl
        have d6 : wr.cell? ⟨bb, off + k * 12 + 6, none⟩ = some (.int .i64 x.b.v.port) := hcc 6 _ rfl
        have d7 : wr.cell? ⟨bb, off + k * 12 + 7, none⟩ = some (.int .i64 x.b.age) := hcc 7 _ rfl
        have d8 : wr.cell? ⟨bb, off + k * 12 + 8, none⟩ = some (.bool x.b.chg) := hcc 8 _ rfl
        have d9 : wr.cell? ⟨bb, off + k * 12 + 9, none⟩ = some (.bool x.b.lrn) := hcc 9 _ rfl
        have d10 : wr.cell? ⟨bb, off + k * 12 + 10, none⟩ = some (.bool x.b.kf) := hcc 10 _ rfl
        have d11 : wr.cell? ⟨bb, off + k * 12 + 11, none⟩ = some (.int .i64 x.now) := hcc 11 _ rfl
        have hxo := hop x (List.mem_of_getElem? hx)
        clear hcc hbel hx
        go_wp2_with fail
        refine (step_ _ g gp cap gk kp kcap t x hat hrt hwf hxo hd).mono ?_
        rintro e w4 ⟨rfl, hat4, hrt4, hk4⟩
        have hb4 : Below w.heap.size w w4 := HB4.out.trans (hk4.below HB4.out.size (by simp; omega))
        have HB5 := Lib.hid hb4
        clear hk4 hb4 d0 d1 d2 d3 d4 d5 d6 d7 d8 d9 d10 d11
        go_wp2
        go_roundw
        case rel => exact ⟨k + 1, _, by omega, by omega, by go_num, hat4, hrt4, hwf.opStep x hxo, HB5.out⟩
        case measure => simp [intOf]; omega
      · clear hbel hop
        by_cases h2 : k < n2
        · have h2' : (k : Int) < (n2 : Int) := by omega
          have h3' : ¬ (k : Int) < 60 := by omega
          go_wp2_with fail
          refine (live_ _).mono ?_
          rintro e w4 ⟨rfl, hb4⟩
          go_wp2_with fail
          go_ret
          exact ⟨rfl, HB4.out.trans (hb4.mono HB4.out.size)⟩
        · have h2' : ¬ (k : Int) < (n2 : Int) := by omega
          go_wp2_with fail
          refine (live_ _).mono ?_
          rintro e w4 ⟨rfl, hb4⟩
          go_wp2_with fail
          go_ret
          exact ⟨rfl, HB4.out.trans (hb4.mono HB4.out.size)⟩
end Rstp
end Go.Proofs.Ytlfoaefilonidaa
