/-
  The walk of QuerierAsks.
-/
import Derived.Test.YtdpppljobikjhaaDoorAskLawM
import Derived.Deep.DeepCutAuto
namespace Go.Proofs.YtdpppljobikjhaaDoor
set_option linter.unusedVariables false
set_option linter.unusedSimpArgs false
open Go.RowKit Go.Maps
namespace AskL
open Go.Proofs.YtdpppljobikjhaaDoor.Ask Go.Proofs.YtdpppljobikjhaaDoor.AskR
theorem inB_time {z : Int} (h : z ≤ 100000) : Q.inB z 0 1099511627776 = decide (0 ≤ z) := by
  rw [Bool.eq_iff_iff, Q.inB_iff, decide_eq_true_eq]
  omega
theorem addC_room {n : Nat} (h : n < 200) : addC n = 0 := by unfold addC; rw [if_neg (by omega)]
theorem box_cells {w : World} {b : Nat} {x : AskOp} (h : Blk w b 50 (cellsA x).toArray) :
    w.cell? ⟨b, 0, none⟩ = some (.int .i64 x.do_) ∧ w.cell? ⟨b, 1, none⟩ = some (.int .i64 x.q.v) ∧ w.cell? ⟨b, 1 + 1, none⟩ = some (.string x.q.g) ∧ w.cell? ⟨b, 1 + 2, none⟩ = some (.slice x.A x.n x.c) ∧ w.cell? ⟨b, 4, none⟩ = some (.int .i64 x.now) :=
  ⟨h.cell 0, h.cell 1, h.cell 2, h.cell 3, h.cell 4⟩
set_option maxHeartbeats 4000000 in
set_option maxRecDepth 100000 in
theorem asks_bad (count gap : Int) (v : Value) (w : World) (h : count < 1 ∨ (¬ count < 1 ∧ 7 < count) ∨ (¬ count < 1 ∧ ¬ 7 < count ∧ gap < 1) ∨ (¬ count < 1 ∧ ¬ 7 < count ∧ ¬ gap < 1 ∧ 1000 < gap)) :
    Calls Tryd.prog 6 #[.int .i64 count, .int .i64 gap, v] w fun e w' => e = .returned (.bool true) ∧ Below w.heap.size w w' := by
  have hbad : ¬ (Q.inB count 1 7 = true ∧ Q.inB gap 1 1000 = true) := by
    rw [Q.inB_iff, Q.inB_iff]
    omega
  rcases h with h | ⟨h, h2⟩ | ⟨h, h2, h3⟩ | ⟨h, h2, h3, h4⟩
  all_goals
    go_enter Tryd.func6, Tryd.ntmps6
    go_wp2_with fail
    refine (newA_bad _ count gap hbad).mono ?_
    rintro e w1 ⟨rfl, rfl⟩
    go_wp2_with fail
    refine (Q.live_ _).mono ?_
    rintro e w2 ⟨rfl, b2⟩
    go_wp2
    go_ret
    exact ⟨rfl, b2⟩
/-- what holds at each round's head -/
def Rel (w wr : World) (p : Pl) (count gap : Int) (k : Nat) : Prop :=
  ∃ (turn tu : Int) (ws : List Pw) (L : List Dw), Both w.heap.size wr p count gap turn tu ws L ∧ 0 ≤ turn ∧ turn ≤ k ∧ 0 ≤ tu ∧ tu ≤ 2000 * k ∧ ws.length ≤ k ∧ Below w.heap.size w wr
set_option maxHeartbeats 8000000 in
set_option maxRecDepth 100000 in
theorem asks_law (count gap : Int) (A : Option Addr) (n c : Nat) (ops : List AskOp) (w : World) (hr : Reads w w.heap.size 5 A n (ops.flatMap cellsA)) (hop : ∀ x ∈ ops, Reads w w.heap.size 1 x.A x.n (x.q.ss.map Value.string)) :
    Calls Tryd.prog 6 #[.int .i64 count, .int .i64 gap, .slice A n c] w fun e w' => e = .returned (.bool true) ∧ Below w.heap.size w w' := by
  by_cases hbad : count < 1 ∨ (¬ count < 1 ∧ 7 < count) ∨ (¬ count < 1 ∧ ¬ 7 < count ∧ gap < 1) ∨ (¬ count < 1 ∧ ¬ 7 < count ∧ ¬ gap < 1 ∧ 1000 < gap)
  · exact asks_bad count gap _ w hbad
  · have g0 : ¬ count < 1 := by omega
    have g1 : ¬ 7 < count := by omega
    have g2 : ¬ gap < 1 := by omega
    have g3 : ¬ 1000 < gap := by omega
    have HOK : Hid (Q.inB count 1 7 = true ∧ Q.inB gap 1 1000 = true) := Lib.hid (by rw [Q.inB_iff, Q.inB_iff]; omega)
    clear hbad
    go_enter Tryd.func6, Tryd.ntmps6
    go_wp2_with fail
    refine (newA_ok _ count gap HOK.out).mono ?_
    rintro e w1 ⟨g, gw, bw, bm, y1, y2, y3, y4, rfl, hat, hb1⟩
    have z1 := hb1.size
    have hgl := hat.bk.blk.lt
    have hst : Rel w (w1.alloc (.cells #[.int .i64 count, .int .i64 gap, .slice none 0 0] 45)) ⟨g, gw, bw, bm, w1.heap.size⟩ count gap 0 :=
      ⟨0, 0, [], [], Both.start (hat.alloc _) ⟨.slice none 0 0, Blk.new w1 _ _, ⟨by simp, .inl ⟨rfl, rfl⟩⟩⟩ hgl y4 y1 y2 y3, by omega, by omega, by omega, by omega, by simp, hb1.alloc z1 _⟩
    have HST := Lib.hid hst
    clear hst hb1 hat
    go_wp2
    go_loopw [10] (fun i wr => ∃ (k : Nat), k ≤ n ∧ k ≤ 40 ∧ i = .int .i64 k ∧ Rel w wr ⟨g, gw, bw, bm, w1.heap.size⟩ count gap k) (fun i _ => 40 - (intOf i).toNat)
    case atStart => exact ⟨0, Nat.zero_le _, by omega, rfl, HST.out⟩
    case round =>
      obtain ⟨k, hk, hk40, rfl, turn, tu, ws, L, hboth, ht0, ht1, hu0, hu1, hwl, hbel⟩ := hrel
      have hbz := hbel.size
      have HB := Lib.hid hboth
      have HBEL := Lib.hid hbel
      by_cases hlt : k < n
      · have hlt' : (k : Int) < (n : Int) := by omega
        by_cases h40 : k < 40
        · have h40' : (k : Int) < 40 := by omega
          obtain ⟨bb, off, x, rfl, hbb, hx, hcc⟩ := (hr.below hbel).chunk cellsA 5 (by omega) lenA hlt
          have hxr := (hop x (List.mem_of_getElem? hx)).below hbel
          have hxl : x.q.ss.length = x.n := by have := hxr.1; simpa using this
          obtain ⟨dv, qx, xA, xn, xc, nw⟩ := x
          have d0 : wr.cell? ⟨bb, off + k * 5, none⟩ = some (.int .i64 dv) := hcc 0 _ rfl
          have d1 : wr.cell? ⟨bb, off + k * 5 + 1, none⟩ = some (.int .i64 qx.v) := hcc 1 _ rfl
          have d2 : wr.cell? ⟨bb, off + k * 5 + 2, none⟩ = some (.string qx.g) := hcc 2 _ rfl
          have d3 : wr.cell? ⟨bb, off + k * 5 + 3, none⟩ = some (.slice xA xn xc) := hcc 3 _ rfl
          have d4 : wr.cell? ⟨bb, off + k * 5 + 4, none⟩ = some (.int .i64 nw) := hcc 4 _ rfl
          have HXR : Hid (Reads wr w.heap.size 1 xA xn (qx.ss.map Value.string)) := Lib.hid hxr
          have HXL : Hid (qx.ss.length = xn) := Lib.hid hxl
          clear hcc hx hboth hbel hxr hxl
          by_cases hbig : 60 < xn ∨ 100000 < nw
          · by_cases h0 : 60 < xn
            · have hs0 : (60 : Int) < (xn : Int) := by omega
              clear hbig h0
              go_wp2_with fail
              refine (Q.live_ _).mono ?_
              rintro e w2 ⟨rfl, b2⟩
              go_wp2
              go_ret
              exact ⟨rfl, (HBEL.out.alloc hbz _).trans (b2.mono (by simp; omega))⟩
            · have hs0 : ¬ (60 : Int) < (xn : Int) := by omega
              have hs1 : 100000 < nw := by omega
              clear hbig h0
              go_wp2_with fail
              refine (Q.live_ _).mono ?_
              rintro e w2 ⟨rfl, b2⟩
              go_wp2
              go_ret
              exact ⟨rfl, (HBEL.out.alloc hbz _).trans (b2.mono (by simp; omega))⟩
          · have hs0 : ¬ (60 : Int) < (xn : Int) := by omega
            have hs1 : ¬ 100000 < nw := by omega
            clear hbig
            by_cases hdo : dv = 0
            · subst hdo
              have HB0 := Lib.hid (HB.out.keep ((Keep.refl [] wr).alloc (.cells (cellsA ⟨0, qx, xA, xn, xc, nw⟩).toArray 50)))
              have HXB := Lib.hid (Blk.new wr 50 (cellsA ⟨0, qx, xA, xn, xc, nw⟩).toArray)
              have HBEL0 := Lib.hid (HBEL.out.alloc hbz (.cells (cellsA ⟨0, qx, xA, xn, xc, nw⟩).toArray 50))
              have hz0 : wr.heap.size < (wr.alloc (.cells (cellsA ⟨0, qx, xA, xn, xc, nw⟩).toArray 50)).heap.size := by simp
              have HXR0 := Lib.hid (HXR.out.alloc hbz (.cells (cellsA ⟨0, qx, xA, xn, xc, nw⟩).toArray 50))
              have HPL := Lib.hid HB.out.lt
              have HLL : Hid (L.length = ws.length) := Lib.hid (by have := congrArg List.length HB.out.eq; simpa using this.symm)
              have HB1 := Lib.hid HB.out.b1
              have HB2 := Lib.hid HB.out.b2
              have HB3 := Lib.hid HB.out.b3
              have HB4 := Lib.hid HB.out.b4
              by_cases hneg : 0 ≤ nw
              · have hin : Q.inB nw 0 1099511627776 = true := by rw [inB_time (by omega)]; simp [hneg]
                go_wp2_with fail
                refine (add_ _ g gw bw bm count gap turn tu ws HB0.out.at_ qx xA xn xc w.heap.size ⟨HB1.out, HB2.out, HB3.out, HB4.out⟩ HXR0.out (by omega) nw hin ht0 (by omega) hu0 (by omega) (by omega)).mono ?_
                rw [addC_room (by omega)]
                rintro e w2 ⟨rfl, hadd⟩
                have k2 := hadd.1
                have hrat2 := HB0.out.rat.keep k2 (by have := HPL.out; have := HB.out.gq; simp; simp at *; omega)
                have hbx2 := Keep.blk k2 HXB.out (by have := HPL.out; simp; simp at *; omega)
                obtain ⟨p0, p1, p2, p3, p4⟩ := box_cells hbx2
                have HADD := Lib.hid hadd
                have HRAT2 := Lib.hid hrat2
                clear hadd k2 hrat2 hbx2
                go_wp2_with fail
                refine (radd_ok _ w1.heap.size count gap L HRAT2.out (by rw [HLL.out]; omega) qx xA xn xc nw hin).mono ?_
                rintro e w3 ⟨rfl, hs3, hra3⟩
                obtain ⟨ws', L', hb3, hwl3, hbel3⟩ := both_add HB0.out (by omega) ⟨by omega, by omega⟩ ⟨hneg, by omega⟩ (by rw [HXL.out]; omega) HXR0.out HADD.out hs3 hra3
                have HB3' := Lib.hid hb3
                have HBEL3 := Lib.hid (HBEL0.out.trans hbel3)
                clear hs3 hra3 hb3 hbel3
                go_wp2
                exact ⟨⟨k + 1, by omega, by omega, by go_num, turn + 1, tu + 1, ws', L', HB3'.out, by omega, by omega, by omega, by omega, by omega, HBEL3.out⟩, by simp [intOf]; omega⟩
              · have hin : Q.inB nw 0 1099511627776 = false := by rw [inB_time (by omega)]; simp [hneg]
                go_wp2_with fail
                refine (add_bad _ g _ nw _ _ _ rfl hin).mono ?_
                rintro e w2 ⟨rfl, b2⟩
                have hbx2 := HXB.out.below b2 hz0
                obtain ⟨p0, p1, p2, p3, p4⟩ := box_cells hbx2
                have HB2 := Lib.hid (HB0.out.keep (Keep.of_below b2 []))
                have z2 := b2.size
                have HBEL2 := Lib.hid (HBEL0.out.trans (b2.mono HBEL0.out.size))
                clear b2 hbx2
                go_wp2_with fail
                refine (radd_bad _ w1.heap.size _ nw _ _ _ rfl hin).mono ?_
                rintro e w3 ⟨rfl, b3⟩
                go_wp2
                exact ⟨⟨k + 1, by omega, by omega, by go_num, turn, tu, ws, L, HB2.out.keep (Keep.of_below b3 []), ht0, by omega, hu0, by omega, by omega, HBEL2.out.trans (b3.mono HBEL2.out.size)⟩, by simp [intOf]; omega⟩
            · have hdo' : (dv == 0) = false := by simp [hdo]
              clear hdo
              have HB0 := Lib.hid (HB.out.keep ((Keep.refl [] wr).alloc (.cells (cellsA ⟨dv, qx, xA, xn, xc, nw⟩).toArray 50)))
              have HXB := Lib.hid (Blk.new wr 50 (cellsA ⟨dv, qx, xA, xn, xc, nw⟩).toArray)
              have HBEL0 := Lib.hid (HBEL.out.alloc hbz (.cells (cellsA ⟨dv, qx, xA, xn, xc, nw⟩).toArray 50))
              have HPL := Lib.hid HB.out.lt
              have HLL : Hid (L.length = ws.length) := Lib.hid (by have := congrArg List.length HB.out.eq; simpa using this.symm)
              have hqg : w.heap.size ≤ w1.heap.size := z1
              go_wp2_with fail
              refine (due_ _ g gw bw bm count gap turn tu ws HB0.out.at_ HB0.out.okw ⟨by omega, by omega⟩ (by omega) hu0 (by omega) (by omega) nw (by omega)).mono ?_
              rintro e w2 ⟨v, rfl, hdone⟩
              obtain ⟨out, Lp, tr, hmid, hqu⟩ := hdone
              obtain ⟨A1, c1, rfl, _⟩ := own_form hmid.own
              have k2 := hmid.keep
              have z2 := k2.size
              have hrat2 := (HB0.out.rat.keep k2 (by have := HPL.out; simp; simp at *; omega)).drewN 1
              have hlow2 : ∀ y ∈ L, Low (w2.drewN 1) w.heap.size y := fun y hy => (HB0.out.low y hy).below (below_drewN (k2.below HBEL0.out.size (by have := HB0.out.b1; have := HB0.out.b2; have := HB0.out.b3; have := HB0.out.b4; simp; simp at *; omega)) 1)
              have hbx2 := Keep.blk k2 HXB.out (by have := HPL.out; simp; simp at *; omega)
              obtain ⟨p0, p1, p2, p3, p4⟩ := box_cells hbx2
              have HRAT2 := Lib.hid hrat2
              have HLOW2 := Lib.hid hlow2
              have HMID := Lib.hid hmid
              have HQU := Lib.hid hqu
              clear k2 hrat2 hlow2 hbx2 hmid hqu p0 p1 p2 p3
              go_wp2
              go_region_with (first
                | (go_at_call 18; refine (rdue_ _ w1.heap.size count gap L w.heap.size HRAT2.out hqg HLOW2.out HB0.out.okd ⟨by omega, by omega⟩ (by rw [HLL.out]; omega) nw (by omega)).mono ?_; rintro e w3 ⟨out', L', v', rfl, hr3, hq3⟩; obtain ⟨q1, q2, hb3, q3, q4, q5, q6, o1, o2, q7, r1, r2, r3⟩ := both_due HB0.out (by omega) HMID.out HQU.out rfl hr3 hq3; obtain ⟨A2, c2, hv, rd2⟩ := own_form o2; rw [← q1] at hv rd2; subst hv; obtain ⟨A1', c1', hv1, rd1⟩ := own_form o1; cases hv1; have HSAME := Lib.hid (same_ w3 A1 A2 c1 c2 out.length out out' rd1 rd2 q7 r1 r2 r3 (by omega)); have HB3 := Lib.hid hb3; have HBEL3 := Lib.hid (HBEL0.out.trans q6); clear hr3 hq3 q1 hb3 q6 o1 o2 q7 r1 r2 r3 rd1 rd2)
                | (go_at_call 17; refine HSAME.out.mono ?_; rintro e w4 ⟨rfl, b4⟩; have HB4 := Lib.hid (HB3.out.keep (Keep.of_below b4 [])); have HBEL4 := Lib.hid (HBEL3.out.trans (b4.mono HBEL3.out.size)); have HL4 : Hid (L'.length = Lp.length) := Lib.hid (by have := congrArg List.length HB4.out.eq; simpa using this.symm); obtain ⟨v4, hq4, ho4⟩ := HB4.out.rat; obtain ⟨A4, c4, rfl, _⟩ := own_form ho4; have k4 : w4.cell? ⟨w1.heap.size, 2, none⟩ = some (.slice A4 Lp.length c4) := (hq4.cell 2).trans (by rw [← HL4.out]; rfl); clear b4 hq4 ho4)
                | (go_at_call 19; refine (len_ _ g gw bw bm count gap turn tr Lp Lp HB4.out.at_).mono ?_; rintro e w5 ⟨rfl, rfl⟩))
              all_goals
                go_wp2
                exact ⟨⟨k + 1, by omega, by omega, by go_num, turn, tr, Lp, L', HB4.out, ht0, by omega, by omega, by omega, by omega, HBEL4.out⟩, by simp [intOf]; omega⟩
        · have h40' : ¬ (k : Int) < 40 := by omega
          clear hboth hbel
          go_wp2_with fail
          refine (Q.live_ _).mono ?_
          rintro e w2 ⟨rfl, b2⟩
          go_wp2
          go_ret
          exact ⟨rfl, HBEL.out.trans (b2.mono hbz)⟩
      · have hge : ¬ (k : Int) < (n : Int) := by omega
        clear hboth hbel
        go_wp2_with fail
        refine (Q.live_ _).mono ?_
        rintro e w2 ⟨rfl, b2⟩
        go_wp2
        go_ret
        exact ⟨rfl, HBEL.out.trans (b2.mono hbz)⟩
end AskL
end Go.Proofs.YtdpppljobikjhaaDoor
