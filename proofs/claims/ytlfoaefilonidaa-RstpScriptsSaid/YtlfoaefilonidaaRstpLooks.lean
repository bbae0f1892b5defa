/-
  The walks of siphonlaw15.looks and step: a part and the document's tell the same.
-/
import Derived.Test.YtlfoaefilonidaaRstpRefTick
import Derived.Test.YtlfoaefilonidaaRstpRefNew
namespace Go.Proofs.Ytlfoaefilonidaa
set_option linter.unusedVariables false
set_option linter.unusedSimpArgs false
open Go.RowKit
namespace Rstp
open Go.Proofs.Ytlfoaefilonidaa.Prio
set_option maxRecDepth 100000 in
set_option maxHeartbeats 4000000 in
theorem looks_ (w : World) (g gp cap gk kp kcap : Nat) (t : Tr) (ha : At w g gp cap t) (hr : RAt w gk kp kcap t) (hw : Wf t) :
    Calls Try.prog 21 #[.pointer (some ⟨g, 0, none⟩), .pointer (some ⟨gk, 0, none⟩)] w fun e w' => e = .returned (.bool true) ∧ Below w.heap.size w w' := by
  have hl := hw.l1
  have hl0 := hw.l0
  have c1 : w.cell? ⟨gk, 1, none⟩ = some (.slice (some ⟨kp, 0, none⟩) t.ps.length kcap) := hr.tree.2.1
  have HA := Lib.hid ha
  have HR := Lib.hid hr
  have hglt := ha.lt
  have hklt := hr.lt
  clear ha hr
  go_enter Try.func21, Try.ntmps21
  go_wp2
  go_loopw [5] (fun i wr => ∃ (m : Int) (n : Nat), -1 ≤ m ∧ m ≤ t.ps.length + 1 ∧ i = .int .i64 m ∧ wr = w.drewN n) (fun i _ => (t.ps.length + 1 - intOf i).toNat)
  case atStart => exact ⟨-1, 0, by omega, by omega, rfl, rfl⟩
  case round =>
    obtain ⟨m, n, hm0, hm1, rfl, rfl⟩ := hrel
    by_cases hml : m ≤ t.ps.length
    · go_upto_region 6 with fail
      go_cut [27] (fun s27 wx => ∃ b : Bool, s27 = .bool b ∧ Hid (b = true ↔ 0 ≤ m ∧ m < t.ps.length) ∧ wx = w.drewN n)
      case first =>
        by_cases hm2 : 0 ≤ m
        · by_cases hm3 : m < t.ps.length
          · go_wp2_with fail
            go_meet
            exact ⟨true, rfl, Lib.hid ⟨fun _ => ⟨hm2, hm3⟩, fun _ => rfl⟩, rfl⟩
          · have hm3' : decide (m < (t.ps.length : Int)) = false := decide_eq_false hm3
            have H3 := Lib.hid hm3
            clear hm3
            go_wp2_with fail
            go_meet
            exact ⟨false, rfl, Lib.hid ⟨fun h => (by cases h), fun h => (by have h1 := H3.out; have h2 := h.2; omega)⟩, rfl⟩
        · have hm2' : decide (0 ≤ m) = false := decide_eq_false hm2
          have H2 := Lib.hid hm2
          clear hm2
          go_wp2_with fail
          go_meet
          exact ⟨false, rfl, Lib.hid ⟨fun h => (by cases h), fun h => (by have h1 := H2.out; have h2 := h.1; omega)⟩, rfl⟩
      case rest =>
      obtain ⟨b, rfl, HB, rfl⟩ := hcut
      go_upto_if 27 with fail
      go_cut [6, 7] (fun s6 s7 wx => s6 = .int .i64 (roleA t m) ∧ s7 = .bool (fwdA t m) ∧ wx = w.drewN n)
      case first =>
        cases b
        · have hno : okT t m 0 = false := by
            cases h : okT t m 0
            · rfl
            · have h2 := okT_iff.1 h
              have := HB.out.2 ⟨h2.2.2.1, h2.2.2.2⟩
              cases this
          have E1 := Lib.hid (roleA_no hno).1
          have E2 := Lib.hid (roleA_no hno).2.1
          clear hno
          go_wp2_with fail
          go_meet
          exact ⟨by rw [E1.out], by rw [E2.out], rfl⟩
        · obtain ⟨hm2, hm3⟩ := HB.out.1 rfl
          obtain ⟨k, rfl⟩ := Int.eq_ofNat_of_zero_le hm2
          obtain ⟨p, hp⟩ : ∃ p, t.ps[k]? = some p := ⟨_, List.getElem?_eq_getElem (by omega)⟩
          have e1 : w.cell? ⟨kp, k * 12 + 9, none⟩ = some (.int .i64 p.role) := HR.out.port hp rfl
          have e2 : w.cell? ⟨kp, k * 12 + 11, none⟩ = some (.bool p.fwd) := HR.out.port hp rfl
          have E1 := Lib.hid (roleA_yes hp).1
          have E2 := Lib.hid (roleA_yes hp).2.1
          clear hp
          go_wp2_with fail
          go_meet
          exact ⟨by rw [E1.out], by rw [E2.out], rfl⟩
      case rest =>
        obtain ⟨rfl, rfl, rfl⟩ := hcut
        go_wp2_with fail
        refine (role_any _ g gp cap t m (HA.out.drewN n) hw).mono ?_
        rintro e w1 ⟨rfl, rfl⟩
        go_wp2_with fail
        refine (fwd_any _ g gp cap t m (HA.out.drewN n) hw).mono ?_
        rintro e w1 ⟨rfl, rfl⟩
        go_wp2_with fail
        refine (learns_any _ g gp cap t m (HA.out.drewN n) hw).mono ?_
        rintro e w1 ⟨rfl, n1, rfl⟩
        go_wp2_with fail
        refine (rlearns_ _ gk kp kcap t m (HR.out.drewN _) hw).mono ?_
        rintro e w1 ⟨rfl, n2, rfl⟩
        go_wp2
        go_roundw
        case rel => exact ⟨m + 1, _, by omega, by omega, by go_num, rfl⟩
        case measure => simp [intOf]; omega
    · obtain ⟨c4, c5, c6, c7⟩ := HR.out.best
      have c5' : w.cell? ⟨gk, 4 + 1, none⟩ = some (.int .i64 t.best.cost) := c5
      have c6' : w.cell? ⟨gk, 4 + 2, none⟩ = some (.int .u64 t.best.bridge) := c6
      have c7' : w.cell? ⟨gk, 4 + 3, none⟩ = some (.int .i64 t.best.port) := c7
      have c8 : w.cell? ⟨gk, 8, none⟩ = some (.int .i64 t.change) := HR.out.tree.2.2.2.2
      have hkw : gk < w.heap.size := hklt.1
      have hroot : ∀ w', At w' g gp cap t → Calls Try.prog 12 #[.pointer (some ⟨g, 0, none⟩)] w' fun e w'' => e = .returned (.agg #[.int .u64 t.best.root, .int .i64 t.best.cost, .int .u64 t.best.bridge, .int .i64 t.best.port]) ∧ Below w'.heap.size w' w'' := fun w' h => root_ w' g gp cap t h
      have ROOT := Lib.hid hroot
      clear c5 c6 c7 hroot
      go_wp2
      go_region_held3 (fun w' => w'.cell? ⟨gk, 4, none⟩ = some (.int .u64 t.best.root) ∧ w'.cell? ⟨gk, 4 + 1, none⟩ = some (.int .i64 t.best.cost) ∧ w'.cell? ⟨gk, 4 + 2, none⟩ = some (.int .u64 t.best.bridge) ∧ w'.cell? ⟨gk, 4 + 3, none⟩ = some (.int .i64 t.best.port) ∧ w'.cell? ⟨gk, 8, none⟩ = some (.int .i64 t.change))
        (first
          | exact g5
          | (exact ⟨c4, c5', c6', c7', c8⟩))
        (first
          | (go_at_call 12; refine (ROOT.out _ ((HA.out.drewN n).drew)).mono ?_; rintro e w5 ⟨rfl, hb5⟩; have g5 : w5.cell? ⟨gk, 4, none⟩ = some (.int .u64 t.best.root) ∧ w5.cell? ⟨gk, 4 + 1, none⟩ = some (.int .i64 t.best.cost) ∧ w5.cell? ⟨gk, 4 + 2, none⟩ = some (.int .u64 t.best.bridge) ∧ w5.cell? ⟨gk, 4 + 3, none⟩ = some (.int .i64 t.best.port) ∧ w5.cell? ⟨gk, 8, none⟩ = some (.int .i64 t.change) := ⟨bkeep hb5 hkw c4, bkeep hb5 hkw c5', bkeep hb5 hkw c6', bkeep hb5 hkw c7', bkeep hb5 hkw c8⟩; have HAT5 := Lib.hid (((HA.out.drewN n).drew).below hb5); have HB5 := Lib.hid hb5; clear hb5)
          | (go_at_call 23; refine (changed_ _ g gp cap t HAT5.out).mono ?_; rintro e w6 ⟨rfl, rfl⟩))
      go_wp2
      go_ret
      exact ⟨rfl, (below_drewN (Below.refl w.heap.size w) n).drew.trans HB5.out⟩
def opStep (t : Tr) (o : OpR) : Tr := if o.kind = 0 then opLink t o.port o.up o.now else if o.kind = 1 then opHear t o.port o.b o.now else opTick t o.now
theorem Wf.opStep {t : Tr} (h : Wf t) (o : OpR) (ho : OkOp o) : Wf (opStep t o) := by
  unfold Rstp.opStep
  split
  · exact h.opLink _ _ _
  · split
    · exact h.opHear _ _ _ ⟨ho.a0, ho.a1⟩
    · exact h.opTick _
/-- what a step makes of both -/
def Both (g gp cap gk kp kcap : Nat) (t : Tr) (w : World) (e : Ending) (w' : World) : Prop := e = .returned (.bool true) ∧ At w' g gp cap t ∧ RAt w' gk kp kcap t ∧ Keep [g, gp, gk, kp] w w'
theorem keep4 {g gp gk kp : Nat} {w w1 w2 w3 : World} (h1 : Keep [g, gp] w w1) (h2 : Keep [gk, kp] w1 w2) (h3 : Below w2.heap.size w2 w3) : Keep [g, gp, gk, kp] w w3 :=
  ((h1.mono (ys := [g, gp, gk, kp]) (fun x hx => .inl (by simp at hx ⊢; omega))).trans (h2.mono (ys := [g, gp, gk, kp]) (fun x hx => .inl (by simp at hx ⊢; omega)))).trans (Keep.of_below h3 _)
end Rstp
end Go.Proofs.Ytlfoaefilonidaa
