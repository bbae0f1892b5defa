/-
  The walk of RstpForgets.
-/
import Derived.Test.YtlfoaefilonidaaRstpAny
import Derived.Test.YtlfoaefilonidaaRstpForgetsMath
import Derived.Test.YtlfoaefilonidaaRstpOpen
import Derived.Deep.RegionHeld3
namespace Go.Proofs.Ytlfoaefilonidaa
set_option linter.unusedVariables false
set_option linter.unusedSimpArgs false
open Go.RowKit
namespace Rstp
open Go.Proofs.Ytlfoaefilonidaa.Prio
theorem reads_new' (w : World) (l : List Value) (t : TypeId) (g : Nat) (hg : w.heap.size = g) : Reads (w.alloc (.cells l.toArray t)) (w.alloc (.cells l.toArray t)).heap.size 1 (some ⟨g, 0, none⟩) l.length l := hg ▸ reads_new w l t
def notMay (b : Int) (v : Vec) (c : Int) : Prop := b ≤ v.root ∨ (v.root < b ∧ v.bridge = b) ∨ (v.root < b ∧ v.bridge ≠ b ∧ v.cost < 0) ∨ (v.root < b ∧ v.bridge ≠ b ∧ 0 ≤ v.cost ∧ 1000000 < v.cost) ∨ (v.root < b ∧ v.bridge ≠ b ∧ 0 ≤ v.cost ∧ v.cost ≤ 1000000 ∧ c < 1) ∨ (v.root < b ∧ v.bridge ≠ b ∧ 0 ≤ v.cost ∧ v.cost ≤ 1000000 ∧ 1 ≤ c ∧ 1000000 < c)
theorem may9_or (b : Int) (v : Vec) (c : Int) : notMay b v c ∨ May9 b v c := by
  by_cases h : notMay b v c
  · exact .inl h
  · refine .inr ⟨?_, ?_, ?_, ?_, ?_, ?_⟩ <;> (unfold notMay at h; omega)
set_option maxRecDepth 100000 in
set_option maxHeartbeats 4000000 in
theorem forgets_no (b : Int) (v : Vec) (c : Int) (w : World) (h : notMay b v c) :
    Calls Try.prog 7 #[.int .u64 b, .agg #[.int .u64 v.root, .int .i64 v.cost, .int .u64 v.bridge, .int .i64 v.port], .int .i64 c] w fun e w' => e = .returned (.bool true) ∧ Below w.heap.size w w' := by
  unfold notMay at h
  rcases h with h1 | ⟨h1, h2⟩ | ⟨h1, h2, h3⟩ | ⟨h1, h2, h3, h4⟩ | ⟨h1, h2, h3, h4, h5⟩ | ⟨h1, h2, h3, h4, h5, h6⟩
  case inr.inl =>
    have h2' : (v.bridge == b) = true := by simp [h2]
    clear h2
    go_enter Try.func7, Try.ntmps7
    go_wp2_with fail
    refine (live_ _).mono ?_
    rintro e w2 ⟨rfl, hb2⟩
    go_wp2_with fail
    go_ret
    exact ⟨rfl, ((Below.refl _ _).alloc (Nat.le_refl _) _).trans (hb2.mono (by simp))⟩
  case inl =>
    go_enter Try.func7, Try.ntmps7
    go_wp2_with fail
    refine (live_ _).mono ?_
    rintro e w2 ⟨rfl, hb2⟩
    go_wp2_with fail
    go_ret
    exact ⟨rfl, ((Below.refl _ _).alloc (Nat.le_refl _) _).trans (hb2.mono (by simp))⟩
  all_goals
    have h2' : (v.bridge == b) = false := by simp [h2]
    clear h2
    go_enter Try.func7, Try.ntmps7
    go_wp2_with fail
    refine (live_ _).mono ?_
    rintro e w2 ⟨rfl, hb2⟩
    go_wp2_with fail
    go_ret
    exact ⟨rfl, ((Below.refl _ _).alloc (Nat.le_refl _) _).trans (hb2.mono (by simp))⟩
set_option maxRecDepth 100000 in
set_option maxHeartbeats 4000000 in
theorem forgets_yes (b : Int) (v : Vec) (c : Int) (w : World) (h : May9 b v c) :
    Calls Try.prog 7 #[.int .u64 b, .agg #[.int .u64 v.root, .int .i64 v.cost, .int .u64 v.bridge, .int .i64 v.port], .int .i64 c] w fun e w' => e = .returned (.bool true) ∧ Below w.heap.size w w' := by
  obtain ⟨h1, h2, h3, h4, h5, h6⟩ := h
  have HM : Hid (May9 b v c) := Lib.hid ⟨h1, h2, h3, h4, h5, h6⟩
  have h2' : (v.bridge == b) = false := by simp [h2]
  have hm : mayT [c] = true := mayT_iff.2 ⟨by simp, by simp, fun x hx => by simp at hx; subst hx; exact costOk_iff.2 ⟨by omega, by omega⟩⟩
  have HMT := Lib.hid hm
  clear h2 hm
  have hvc := (vec_cells (Blk.new w 33 #[.int .u64 v.root, .int .i64 v.cost, .int .u64 v.bridge, .int .i64 v.port]))
  have HV := Lib.hid (Blk.new w 33 #[.int .u64 v.root, .int .i64 v.cost, .int .u64 v.bridge, .int .i64 v.port])
  clear hvc
  go_enter Try.func7, Try.ntmps7
  go_wp2_with fail
  refine (new_yes b _ 1 1 [c] _ (reads_new' (w.alloc (.cells #[.int .u64 v.root, .int .i64 v.cost, .int .u64 v.bridge, .int .i64 v.port] 33)) [.int .i64 c] 3 _ (by simp)) HMT.out).mono ?_
  rintro e w1 ⟨g, gp, cap, rfl, hat, hg, hgp, hb1⟩
  have hsz := hb1.size
  simp only [World.size_alloc] at hsz hg hgp
  have hlt : w.heap.size < w1.heap.size := by omega
  have hv1 := ((HV.out).alloc (.cells #[.int .i64 c] 3)).below hb1 (by simp; omega)
  have hbb := (((Below.refl w.heap.size w).alloc (Nat.le_refl _) (.cells #[.int .u64 v.root, .int .i64 v.cost, .int .u64 v.bridge, .int .i64 v.port] 33)).alloc (by simp) (.cells #[.int .i64 c] 3)).trans (hb1.mono (by simp; omega))
  have hgw : w.heap.size ∉ [g, gp] := by simp; omega
  have HGW := Lib.hid hgw
  have HV1 := Lib.hid hv1
  have HB1 := Lib.hid hbb
  clear hgw hv1 hbb hb1 HV
  go_wp2_with fail
  refine (link_ _ g gp cap (newT b [c]) 0 (newP c) true 10 hat (Wf.new b HMT.out) (by kernel_rfl) rfl).mono ?_
  rintro e w2 ⟨rfl, hat2, hk2⟩
  rw [link9] at hat2
  have hv2 := hk2.blk HV1.out HGW.out
  replace HB1 := Lib.hid (keep2_below HB1.out hk2 (by omega) (by omega))
  obtain ⟨v0, v1, v2, v3, _⟩ := vec_cells hv2
  have HV2 := Lib.hid hv2
  clear hk2 hv2 hat HV1
  go_wp2_with fail
  refine (hear_ _ g gp cap (H9 b c) 0 _ ⟨v, 0, false, false, false⟩ 10 hat2 (wfH b c) (by kernel_rfl) rfl rfl ⟨by show (_ : Int) ≤ 0; omega, by show (0 : Int) ≤ _; omega⟩).mono ?_
  rintro e w3 ⟨rfl, hat3, hk3⟩
  rw [hear9 HM.out rfl] at hat3
  have hv3 := hk3.blk HV2.out HGW.out
  replace HB1 := Lib.hid (keep2_below HB1.out hk3 (by omega) (by omega))
  have HV3 := Lib.hid hv3
  have HAT3 := Lib.hid hat3
  clear hk3 hv3 hat2 hat3 HV2 v0 v1 v2 v3
  go_wp2_with fail
  go_loopw [9] (fun i wr => ∃ (m : Int), 10 ≤ m ∧ m ≤ 16 ∧ i = .int .i64 m ∧ (∃ q, 10 ≤ q ∧ q ≤ m ∧ q ≤ 15 ∧ At wr g gp cap (F9 b v c q)) ∧ Blk wr w.heap.size 33 #[.int .u64 v.root, .int .i64 v.cost, .int .u64 v.bridge, .int .i64 v.port] ∧ Below w.heap.size w wr) (fun i _ => (16 - intOf i).toNat)
  case atStart => exact ⟨10, by omega, by omega, rfl, ⟨10, by omega, by omega, by omega, HAT3.out⟩, HV3.out, HB1.out⟩
  case round =>
    obtain ⟨m, hm0, hm1, rfl, ⟨q, hq0, hq1, hq2, hat⟩, hv, hb⟩ := hrel
    have hlt4 := hv.lt
    have HV := Lib.hid hv
    have HB := Lib.hid hb
    clear hv hb
    by_cases hm : m < 16
    · go_wp2_with fail
      refine (tick_ _ g gp cap (F9 b v c q) m hat (wfF b v c hq0 (by omega)) (okT_iff.2 ⟨by omega, by omega, by omega, by show (0 : Int) < ((1 : Nat) : Int); omega⟩)).mono ?_
      rw [tick9 HM.out hq0 hq1 (by omega)]
      rintro e w4 ⟨A, cc, rfl, _, _, hat4, hk4⟩
      have hv4 := hk4.blk HV.out HGW.out
      replace HB := Lib.hid (keep2_below HB.out hk4 (by omega) (by omega))
      obtain ⟨v0, v1, v2, v3, _⟩ := vec_cells hv4
      have HV4 := Lib.hid hv4
      have HAT4 := Lib.hid hat4
      have hx : IntKind.i64.wrap (v.cost + c) = v.cost + c := IntWalk.i64_in _ (by omega)
      have hlt4' : w.heap.size < w4.heap.size := by have := hk4.size; omega
      clear hk4 hv4 hat4 hat
      have hrole : ∀ w', At w' g gp cap (F9 b v c m) → Calls Try.prog 18 #[.pointer (some ⟨g, 0, none⟩), .int .i64 0] w' fun e w'' => e = .returned (.int .i64 1) ∧ w' = w'' := fun w' h => role_in w' g gp cap (F9 b v c m) 0 _ h (by show 1 ≤ 16; omega) rfl
      have hroot : ∀ w', At w' g gp cap (F9 b v c m) → Calls Try.prog 12 #[.pointer (some ⟨g, 0, none⟩)] w' fun e w'' => e = .returned (.agg #[.int .u64 v.root, .int .i64 (v.cost + c), .int .u64 v.bridge, .int .i64 v.port]) ∧ Below w'.heap.size w' w'' := fun w' h => root_ w' g gp cap (F9 b v c m) h
      have ROLE := Lib.hid hrole
      have ROOT := Lib.hid hroot
      clear hrole hroot
      have hfd0 : ∀ w' : World, (Instr.field 33 (.agg #[.int .u64 v.root, .int .i64 (v.cost + c), .int .u64 v.bridge, .int .i64 v.port]) 0).run Try.prog w' = .ok (.int .u64 v.root) w' := fun _ => by kernel_rfl
      have hfd1 : ∀ w' : World, (Instr.field 33 (.agg #[.int .u64 v.root, .int .i64 (v.cost + c), .int .u64 v.bridge, .int .i64 v.port]) 1).run Try.prog w' = .ok (.int .i64 (v.cost + c)) w' := fun _ => by kernel_rfl
      go_wp2_with fail
      go_region_held3 (fun w' => w'.cell? ⟨w.heap.size, 0, none⟩ = some (.int .u64 v.root) ∧ w'.cell? ⟨w.heap.size, 1, none⟩ = some (.int .i64 v.cost))
        (first
          | exact g6
          | exact g5
          | (exact ⟨v0, v1⟩))
        (first
          | (go_at_call 18; refine (ROLE.out _ (HAT4.out.drew)).mono ?_; rintro e w' ⟨rfl, rfl⟩)
          | (go_at_call 12; refine (ROOT.out _ (HAT4.out.drew)).mono ?_; rintro e w5 ⟨rfl, hb5⟩; have g5 : w5.cell? ⟨w.heap.size, 0, none⟩ = some (.int .u64 v.root) ∧ w5.cell? ⟨w.heap.size, 1, none⟩ = some (.int .i64 v.cost) := ⟨bkeep hb5 hlt4' v0, bkeep hb5 hlt4' v1⟩; have HAT5 := Lib.hid ((HAT4.out.drew).below hb5); have HB5 := Lib.hid hb5; have hlt5 : w.heap.size < w5.heap.size := Nat.lt_of_lt_of_le hlt4' hb5.size; clear hb5)
          | (go_at_call 12; refine (ROOT.out _ HAT5.out).mono ?_; rintro e w6 ⟨rfl, hb6⟩; have g6 : w6.cell? ⟨w.heap.size, 0, none⟩ = some (.int .u64 v.root) ∧ w6.cell? ⟨w.heap.size, 1, none⟩ = some (.int .i64 v.cost) := ⟨bkeep hb6 hlt5 g5.1, bkeep hb6 hlt5 g5.2⟩; have HAT6 := Lib.hid (HAT5.out.below hb6); have HB6 := Lib.hid hb6; clear hb6))
      go_wp2
      go_roundw
      case rel => exact ⟨m + 1, by omega, by omega, by go_num, ⟨m, by omega, by omega, by omega, HAT6.out⟩, (HV4.out.drew.below HB5.out hlt4').below HB6.out hlt5, ((HB.out.drew).trans (HB5.out.mono HB.out.size)).trans (HB6.out.mono (Nat.le_trans HB.out.size HB5.out.size))⟩
      case measure => simp [intOf]; omega
    · have hm16 : m = 16 := by omega
      subst hm16
      go_wp2_with fail
      refine (tick_ _ g gp cap (F9 b v c q) 16 hat (wfF b v c hq0 (by omega)) (okT_iff.2 ⟨by omega, by omega, by omega, by show (0 : Int) < ((1 : Nat) : Int); omega⟩)).mono ?_
      rw [tick9' hq2]
      rintro e w4 ⟨A, cc, rfl, _, _, hat4, hk4⟩
      replace HB := Lib.hid (keep2_below HB.out hk4 (by omega) (by omega))
      have hrole : ∀ w', At w' g gp cap (G9 b v c) → Calls Try.prog 18 #[.pointer (some ⟨g, 0, none⟩), .int .i64 0] w' fun e w'' => e = .returned (.int .i64 2) ∧ w' = w'' := fun w' h => role_in w' g gp cap (G9 b v c) 0 _ h (by show 1 ≤ 16; omega) rfl
      have hroot : ∀ w', At w' g gp cap (G9 b v c) → Calls Try.prog 12 #[.pointer (some ⟨g, 0, none⟩)] w' fun e w'' => e = .returned (.agg #[.int .u64 b, .int .i64 0, .int .u64 b, .int .i64 0]) ∧ Below w'.heap.size w' w'' := fun w' h => root_ w' g gp cap (G9 b v c) h
      have ROLE := Lib.hid hrole
      have ROOT := Lib.hid hroot
      clear hrole hroot hk4 hat
      go_wp2_with fail
      refine (ROLE.out _ hat4).mono ?_
      rintro e w5 ⟨rfl, rfl⟩
      go_wp2_with fail
      refine (ROOT.out _ hat4).mono ?_
      rintro e w5 ⟨rfl, hb5⟩
      go_wp2_with fail
      refine (own_ b _).mono ?_
      rintro e w6 ⟨rfl, hb6⟩
      go_wp2_with fail
      refine (live_ _).mono ?_
      rintro e w7 ⟨rfl, hb7⟩
      go_wp2_with fail
      go_ret
      have z5 := hb5.size
      have z6 := hb6.size
      have z := HB.out.size
      exact ⟨rfl, ((HB.out.trans (hb5.mono z)).trans (hb6.mono (Nat.le_trans z z5))).trans (hb7.mono (Nat.le_trans z (Nat.le_trans z5 z6)))⟩
theorem forgets_ (b : Int) (v : Vec) (c : Int) (w : World) :
    Calls Try.prog 7 #[.int .u64 b, .agg #[.int .u64 v.root, .int .i64 v.cost, .int .u64 v.bridge, .int .i64 v.port], .int .i64 c] w fun e w' => e = .returned (.bool true) ∧ Below w.heap.size w w' := by
  rcases may9_or b v c with h | h
  · exact forgets_no b v c w h
  · exact forgets_yes b v c w h
end Rstp
end Go.Proofs.Ytlfoaefilonidaa
