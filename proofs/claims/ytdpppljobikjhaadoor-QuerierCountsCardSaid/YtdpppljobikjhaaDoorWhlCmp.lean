/-
  The walks of cmp.Compare[int], cmp.Or[int], wheel.before.
-/
import Derived.Test.YtdpppljobikjhaaDoorRows
import Derived.Test.YtdpppljobikjhaaDoorRow
import Derived.WalkLawsBesides
import Derived.WalkSpells
import Derived.Lib.Hide
import Derived.Outline
import Derived.Deep.QuietTactic
import Derived.BigQuiet
import Derived.RegionTactic
import Derived.StillTailTactics
import Derived.LoopTactic
import Derived.Test.YtdpppljobikjhaaDoorSort
namespace Go.Proofs.YtdpppljobikjhaaDoor
set_option linter.unusedVariables false
set_option linter.unusedSimpArgs false
open Go.RowKit
namespace WhlC
def cmpI (a b : Int) : Int := if a < b then -1 else if b < a then 1 else 0
theorem nan_ (a : Int) (w : World) : Calls Tryd.prog 57 #[.int .i64 a] w fun e w' => e = .returned (.bool false) ∧ w' = w := by
  go_enter Tryd.func57, Tryd.ntmps57
  go_wp2
  go_ret
  exact ⟨rfl, rfl⟩
theorem compare_ (a b : Int) (w : World) : Calls Tryd.prog 51 #[.int .i64 a, .int .i64 b] w fun e w' => e = .returned (.int .i64 (cmpI a b)) ∧ w' = w := by
  rcases Int.lt_trichotomy a b with h | h | h
  · have e : cmpI a b = -1 := by unfold cmpI; rw [if_pos h]
    rw [e]
    go_enter Tryd.func51, Tryd.ntmps51
    go_wp2_with (first
      | (go_at_call 57; refine (nan_ _ _).mono ?_; rintro _ _ ⟨rfl, rfl⟩)
      | go_in)
    go_ret
    exact ⟨rfl, rfl⟩
  · have e : cmpI a b = 0 := by unfold cmpI; rw [if_neg (by omega), if_neg (by omega)]
    rw [e]
    have h1 : ¬ a < b := by omega
    have h2 : ¬ b < a := by omega
    clear h
    go_enter Tryd.func51, Tryd.ntmps51
    go_wp2_with (first
      | (go_at_call 57; refine (nan_ _ _).mono ?_; rintro _ _ ⟨rfl, rfl⟩)
      | go_in)
    go_ret
    exact ⟨rfl, rfl⟩
  · have e : cmpI a b = 1 := by unfold cmpI; rw [if_neg (by omega), if_pos h]
    rw [e]
    have h1 : ¬ a < b := by omega
    go_enter Tryd.func51, Tryd.ntmps51
    go_wp2_with (first
      | (go_at_call 57; refine (nan_ _ _).mono ?_; rintro _ _ ⟨rfl, rfl⟩)
      | go_in)
    go_ret
    exact ⟨rfl, rfl⟩
theorem ret_int {x y : Int} (h : x = y) : Ending.returned (.int .i64 x) = Ending.returned (.int .i64 y) := by rw [h]
def or2 (x y : Int) : Int := if x ≠ 0 then x else y
theorem or_ (g : Nat) (x0 x1 : Int) (w : World) (h0 : w.cell? ⟨g, 0, none⟩ = some (.int .i64 x0)) (h1 : w.cell? ⟨g, 1, none⟩ = some (.int .i64 x1)) :
    Calls Tryd.prog 50 #[.slice (some ⟨g, 0, none⟩) 2 2] w fun e w' => e = .returned (.int .i64 (or2 x0 x1)) ∧ w' = w := by
  go_enter Tryd.func50, Tryd.ntmps50
  go_wp2
  go_loop [2, 8] (fun o i => o = .int .i64 0 ∧ (i = .int .i64 0 ∨ (i = .int .i64 1 ∧ x0 = 0) ∨ (i = .int .i64 2 ∧ x0 = 0 ∧ x1 = 0))) (fun _ i => 2 - (intOf i).toNat)
  case atStart => exact ⟨rfl, .inl rfl⟩
  case round =>
    obtain ⟨rfl, hrel⟩ := hrel
    rcases hrel with rfl | ⟨rfl, rfl⟩ | ⟨rfl, rfl, rfl⟩
    · by_cases hx : x0 = 0
      · subst hx
        go_wp2; go_round
        case rel => exact ⟨rfl, by simp⟩
        case measure => simp [intOf]
      · have HF := Lib.hid (show or2 x0 x1 = x0 by simp [or2, hx])
        go_wp2; go_ret
        exact ⟨ret_int HF.out.symm, rfl⟩
    · by_cases hx : x1 = 0
      · subst hx
        go_wp2; go_round
        case rel => exact ⟨rfl, by simp⟩
        case measure => simp [intOf]
      · have HF := Lib.hid (show or2 0 x1 = x1 by simp [or2])
        go_wp2; go_ret
        exact ⟨ret_int HF.out.symm, rfl⟩
    · have HF := Lib.hid (show or2 0 0 = 0 by simp [or2])
      go_wp2; go_ret
      exact ⟨ret_int HF.out.symm, rfl⟩
/-- how two timers stand: by their time, then by their turn -/
def cmpT (x y : Int × Int) : Int := or2 (cmpI x.1 y.1) (cmpI x.2 y.2)
theorem cmpT_neg (x y : Int × Int) : cmpT x y < 0 ↔ x.1 < y.1 ∨ (x.1 = y.1 ∧ x.2 < y.2) := by
  unfold cmpT or2 cmpI
  (repeat' split) <;> omega
set_option maxRecDepth 20000 in
theorem before_g (xa xt ya yt : Int) (w : World) : Calls Tryd.prog 42 #[.agg #[.int .i64 xa, .int .i64 xt], .agg #[.int .i64 ya, .int .i64 yt]] w fun e w' => e = .returned (.int .i64 (cmpT (xa, xt) (ya, yt))) ∧ Srt.Gr w w' := by
  go_enter Tryd.func42, Tryd.ntmps42
  go_wp2
  refine region_tail 10 (by kernel_rfl) (by kernel_rfl) ?_
  simp only [List.take_succ_cons, List.take_zero, List.drop_succ_cons, List.drop_zero]
  refine SW.un ?_
  (refine SW.want (by kernel_rfl) (fun K hK => ?_); have HK := Lib.hid hK; clear hK; go_simp; refine SW.on HK ?_; clear HK K)
  (refine SW.want (by kernel_rfl) (fun K hK => ?_); have HK := Lib.hid hK; clear hK; go_simp; refine SW.on HK ?_; clear HK K)
  (refine SW.want (by kernel_rfl) (fun K hK => ?_); have HK := Lib.hid hK; clear hK; go_simp; refine SW.on HK ?_; clear HK K)
  (refine SW.want (by kernel_rfl) (fun K hK => ?_); have HK := Lib.hid hK; clear hK; go_simp; refine SW.on HK ?_; clear HK K)
  refine SW.want (by kernel_rfl) (fun K hK => ?_); have HK := Lib.hid hK; clear hK; go_simp; refine ⟨.int .i64 (cmpI xa ya), compare_ xa ya _, SW.on HK ?_⟩; clear HK K
  (refine SW.want (by kernel_rfl) (fun K hK => ?_); have HK := Lib.hid hK; clear hK; go_simp; refine SW.on HK ?_; clear HK K)
  (refine SW.want (by kernel_rfl) (fun K hK => ?_); have HK := Lib.hid hK; clear hK; go_simp; refine SW.on HK ?_; clear HK K)
  (refine SW.want (by kernel_rfl) (fun K hK => ?_); have HK := Lib.hid hK; clear hK; go_simp; refine SW.on HK ?_; clear HK K)
  (refine SW.want (by kernel_rfl) (fun K hK => ?_); have HK := Lib.hid hK; clear hK; go_simp; refine SW.on HK ?_; clear HK K)
  refine SW.want (by kernel_rfl) (fun K hK => ?_); have HK := Lib.hid hK; clear hK; go_simp; refine ⟨.int .i64 (cmpI xt yt), compare_ xt yt _, SW.on HK ?_⟩; clear HK K
  refine SW.nil ?_
  go_wp2_with fail
  refine (or_ _ (cmpI xa ya) (cmpI xt yt) _ ?_ ?_).mono ?_
  · go_simp
  · go_simp
  rintro e w' ⟨rfl, rfl⟩
  go_wp2
  go_ret
  exact ⟨rfl, by repeat (first | exact Srt.Gr.refl _ | apply Srt.Gr.drew | (refine Srt.Gr.alloc ?_ _))⟩
theorem before__ (xa xt ya yt : Int) (w : World) : Calls Tryd.prog 42 #[.agg #[.int .i64 xa, .int .i64 xt], .agg #[.int .i64 ya, .int .i64 yt]] w fun e w' => e = .returned (.int .i64 (cmpT (xa, xt) (ya, yt))) ∧ Below w.heap.size w w' :=
  (before_g xa xt ya yt w).mono fun _ _ h => ⟨h.1, h.2.below⟩
end WhlC
end Go.Proofs.YtdpppljobikjhaaDoor
