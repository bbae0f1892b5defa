/-
  The walks of package prio and of its reference: each returns what the plain functions give; of what was in memory nothing changes.
-/
import Derived.Test.YtdgbemafhhhceaaRows
import Derived.Test.YtdgbemafhhhceaaPrioMath
import Derived.Test.YtdgbemafhhhceaaWords
import Derived.WalkKit
import Derived.Outline
import Derived.WalkLawsBesides
import Derived.WalkSpells
import Derived.Lib.Hide
import Derived.Deep.QuietTactic
import Derived.BigQuiet
import Derived.RegionTactic
import Derived.LoopTactic
import Derived.StillTailTactics
namespace Go.Proofs.Ytdgbemafhhhceaa
set_option linter.unusedVariables false
set_option linter.unusedSimpArgs false
open Go.RowKit
namespace Prio
theorem nanU (b : Int) (w : World) : Calls Try.prog 59 #[.int .u64 b] w fun e w' => e = .returned (.bool false) ∧ w' = w := by
  go_enter Try.func59, Try.ntmps59
  go_wp2
  go_ret
  exact ⟨rfl, rfl⟩
theorem nanI (b : Int) (w : World) : Calls Try.prog 44 #[.int .i64 b] w fun e w' => e = .returned (.bool false) ∧ w' = w := by
  go_enter Try.func44, Try.ntmps44
  go_wp2
  go_ret
  exact ⟨rfl, rfl⟩
theorem cmpU_ (a b : Int) (w : World) : Calls Try.prog 47 #[.int .u64 a, .int .u64 b] w fun e w' => e = .returned (.int .i64 (cmpI a b)) ∧ w' = w := by
  rcases cmpI_cases a b with ⟨h1, h2⟩ | ⟨h0, h1, h2⟩ | ⟨h0, h1, h2⟩ <;> rw [h2] <;> clear h2
  · go_enter Try.func47, Try.ntmps47
    go_wp2_with (go_at_call 59; refine (nanU _ _).mono ?_; rintro e w' ⟨rfl, rfl⟩)
    go_ret
    exact ⟨rfl, rfl⟩
  · go_enter Try.func47, Try.ntmps47
    go_wp2_with (go_at_call 59; refine (nanU _ _).mono ?_; rintro e w' ⟨rfl, rfl⟩)
    go_ret
    exact ⟨rfl, rfl⟩
  · go_enter Try.func47, Try.ntmps47
    go_wp2_with (go_at_call 59; refine (nanU _ _).mono ?_; rintro e w' ⟨rfl, rfl⟩)
    go_ret
    exact ⟨rfl, rfl⟩
theorem cmpI_ (a b : Int) (w : World) : Calls Try.prog 34 #[.int .i64 a, .int .i64 b] w fun e w' => e = .returned (.int .i64 (cmpI a b)) ∧ w' = w := by
  rcases cmpI_cases a b with ⟨h1, h2⟩ | ⟨h0, h1, h2⟩ | ⟨h0, h1, h2⟩ <;> rw [h2] <;> clear h2
  · go_enter Try.func34, Try.ntmps34
    go_wp2_with (go_at_call 44; refine (nanI _ _).mono ?_; rintro e w' ⟨rfl, rfl⟩)
    go_ret
    exact ⟨rfl, rfl⟩
  · go_enter Try.func34, Try.ntmps34
    go_wp2_with (go_at_call 44; refine (nanI _ _).mono ?_; rintro e w' ⟨rfl, rfl⟩)
    go_ret
    exact ⟨rfl, rfl⟩
  · go_enter Try.func34, Try.ntmps34
    go_wp2_with (go_at_call 44; refine (nanI _ _).mono ?_; rintro e w' ⟨rfl, rfl⟩)
    go_ret
    exact ⟨rfl, rfl⟩
theorem first_ (g : Nat) (x0 x1 x2 x3 : Int) (w : World) (h0 : w.cell? ⟨g, 0, none⟩ = some (.int .i64 x0)) (h1 : w.cell? ⟨g, 1, none⟩ = some (.int .i64 x1)) (h2 : w.cell? ⟨g, 2, none⟩ = some (.int .i64 x2)) (h3 : w.cell? ⟨g, 3, none⟩ = some (.int .i64 x3)) :
    Calls Try.prog 46 #[.slice (some ⟨g, 0, none⟩) 4 4] w fun e w' => e = .returned (.int .i64 (first4 x0 x1 x2 x3)) ∧ w' = w := by
  go_enter Try.func46, Try.ntmps46
  go_wp2
  go_loop [2, 8] (fun o i => o = .int .i64 0 ∧ (i = .int .i64 0 ∨ (i = .int .i64 1 ∧ x0 = 0) ∨ (i = .int .i64 2 ∧ x0 = 0 ∧ x1 = 0) ∨ (i = .int .i64 3 ∧ x0 = 0 ∧ x1 = 0 ∧ x2 = 0) ∨ (i = .int .i64 4 ∧ x0 = 0 ∧ x1 = 0 ∧ x2 = 0 ∧ x3 = 0))) (fun _ i => 4 - (intOf i).toNat)
  case atStart => exact ⟨rfl, .inl rfl⟩
  case round =>
    obtain ⟨rfl, hrel⟩ := hrel
    rcases hrel with rfl | ⟨rfl, rfl⟩ | ⟨rfl, rfl, rfl⟩ | ⟨rfl, rfl, rfl, rfl⟩ | ⟨rfl, rfl, rfl, rfl, rfl⟩
    · by_cases hx : x0 = 0
      · subst hx
        go_wp2; go_round
        case rel => exact ⟨rfl, by simp⟩
        case measure => simp [intOf]
      · have HF := Lib.hid (show first4 x0 x1 x2 x3 = x0 by simp [first4, hx])
        go_wp2; go_ret
        exact ⟨ret_int HF.out.symm, rfl⟩
    · by_cases hx : x1 = 0
      · subst hx
        go_wp2; go_round
        case rel => exact ⟨rfl, by simp⟩
        case measure => simp [intOf]
      · have HF := Lib.hid (show first4 0 x1 x2 x3 = x1 by simp [first4, hx])
        go_wp2; go_ret
        exact ⟨ret_int HF.out.symm, rfl⟩
    · by_cases hx : x2 = 0
      · subst hx
        go_wp2; go_round
        case rel => exact ⟨rfl, by simp⟩
        case measure => simp [intOf]
      · have HF := Lib.hid (show first4 0 0 x2 x3 = x2 by simp [first4, hx])
        go_wp2; go_ret
        exact ⟨ret_int HF.out.symm, rfl⟩
    · by_cases hx : x3 = 0
      · subst hx
        go_wp2; go_round
        case rel => exact ⟨rfl, by simp⟩
        case measure => simp [intOf]
      · have HF := Lib.hid (show first4 0 0 0 x3 = x3 by simp [first4])
        go_wp2; go_ret
        exact ⟨ret_int HF.out.symm, rfl⟩
    · have HF := Lib.hid (show first4 0 0 0 0 = 0 by simp [first4])
      go_wp2; go_ret
      exact ⟨ret_int HF.out.symm, rfl⟩
set_option maxRecDepth 100000 in
theorem cmp (a b : Vec) (w : World) : Calls Try.prog 36 #[.agg #[.int .u64 a.root, .int .i64 a.cost, .int .u64 a.bridge, .int .i64 a.port], .agg #[.int .u64 b.root, .int .i64 b.cost, .int .u64 b.bridge, .int .i64 b.port]] w fun e w' => e = .returned (.int .i64 (cmpV a b)) ∧ Below w.heap.size w w' := by
  go_enter Try.func36, Try.ntmps36
  go_wp2
  refine region_tail 20 (by kernel_rfl) (by kernel_rfl) ?_
  simp only [List.take_succ_cons, List.take_zero, List.drop_succ_cons, List.drop_zero]
  repeat still_step
  still_call (cmpU_ a.root b.root _)
  repeat still_step
  still_call (cmpI_ a.cost b.cost _)
  repeat still_step
  still_call (cmpU_ a.bridge b.bridge _)
  repeat still_step
  still_call (cmpI_ a.port b.port _)
  repeat still_step
  refine wpStill_nil ?_
  go_wp2_with fail
  refine (first_ _ (cmpI a.root b.root) (cmpI a.cost b.cost) (cmpI a.bridge b.bridge) (cmpI a.port b.port) _ ?_ ?_ ?_ ?_).mono ?_
  · go_simp
  · go_simp
  · go_simp
  · go_simp
  rintro e w' ⟨rfl, rfl⟩
  go_wp2
  go_ret
  exact ⟨rfl, by repeat (first | exact Below.refl _ _ | apply Below.drew | (refine Below.alloc ?_ (by simp <;> omega) _))⟩
theorem own_ (b : Int) (w : World) : Calls Try.prog 31 #[.int .u64 b] w fun e w' => e = .returned (.agg #[.int .u64 b, .int .i64 0, .int .u64 b, .int .i64 0]) ∧ Below w.heap.size w w' := by
  go_enter Try.func31, Try.ntmps31
  go_wp2
  refine bodyPost_ret (v := .agg #[.int .u64 b, .int .i64 0, .int .u64 b, .int .i64 0]) (by simp [results, Try.results31, go_sem]) rfl ⟨rfl, ?_⟩
  repeat (first | exact Below.refl _ _ | apply Below.drew | (refine Below.alloc ?_ (by simp <;> omega) _))
theorem through_ (v : Vec) (c : Int) (w : World) :
    Calls Try.prog 45 #[.agg #[.int .u64 v.root, .int .i64 v.cost, .int .u64 v.bridge, .int .i64 v.port], .int .i64 c] w fun e w' => e = .returned (.tuple #[.agg #[.int .u64 (tv v c).root, .int .i64 (tv v c).cost, .int .u64 (tv v c).bridge, .int .i64 (tv v c).port], .int .i64 (te v c)]) ∧ Below w.heap.size w w' := by
  by_cases h1 : 1 ≤ c
  · by_cases h2 : c ≤ 200000000
    · by_cases h3 : 0 ≤ v.cost
      · by_cases h4 : v.cost ≤ 4294967295
        · obtain ⟨e1, e2⟩ := thr_yes v c h1 h2 h3 h4
          rw [e1, e2]
          clear e1 e2
          rcases costTo_cases v.cost c with ⟨h5, h6⟩ | ⟨h5, h6⟩
          · rw [h6]
            clear h6
            go_enter Try.func45, Try.ntmps45
            go_wp2
            refine bodyPost_ret (v := .tuple #[.agg #[.int .u64 v.root, .int .i64 (v.cost + c), .int .u64 v.bridge, .int .i64 v.port], .int .i64 0]) (by simp [results, Try.results45, go_sem]) rfl ⟨rfl, ?_⟩
            repeat (first | exact Below.refl _ _ | apply Below.drew | (refine Below.alloc ?_ (by simp <;> omega) _) | (refine Below.setCell ?_ (by simp <;> omega) _))
          · rw [h6]
            clear h6
            go_enter Try.func45, Try.ntmps45
            go_wp2
            refine bodyPost_ret (v := .tuple #[.agg #[.int .u64 v.root, .int .i64 4294967295, .int .u64 v.bridge, .int .i64 v.port], .int .i64 0]) (by simp [results, Try.results45, go_sem]) rfl ⟨rfl, ?_⟩
            repeat (first | exact Below.refl _ _ | apply Below.drew | (refine Below.alloc ?_ (by simp <;> omega) _) | (refine Below.setCell ?_ (by simp <;> omega) _))
        · obtain ⟨e1, e2⟩ := thr_no v c (by omega)
          rw [e1, e2]
          clear e1 e2
          go_enter Try.func45, Try.ntmps45
          go_wp2
          refine bodyPost_ret (v := .tuple #[.agg #[.int .u64 0, .int .i64 0, .int .u64 0, .int .i64 0], .int .i64 1]) (by simp [results, Try.results45, go_sem]) rfl ⟨rfl, ?_⟩
          repeat (first | exact Below.refl _ _ | apply Below.drew | (refine Below.alloc ?_ (by simp <;> omega) _) | (refine Below.setCell ?_ (by simp <;> omega) _))
      · obtain ⟨e1, e2⟩ := thr_no v c (by omega)
        rw [e1, e2]
        clear e1 e2
        go_enter Try.func45, Try.ntmps45
        go_wp2
        refine bodyPost_ret (v := .tuple #[.agg #[.int .u64 0, .int .i64 0, .int .u64 0, .int .i64 0], .int .i64 1]) (by simp [results, Try.results45, go_sem]) rfl ⟨rfl, ?_⟩
        repeat (first | exact Below.refl _ _ | apply Below.drew | (refine Below.alloc ?_ (by simp <;> omega) _) | (refine Below.setCell ?_ (by simp <;> omega) _))
    · obtain ⟨e1, e2⟩ := thr_no v c (by omega)
      rw [e1, e2]
      clear e1 e2
      go_enter Try.func45, Try.ntmps45
      go_wp2
      refine bodyPost_ret (v := .tuple #[.agg #[.int .u64 0, .int .i64 0, .int .u64 0, .int .i64 0], .int .i64 1]) (by simp [results, Try.results45, go_sem]) rfl ⟨rfl, ?_⟩
      repeat (first | exact Below.refl _ _ | apply Below.drew | (refine Below.alloc ?_ (by simp <;> omega) _) | (refine Below.setCell ?_ (by simp <;> omega) _))
  · obtain ⟨e1, e2⟩ := thr_no v c (by omega)
    rw [e1, e2]
    clear e1 e2
    go_enter Try.func45, Try.ntmps45
    go_wp2
    refine bodyPost_ret (v := .tuple #[.agg #[.int .u64 0, .int .i64 0, .int .u64 0, .int .i64 0], .int .i64 1]) (by simp [results, Try.results45, go_sem]) rfl ⟨rfl, ?_⟩
    repeat (first | exact Below.refl _ _ | apply Below.drew | (refine Below.alloc ?_ (by simp <;> omega) _) | (refine Below.setCell ?_ (by simp <;> omega) _))
end Prio
end Go.Proofs.Ytdgbemafhhhceaa
