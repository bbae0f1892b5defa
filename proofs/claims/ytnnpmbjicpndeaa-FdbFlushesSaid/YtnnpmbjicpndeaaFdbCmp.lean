/-
  The walks of cmp.Compare (int, api.Mac), cmp.Or[int], fdb.byKey, and the closure of fdb's drive.
-/
import Derived.Test.YtnnpmbjicpndeaaRows
import Derived.Test.YtnnpmbjicpndeaaRow
import Derived.WalkLawsBesides
import Derived.WalkSpells
import Derived.Lib.Hide
import Derived.Outline
import Derived.Deep.QuietTactic
import Derived.BigQuiet
import Derived.RegionTactic
import Derived.StillTailTactics
import Derived.LoopTactic
import Derived.Test.YtnnpmbjicpndeaaSort
import Derived.Shelf.SlSorted.Search
namespace Go.Proofs.Ytnnpmbjicpndeaa
set_option linter.unusedVariables false
set_option linter.unusedSimpArgs false
open Go.RowKit
namespace FdbC
def cmpI (a b : Int) : Int := if a < b then -1 else if b < a then 1 else 0
theorem nan_ (a : Int) (w : World) : Calls Try.prog 42 #[.int .i64 a] w fun e w' => e = .returned (.bool false) ∧ w' = w := by
  go_enter Try.func42, Try.ntmps42
  go_wp2
  go_ret
  exact ⟨rfl, rfl⟩
theorem compare_ (a b : Int) (w : World) : Calls Try.prog 33 #[.int .i64 a, .int .i64 b] w fun e w' => e = .returned (.int .i64 (cmpI a b)) ∧ w' = w := by
  rcases Int.lt_trichotomy a b with h | h | h
  · have e : cmpI a b = -1 := by unfold cmpI; rw [if_pos h]
    rw [e]
    go_enter Try.func33, Try.ntmps33
    go_wp2_with (first
      | (go_at_call 42; refine (nan_ _ _).mono ?_; rintro _ _ ⟨rfl, rfl⟩)
      | go_in)
    go_ret
    exact ⟨rfl, rfl⟩
  · have e : cmpI a b = 0 := by unfold cmpI; rw [if_neg (by omega), if_neg (by omega)]
    rw [e]
    have h1 : ¬ a < b := by omega
    have h2 : ¬ b < a := by omega
    clear h
    go_enter Try.func33, Try.ntmps33
    go_wp2_with (first
      | (go_at_call 42; refine (nan_ _ _).mono ?_; rintro _ _ ⟨rfl, rfl⟩)
      | go_in)
    go_ret
    exact ⟨rfl, rfl⟩
  · have e : cmpI a b = 1 := by unfold cmpI; rw [if_neg (by omega), if_pos h]
    rw [e]
    have h1 : ¬ a < b := by omega
    go_enter Try.func33, Try.ntmps33
    go_wp2_with (first
      | (go_at_call 42; refine (nan_ _ _).mono ?_; rintro _ _ ⟨rfl, rfl⟩)
      | go_in)
    go_ret
    exact ⟨rfl, rfl⟩
theorem ret_int {x y : Int} (h : x = y) : Ending.returned (.int .i64 x) = Ending.returned (.int .i64 y) := by rw [h]
def or2 (x y : Int) : Int := if x ≠ 0 then x else y
theorem or_ (g : Nat) (x0 x1 : Int) (w : World) (h0 : w.cell? ⟨g, 0, none⟩ = some (.int .i64 x0)) (h1 : w.cell? ⟨g, 1, none⟩ = some (.int .i64 x1)) :
    Calls Try.prog 32 #[.slice (some ⟨g, 0, none⟩) 2 2] w fun e w' => e = .returned (.int .i64 (or2 x0 x1)) ∧ w' = w := by
  go_enter Try.func32, Try.ntmps32
  go_wp2
  go_loop [2, 8] (fun o i => o = .int .i64 0 ∧ (i = .int .i64 0 ∨ (i = .int .i64 1 ∧ x0 = 0) ∨ (i = .int .i64 2 ∧ x0 = 0 ∧ x1 = 0))) (fun _ i => 2 - (intOf i).toNat)
  case atStart => exact ⟨rfl, .inl rfl⟩
  case round =>
    obtain ⟨rfl, hrel⟩ := hrel
    rcases hrel with rfl | ⟨rfl, rfl⟩ | ⟨rfl, rfl, rfl⟩
    · by_cases hx : x0 = 0
      · subst hx
        go_wp2; go_round
        case rel => exact ⟨rfl, by simp⟩
        case measure => simp [intOf]
      · have HF := Lib.hid (show or2 x0 x1 = x0 by simp [or2, hx])
        go_wp2; go_ret
        exact ⟨ret_int HF.out.symm, rfl⟩
    · by_cases hx : x1 = 0
      · subst hx
        go_wp2; go_round
        case rel => exact ⟨rfl, by simp⟩
        case measure => simp [intOf]
      · have HF := Lib.hid (show or2 0 x1 = x1 by simp [or2])
        go_wp2; go_ret
        exact ⟨ret_int HF.out.symm, rfl⟩
    · have HF := Lib.hid (show or2 0 0 = 0 by simp [or2])
      go_wp2; go_ret
      exact ⟨ret_int HF.out.symm, rfl⟩
theorem or2_neg (x y : Int) : or2 x y < 0 ↔ x < 0 ∨ (x = 0 ∧ y < 0) := by
  unfold or2
  split <;> omega
theorem cmpI_neg (a b : Int) : cmpI a b < 0 ↔ a < b := by
  unfold cmpI
  (repeat' split) <;> omega
theorem cmpI_zero (a b : Int) : cmpI a b = 0 ↔ a = b := by
  unfold cmpI
  (repeat' split) <;> omega
/-- how two addresses stand -/
def cmpS (a b : ByteArray) : Int := if Op.bytesLess a.toList b.toList = true then -1 else if (Op.bytesLess a.toList b.toList || a.toList == b.toList) = true then 0 else 1
theorem nanS_ (a : ByteArray) (w : World) : Calls Try.prog 53 #[.string a] w fun e w' => e = .returned (.bool false) ∧ w' = w := by
  go_enter Try.func53, Try.ntmps53
  go_wp2
  go_ret
  exact ⟨rfl, rfl⟩
theorem compareS_ (a b : ByteArray) (w : World) : Calls Try.prog 36 #[.string a, .string b] w fun e w' => e = .returned (.int .i64 (cmpS a b)) ∧ w' = w := by
  cases h1 : Op.bytesLess a.toList b.toList with
  | true =>
    have e : cmpS a b = -1 := by unfold cmpS; rw [if_pos h1]
    rw [e]
    go_enter Try.func36, Try.ntmps36
    go_wp2_with (first
      | (go_at_call 53; refine (nanS_ _ _).mono ?_; rintro _ _ ⟨rfl, rfl⟩)
      | go_in)
    go_ret
    exact ⟨rfl, rfl⟩
  | false =>
    cases h2 : (a.toList == b.toList) with
    | true =>
      have e : cmpS a b = 0 := by unfold cmpS; rw [h1, h2]; rfl
      rw [e]
      go_enter Try.func36, Try.ntmps36
      go_wp2_with (first
        | (go_at_call 53; refine (nanS_ _ _).mono ?_; rintro _ _ ⟨rfl, rfl⟩)
        | go_in)
      go_ret
      exact ⟨rfl, rfl⟩
    | false =>
      have e : cmpS a b = 1 := by unfold cmpS; rw [h1, h2]; rfl
      rw [e]
      go_enter Try.func36, Try.ntmps36
      go_wp2_with (first
        | (go_at_call 53; refine (nanS_ _ _).mono ?_; rintro _ _ ⟨rfl, rfl⟩)
        | go_in)
      go_ret
      exact ⟨rfl, rfl⟩
/-- an entry: VLAN, address, port, time -/
abbrev Er := Int × ByteArray × Int × Int
def cellsE (x : Er) : List Value := [.int .i64 x.1, .string x.2.1, .int .i64 x.2.2.1, .int .i64 x.2.2.2]
def valE (x : Er) : Value := .agg #[.int .i64 x.1, .string x.2.1, .int .i64 x.2.2.1, .int .i64 x.2.2.2]
def cmpK (x y : Er) : Int := or2 (cmpI x.1 y.1) (cmpS x.2.1 y.2.1)
def cmpA (x y : Er) : Int := or2 (cmpI x.2.2.2 y.2.2.2) (cmpK x y)
set_option maxRecDepth 20000 in
theorem byKey_ (x y : Er) (w : World) : Calls Try.prog 22 #[valE x, valE y] w fun e w' => e = .returned (.int .i64 (cmpK x y)) ∧ Srt.Gr w w' := by
  obtain ⟨xv, xm, xp, xa⟩ := x
  obtain ⟨yv, ym, yp, ya⟩ := y
  unfold valE
  go_enter Try.func22, Try.ntmps22
  go_wp2
  refine region_tail 10 (by kernel_rfl) (by kernel_rfl) ?_
  simp only [List.take_succ_cons, List.take_zero, List.drop_succ_cons, List.drop_zero]
  refine SW.un ?_
  (refine SW.want (by kernel_rfl) (fun K hK => ?_); have HK := Lib.hid hK; clear hK; go_simp; refine SW.on HK ?_; clear HK K)
  (refine SW.want (by kernel_rfl) (fun K hK => ?_); have HK := Lib.hid hK; clear hK; go_simp; refine SW.on HK ?_; clear HK K)
  (refine SW.want (by kernel_rfl) (fun K hK => ?_); have HK := Lib.hid hK; clear hK; go_simp; refine SW.on HK ?_; clear HK K)
  (refine SW.want (by kernel_rfl) (fun K hK => ?_); have HK := Lib.hid hK; clear hK; go_simp; refine SW.on HK ?_; clear HK K)
  refine SW.want (by kernel_rfl) (fun K hK => ?_); have HK := Lib.hid hK; clear hK; go_simp; refine ⟨.int .i64 (cmpI xv yv), compare_ xv yv _, SW.on HK ?_⟩; clear HK K
  (refine SW.want (by kernel_rfl) (fun K hK => ?_); have HK := Lib.hid hK; clear hK; go_simp; refine SW.on HK ?_; clear HK K)
  (refine SW.want (by kernel_rfl) (fun K hK => ?_); have HK := Lib.hid hK; clear hK; go_simp; refine SW.on HK ?_; clear HK K)
  (refine SW.want (by kernel_rfl) (fun K hK => ?_); have HK := Lib.hid hK; clear hK; go_simp; refine SW.on HK ?_; clear HK K)
  (refine SW.want (by kernel_rfl) (fun K hK => ?_); have HK := Lib.hid hK; clear hK; go_simp; refine SW.on HK ?_; clear HK K)
  refine SW.want (by kernel_rfl) (fun K hK => ?_); have HK := Lib.hid hK; clear hK; go_simp; refine ⟨.int .i64 (cmpS xm ym), compareS_ xm ym _, SW.on HK ?_⟩; clear HK K
  refine SW.nil ?_
  go_wp2_with fail
  refine (or_ _ (cmpI xv yv) (cmpS xm ym) _ ?_ ?_).mono ?_
  · go_simp
  · go_simp
  rintro e w' ⟨rfl, rfl⟩
  go_wp2
  go_ret
  exact ⟨rfl, by repeat (first | exact Srt.Gr.refl _ | apply Srt.Gr.drew | (refine Srt.Gr.alloc ?_ _))⟩
set_option maxRecDepth 20000 in
theorem oldest_ (x y : Er) (w : World) : Calls Try.prog 31 #[valE x, valE y] w fun e w' => e = .returned (.int .i64 (cmpA x y)) ∧ Srt.Gr w w' := by
  have hb := fun w' => byKey_ x y w'
  unfold cmpA
  generalize cmpK x y = ck at *
  obtain ⟨xv, xm, xp, xa⟩ := x
  obtain ⟨yv, ym, yp, ya⟩ := y
  simp only [valE] at hb ⊢
  go_enter Try.func31, Try.ntmps31
  go_wp2
  refine region_tail 7 (by kernel_rfl) (by kernel_rfl) ?_
  simp only [List.take_succ_cons, List.take_zero, List.drop_succ_cons, List.drop_zero]
  refine SW.un ?_
  (refine SW.want (by kernel_rfl) (fun K hK => ?_); have HK := Lib.hid hK; clear hK; go_simp; refine SW.on HK ?_; clear HK K)
  (refine SW.want (by kernel_rfl) (fun K hK => ?_); have HK := Lib.hid hK; clear hK; go_simp; refine SW.on HK ?_; clear HK K)
  (refine SW.want (by kernel_rfl) (fun K hK => ?_); have HK := Lib.hid hK; clear hK; go_simp; refine SW.on HK ?_; clear HK K)
  (refine SW.want (by kernel_rfl) (fun K hK => ?_); have HK := Lib.hid hK; clear hK; go_simp; refine SW.on HK ?_; clear HK K)
  refine SW.want (by kernel_rfl) (fun K hK => ?_); have HK := Lib.hid hK; clear hK; go_simp; refine ⟨.int .i64 (cmpI xa ya), compare_ xa ya _, SW.on HK ?_⟩; clear HK K
  (refine SW.want (by kernel_rfl) (fun K hK => ?_); have HK := Lib.hid hK; clear hK; go_simp; refine SW.on HK ?_; clear HK K)
  (refine SW.want (by kernel_rfl) (fun K hK => ?_); have HK := Lib.hid hK; clear hK; go_simp; refine SW.on HK ?_; clear HK K)
  refine SW.nil ?_
  go_wp2_with fail
  refine (hb _).mono ?_
  rintro e w1 ⟨rfl, hg1⟩
  go_wp2_with fail
  refine (or_ _ (cmpI xa ya) ck _ ?_ ?_).mono ?_
  · go_simp
  · go_simp
  rintro e w' ⟨rfl, rfl⟩
  go_wp2
  go_ret
  exact ⟨rfl, Srt.Gr.alloc (Srt.Gr.trans (by repeat (first | exact Srt.Gr.refl _ | apply Srt.Gr.drew | (refine Srt.Gr.alloc ?_ _))) hg1) _⟩
end FdbC
end Go.Proofs.Ytnnpmbjicpndeaa
