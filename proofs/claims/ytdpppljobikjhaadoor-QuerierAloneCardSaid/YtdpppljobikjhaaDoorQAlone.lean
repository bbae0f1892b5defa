/-
  The walk of QuerierAlone: one that hears nobody.
-/
import Derived.Test.YtdpppljobikjhaaDoorQLive
import Derived.Deep.DeepCutAuto
namespace Go.Proofs.YtdpppljobikjhaaDoor
set_option linter.unusedVariables false
set_option linter.unusedSimpArgs false
open Go.RowKit
namespace Q
def aloneB (n every : Int) : Bool := (n != 4 && n != 16) || decide (40 < every)
theorem alone_not (s : ByteArray) (every robust : Int) (w : World) (h : ((s.size : Int) ≠ 4 ∧ (s.size : Int) ≠ 16) ∨ 40 < every) :
    Calls Tryd.prog 4 #[.string s, .int .i64 every, .int .i64 robust] w fun e w' => e = .returned (.bool true) ∧ Below w.heap.size w w' := by
  by_cases h4 : s.size = 4
  · have h0 : ¬ 0 = 1 := by omega
    have h4' : ((s.size : Int) != 4) = false := by simp [h4]
    have h40 : 40 < every := by omega
    clear h h4
    go_enter Tryd.func4, Tryd.ntmps4
    go_wp2_with (go_at_call 8; refine (live_ _).mono ?_; rintro e w1 ⟨rfl, hb1⟩)
    go_ret
    exact ⟨rfl, hb1⟩
  · have h4' : ((s.size : Int) != 4) = true := by simp; omega
    by_cases h16 : s.size = 16
    · have h16' : ((s.size : Int) != 16) = false := by simp [h16]
      have h40 : 40 < every := by omega
      clear h h4 h16
      go_enter Tryd.func4, Tryd.ntmps4
      go_wp2_with (go_at_call 8; refine (live_ _).mono ?_; rintro e w1 ⟨rfl, hb1⟩)
      go_ret
      exact ⟨rfl, hb1⟩
    · have h16' : ((s.size : Int) != 16) = true := by simp; omega
      clear h h4 h16
      go_enter Tryd.func4, Tryd.ntmps4
      go_wp2_with (go_at_call 8; refine (live_ _).mono ?_; rintro e w1 ⟨rfl, hb1⟩)
      go_ret
      exact ⟨rfl, hb1⟩
set_option maxRecDepth 100000 in
set_option maxHeartbeats 4000000 in
theorem alone_yes (s : ByteArray) (every robust : Int) (w : World) (h1 : ((s.size : Int) != 4 && (s.size : Int) != 16) = false) (h2 : ¬ 40 < every) :
    Calls Tryd.prog 4 #[.string s, .int .i64 every, .int .i64 robust] w fun e w' => e = .returned (.bool true) ∧ Below w.heap.size w w' := by
  have hcase : ((s.size : Int) != 4) = false ∨ (((s.size : Int) != 4) = true ∧ ((s.size : Int) != 16) = false) := by
    cases e1 : ((s.size : Int) != 4) <;> simp [e1] at h1 ⊢
    exact h1
  have hpos : 0 < s.size := by
    rcases hcase with h | ⟨_, h⟩ <;> simp at h <;> omega
  clear h1
  cases hm : mayQ s.size every robust 0
  · rcases hcase with h4 | ⟨h4, h16⟩
    all_goals
      go_enter Tryd.func4, Tryd.ntmps4
      go_wp2_with (first
        | (go_at_call 9; refine (new_no s every robust 0 _ hm).mono ?_; rintro e w1 ⟨rfl, hb1⟩)
        | (go_at_call 8; refine (live_ _).mono ?_; rintro e w2 ⟨rfl, hb2⟩))
      go_ret
      exact ⟨rfl, hb1.trans (hb2.mono hb1.size)⟩
  · have HM := Lib.hid hm
    obtain ⟨_, he0, he1, hr0, hr1⟩ := mayQ_lo hm
    clear hm
    rcases hcase with h4 | ⟨h4, h16⟩
    all_goals
      go_enter Tryd.func4, Tryd.ntmps4
      go_wp2_with (go_at_call 9; refine (new_ s every robust 0 _ HM.out).mono ?_; rintro e w1 ⟨g, hg, rfl, hq, hb1⟩)
      go_loopw [9, 10, 11] (fun v9 v10 v11 wr => ∃ (k : Nat) (nx ak : Int), k ≤ 200 ∧ v11 = .int .i64 k ∧ v9 = .int .i64 nx ∧ v10 = .int .i64 ak ∧ At wr g ⟨s, every, robust, 0, nx, ak⟩ ∧ (k : Int) ≤ nx ∧ 0 ≤ ak ∧ ak ≤ k ∧ Below w.heap.size w wr) (fun _ _ v _ => 200 - (intOf v).toNat)
      case atStart => exact ⟨0, 0, 0, by omega, rfl, rfl, rfl, hq, by omega, by omega, by omega, hb1⟩
      case round =>
        obtain ⟨k, nx, ak, hk, rfl, rfl, rfl, hqr, hknx, has0, has1, hbel⟩ := hrel
        by_cases hlt : k < 200
        · have hlt' : (k : Int) < 200 := by omega
          have hin : inB (k : Int) 0 1099511627776 = true := inB_yes (by omega) (by omega)
          have hisb : isB ⟨s, every, robust, 0, nx, ak⟩ k = true := by rw [isB_of _ _ hpos]; simp
          by_cases heq : (k : Int) = nx
          · subst heq
            by_cases hrb : ak + 1 < robust
            · have HW := Lib.hid (show waitQ ⟨s, every, robust, 0, k, ak⟩ = every / 4 by simp [waitQ, hrb])
              go_wp2_with (go_at_call 10; refine (tick_yes g _ k _ hqr hin hisb (by simp) has0 (by simp; omega) (by simp; omega) (by simp; omega)).mono ?_; rintro e w2 ⟨rfl, hq2, hk2⟩)
              go_roundw
              case rel => exact ⟨k + 1, _, _, by omega, by go_num, rfl, rfl, by have := hq2; rw [HW.out] at this; exact this, by omega, by omega, by omega, keep_below hbel hk2 hg⟩
              case measure => simp [intOf]; omega
            · have HW := Lib.hid (show waitQ ⟨s, every, robust, 0, k, ak⟩ = every by simp [waitQ, hrb])
              go_wp2_with (go_at_call 10; refine (tick_yes g _ k _ hqr hin hisb (by simp) has0 (by simp; omega) (by simp; omega) (by simp; omega)).mono ?_; rintro e w2 ⟨rfl, hq2, hk2⟩)
              go_roundw
              case rel => exact ⟨k + 1, _, _, by omega, by go_num, rfl, rfl, by have := hq2; rw [HW.out] at this; exact this, by omega, by omega, by omega, keep_below hbel hk2 hg⟩
              case measure => simp [intOf]; omega
          · have heq' : ((k : Int) == nx) = false := by simp [heq]
            have HE := Lib.hid heq
            clear heq
            go_wp2_with (go_at_call 10; refine (tick_early g _ k _ hqr hin hisb (by have := HE.out; simp; omega)).mono ?_; rintro e w2 ⟨rfl, hq2, hk2⟩)
            go_roundw
            case rel => exact ⟨k + 1, _, _, by omega, by go_num, rfl, rfl, hq2, by have := HE.out; omega, by omega, by omega, keep_below hbel hk2 hg⟩
            case measure => simp [intOf]; omega
        · have hge : ¬ (k : Int) < 200 := by omega
          go_wp2_with (go_at_call 8; refine (live_ _).mono ?_; rintro e w2 ⟨rfl, hb2⟩)
          go_ret
          exact ⟨rfl, hbel.trans (hb2.mono hbel.size)⟩
theorem alone_ (s : ByteArray) (every robust : Int) (w : World) :
    Calls Tryd.prog 4 #[.string s, .int .i64 every, .int .i64 robust] w fun e w' => e = .returned (.bool true) ∧ Below w.heap.size w w' := by
  by_cases h2 : 40 < every
  · exact alone_not s every robust w (.inr h2)
  · cases h1 : ((s.size : Int) != 4 && (s.size : Int) != 16)
    · exact alone_yes s every robust w h1 h2
    · simp only [Bool.and_eq_true, bne_iff_ne] at h1
      exact alone_not s every robust w (.inl h1)
end Q
end Go.Proofs.YtdpppljobikjhaaDoor
