/-
  The walks of the six laws of layer 7: each returns true for every integer; nothing is written.
-/
import Derived.Test.YtggmhpfmnmmcmaaWalks
namespace Go.Proofs.Ytggmhpfmnmmcmaa
open Go.RowKit
namespace Code07

theorem grown_drewN (w : World) (n : Nat) : Grown w (w.drewN n) := by
  have h := Grown.refl w
  exact h

theorem live_ (w : World) : Calls Try.prog 13 #[] w fun e w' => e = .returned (.bool true) ∧ ∃ n, w' = w.drewN n := by
  have h1 : D8 255 = 31744 := by decide
  have h2 : E8 130 = 128 := by decide
  have h3 : D16 65535 = 8387584 := by decide
  go_enter Try.func13, Try.ntmps13
  go_wp2_with (first
    | (go_at_call 9; refine (Dec8 255 _ (by omega) (by omega)).mono ?_; rintro e w' ⟨rfl, n1, rfl⟩)
    | (go_at_call 14; refine (Enc8 130 _ (by omega) (by omega)).mono ?_; rintro e w' ⟨rfl, n2, rfl⟩)
    | (go_at_call 11; refine (Dec16 65535 _ (by omega) (by omega)).mono ?_; rintro e w' ⟨rfl, n3, rfl⟩)
    | (go_at_call 16; refine (Enc16_no (-1) _ (by omega)).mono ?_; rintro e w' ⟨rfl, n4, rfl⟩))
  go_ret
  exact ⟨rfl, _, rfl⟩

theorem decs (c : Int) (w : World) : Calls Try.prog 3 #[.int .i64 c] w fun e w' => e = .returned (.bool true) ∧ ∃ n, w' = w.drewN n := by
  by_cases h8 : 0 ≤ c ∧ c < 256
  · obtain ⟨a, b⟩ := h8
    go_enter Try.func3, Try.ntmps3
    go_wp2_with (first
      | (go_at_call 9; refine (Dec8 c _ (by omega) (by omega)).mono ?_; rintro e w' ⟨rfl, n1, rfl⟩)
      | (go_at_call 10; refine (RDec8 c _ (by omega) (by omega)).mono ?_; rintro e w' ⟨rfl, n2, rfl⟩)
      | (go_at_call 11; refine (Dec16 c _ (by omega) (by omega)).mono ?_; rintro e w' ⟨rfl, n3, rfl⟩)
      | (go_at_call 12; refine (RDec16 c _ (by omega) (by omega)).mono ?_; rintro e w' ⟨rfl, n4, rfl⟩)
      | (go_at_call 13; refine (live_ _).mono ?_; rintro e w' ⟨rfl, n5, rfl⟩))
    go_ret
    exact ⟨rfl, _, rfl⟩
  · by_cases h16 : 0 ≤ c ∧ c < 65536
    · obtain ⟨a, b⟩ := h16
      go_enter Try.func3, Try.ntmps3
      go_wp2_with (first
        | (go_at_call 9; refine (Dec8_no c _ (by omega)).mono ?_; rintro e w' ⟨rfl, n1, rfl⟩)
        | (go_at_call 10; refine (RDec8_no c _ (by omega)).mono ?_; rintro e w' ⟨rfl, n2, rfl⟩)
        | (go_at_call 11; refine (Dec16 c _ (by omega) (by omega)).mono ?_; rintro e w' ⟨rfl, n3, rfl⟩)
        | (go_at_call 12; refine (RDec16 c _ (by omega) (by omega)).mono ?_; rintro e w' ⟨rfl, n4, rfl⟩)
        | (go_at_call 13; refine (live_ _).mono ?_; rintro e w' ⟨rfl, n5, rfl⟩))
      go_ret
      exact ⟨rfl, _, rfl⟩
    · go_enter Try.func3, Try.ntmps3
      go_wp2_with (first
        | (go_at_call 9; refine (Dec8_no c _ (by omega)).mono ?_; rintro e w' ⟨rfl, n1, rfl⟩)
        | (go_at_call 10; refine (RDec8_no c _ (by omega)).mono ?_; rintro e w' ⟨rfl, n2, rfl⟩)
        | (go_at_call 11; refine (Dec16_no c _ (by omega)).mono ?_; rintro e w' ⟨rfl, n3, rfl⟩)
        | (go_at_call 12; refine (RDec16_no c _ (by omega)).mono ?_; rintro e w' ⟨rfl, n4, rfl⟩)
        | (go_at_call 13; refine (live_ _).mono ?_; rintro e w' ⟨rfl, n5, rfl⟩))
      go_ret
      exact ⟨rfl, _, rfl⟩

theorem encs (n : Int) (w : World) (hn : n ≤ 9223372036854775807) : Calls Try.prog 4 #[.int .i64 n] w fun e w' => e = .returned (.bool true) ∧ ∃ n, w' = w.drewN n := by
  by_cases h : 0 ≤ n
  · go_enter Try.func4, Try.ntmps4
    go_wp2_with (first
      | (go_at_call 14; refine (Enc8 n _ h hn).mono ?_; rintro e w' ⟨rfl, n1, rfl⟩)
      | (go_at_call 15; refine (REnc8 n _ h).mono ?_; rintro e w' ⟨rfl, n2, rfl⟩)
      | (go_at_call 16; refine (Enc16 n _ h hn).mono ?_; rintro e w' ⟨rfl, n3, rfl⟩)
      | (go_at_call 17; refine (REnc16 n _ h).mono ?_; rintro e w' ⟨rfl, n4, rfl⟩)
      | (go_at_call 13; refine (live_ _).mono ?_; rintro e w' ⟨rfl, n5, rfl⟩))
    go_ret
    exact ⟨rfl, _, rfl⟩
  · go_enter Try.func4, Try.ntmps4
    go_wp2_with (first
      | (go_at_call 14; refine (Enc8_no n _ (by omega)).mono ?_; rintro e w' ⟨rfl, n1, rfl⟩)
      | (go_at_call 15; refine (REnc8_no n _ (by omega)).mono ?_; rintro e w' ⟨rfl, n2, rfl⟩)
      | (go_at_call 16; refine (Enc16_no n _ (by omega)).mono ?_; rintro e w' ⟨rfl, n3, rfl⟩)
      | (go_at_call 17; refine (REnc16_no n _ (by omega)).mono ?_; rintro e w' ⟨rfl, n4, rfl⟩)
      | (go_at_call 13; refine (live_ _).mono ?_; rintro e w' ⟨rfl, n5, rfl⟩))
    go_ret
    exact ⟨rfl, _, rfl⟩

theorem back (c : Int) (w : World) : Calls Try.prog 5 #[.int .i64 c] w fun e w' => e = .returned (.bool true) ∧ ∃ n, w' = w.drewN n := by
  by_cases h8 : 0 ≤ c ∧ c < 256
  · obtain ⟨a, b⟩ := h8
    have d8 := D8_bd c a (by omega)
    have d16 := D16_bd c a (by omega)
    have e8 := back8 c a (by omega)
    have e16 := back16 c a (by omega)
    go_enter Try.func5, Try.ntmps5
    go_wp2_with (first
      | (go_at_call 9; refine (Dec8 c _ (by omega) (by omega)).mono ?_; rintro e w' ⟨rfl, n1, rfl⟩)
      | (go_at_call 14; refine (Enc8 (D8 c) _ (by omega) (by omega)).mono ?_; rintro e w' ⟨rfl, n2, rfl⟩)
      | (go_at_call 11; refine (Dec16 c _ (by omega) (by omega)).mono ?_; rintro e w' ⟨rfl, n3, rfl⟩)
      | (go_at_call 16; refine (Enc16 (D16 c) _ (by omega) (by omega)).mono ?_; rintro e w' ⟨rfl, n4, rfl⟩)
      | (go_at_call 13; refine (live_ _).mono ?_; rintro e w' ⟨rfl, n5, rfl⟩))
    go_ret
    exact ⟨rfl, _, rfl⟩
  · by_cases h16 : 0 ≤ c ∧ c < 65536
    · obtain ⟨a, b⟩ := h16
      have d16 := D16_bd c a (by omega)
      have e16 := back16 c a (by omega)
      have ha : 255 < c := by omega
      have hd : decide (c ≤ 255) = false := by simp; omega
      go_enter Try.func5, Try.ntmps5
      go_wp2_with (first
        | (go_at_call 9; refine (Dec8_no c _ (by omega)).mono ?_; rintro e w' ⟨rfl, n1, rfl⟩)
        | (go_at_call 11; refine (Dec16 c _ (by omega) (by omega)).mono ?_; rintro e w' ⟨rfl, n3, rfl⟩)
        | (go_at_call 16; refine (Enc16 (D16 c) _ (by omega) (by omega)).mono ?_; rintro e w' ⟨rfl, n4, rfl⟩)
        | (go_at_call 13; refine (live_ _).mono ?_; rintro e w' ⟨rfl, n5, rfl⟩))
      go_ret
      exact ⟨rfl, _, rfl⟩
    · by_cases hc : c < 0
      · go_enter Try.func5, Try.ntmps5
        go_wp2_with (first
          | (go_at_call 9; refine (Dec8_no c _ (by omega)).mono ?_; rintro e w' ⟨rfl, n1, rfl⟩)
          | (go_at_call 11; refine (Dec16_no c _ (by omega)).mono ?_; rintro e w' ⟨rfl, n3, rfl⟩)
          | (go_at_call 13; refine (live_ _).mono ?_; rintro e w' ⟨rfl, n5, rfl⟩))
        go_ret
        exact ⟨rfl, _, rfl⟩
      · have ha : 65535 < c := by omega
        have hd : decide (c ≤ 255) = false := by simp; omega
        have hd2 : decide (c ≤ 65535) = false := by simp; omega
        go_enter Try.func5, Try.ntmps5
        go_wp2_with (first
          | (go_at_call 9; refine (Dec8_no c _ (by omega)).mono ?_; rintro e w' ⟨rfl, n1, rfl⟩)
          | (go_at_call 11; refine (Dec16_no c _ (by omega)).mono ?_; rintro e w' ⟨rfl, n3, rfl⟩)
          | (go_at_call 13; refine (live_ _).mono ?_; rintro e w' ⟨rfl, n5, rfl⟩))
        go_ret
        exact ⟨rfl, _, rfl⟩

theorem rises (c : Int) (w : World) : Calls Try.prog 6 #[.int .i64 c] w fun e w' => e = .returned (.bool true) ∧ ∃ n, w' = w.drewN n := by
  by_cases h : 0 ≤ c ∧ c < 65535
  · obtain ⟨a, b⟩ := h
    have r16 := D16_rises c a b
    by_cases h8 : c < 255
    · have r8 := D8_rises c a h8
      go_enter Try.func6, Try.ntmps6
      go_wp2_with fail
      refine (Dec16 c _ (by omega) (by omega)).mono ?_; rintro e w' ⟨rfl, n1, rfl⟩
      go_wp2_with fail
      refine (Dec16 (c + 1) _ (by omega) (by omega)).mono ?_; rintro e w' ⟨rfl, n2, rfl⟩
      go_wp2_with fail
      refine (Dec8 c _ (by omega) (by omega)).mono ?_; rintro e w' ⟨rfl, n3, rfl⟩
      go_wp2_with fail
      refine (Dec8 (c + 1) _ (by omega) (by omega)).mono ?_; rintro e w' ⟨rfl, n4, rfl⟩
      go_wp2_with (go_at_call 13; refine (live_ _).mono ?_; rintro e w' ⟨rfl, n5, rfl⟩)
      go_ret
      exact ⟨rfl, _, rfl⟩
    · go_enter Try.func6, Try.ntmps6
      go_wp2_with fail
      refine (Dec16 c _ (by omega) (by omega)).mono ?_; rintro e w' ⟨rfl, n1, rfl⟩
      go_wp2_with fail
      refine (Dec16 (c + 1) _ (by omega) (by omega)).mono ?_; rintro e w' ⟨rfl, n2, rfl⟩
      go_wp2_with (go_at_call 13; refine (live_ _).mono ?_; rintro e w' ⟨rfl, n5, rfl⟩)
      go_ret
      exact ⟨rfl, _, rfl⟩
  · by_cases hc : c < 0
    · go_enter Try.func6, Try.ntmps6
      go_wp2_with (go_at_call 13; refine (live_ _).mono ?_; rintro e w' ⟨rfl, n5, rfl⟩)
      go_ret
      exact ⟨rfl, _, rfl⟩
    · have ha : 65535 ≤ c := by omega
      go_enter Try.func6, Try.ntmps6
      go_wp2_with (go_at_call 13; refine (live_ _).mono ?_; rintro e w' ⟨rfl, n5, rfl⟩)
      go_ret
      exact ⟨rfl, _, rfl⟩

theorem near (n : Int) (w : World) : Calls Try.prog 7 #[.int .i64 n] w fun e w' => e = .returned (.bool true) ∧ ∃ n, w' = w.drewN n := by
  by_cases h : 0 ≤ n ∧ n ≤ 8387584
  · obtain ⟨a, b⟩ := h
    have e16 := E16_bd n a
    have d16 := D16_bd (E16 n) e16.1 e16.2
    obtain ⟨p1, p2⟩ := near16 n a b
    by_cases h8 : n ≤ 31744
    · have e8 := E8_bd n a
      have d8 := D8_bd (E8 n) e8.1 e8.2
      obtain ⟨q1, q2⟩ := near8 n a h8
      go_enter Try.func7, Try.ntmps7
      go_wp2_with (first
        | (go_at_call 16; refine (Enc16 n _ (by omega) (by omega)).mono ?_; rintro e w' ⟨rfl, n1, rfl⟩)
        | (go_at_call 11; refine (Dec16 (E16 n) _ (by omega) (by omega)).mono ?_; rintro e w' ⟨rfl, n2, rfl⟩)
        | (go_at_call 14; refine (Enc8 n _ (by omega) (by omega)).mono ?_; rintro e w' ⟨rfl, n3, rfl⟩)
        | (go_at_call 9; refine (Dec8 (E8 n) _ (by omega) (by omega)).mono ?_; rintro e w' ⟨rfl, n4, rfl⟩)
        | (go_at_call 13; refine (live_ _).mono ?_; rintro e w' ⟨rfl, n5, rfl⟩))
      go_ret
      exact ⟨rfl, _, rfl⟩
    · go_enter Try.func7, Try.ntmps7
      go_wp2_with (first
        | (go_at_call 16; refine (Enc16 n _ (by omega) (by omega)).mono ?_; rintro e w' ⟨rfl, n1, rfl⟩)
        | (go_at_call 11; refine (Dec16 (E16 n) _ (by omega) (by omega)).mono ?_; rintro e w' ⟨rfl, n2, rfl⟩)
        | (go_at_call 13; refine (live_ _).mono ?_; rintro e w' ⟨rfl, n5, rfl⟩))
      go_ret
      exact ⟨rfl, _, rfl⟩
  · by_cases hc : n < 0
    · go_enter Try.func7, Try.ntmps7
      go_wp2_with (go_at_call 13; refine (live_ _).mono ?_; rintro e w' ⟨rfl, n5, rfl⟩)
      go_ret
      exact ⟨rfl, _, rfl⟩
    · have ha : 8387584 < n := by omega
      go_enter Try.func7, Try.ntmps7
      go_wp2_with (go_at_call 13; refine (live_ _).mono ?_; rintro e w' ⟨rfl, n5, rfl⟩)
      go_ret
      exact ⟨rfl, _, rfl⟩

theorem plain (n : Int) (w : World) : Calls Try.prog 8 #[.int .i64 n] w fun e w' => e = .returned (.bool true) ∧ ∃ n, w' = w.drewN n := by
  by_cases h : 0 ≤ n ∧ n ≤ 32767
  · obtain ⟨a, b⟩ := h
    have p1 : D16 n = n := by unfold D16; omega
    have p2 : E16 n = n := by unfold E16; omega
    by_cases h8 : n ≤ 127
    · have q1 : D8 n = n := by unfold D8; omega
      have q2 : E8 n = n := by unfold E8; omega
      go_enter Try.func8, Try.ntmps8
      go_wp2_with (first
        | (go_at_call 16; refine (Enc16 n _ (by omega) (by omega)).mono ?_; rintro e w' ⟨rfl, n1, rfl⟩)
        | (go_at_call 11; refine (Dec16 n _ (by omega) (by omega)).mono ?_; rintro e w' ⟨rfl, n2, rfl⟩)
        | (go_at_call 14; refine (Enc8 n _ (by omega) (by omega)).mono ?_; rintro e w' ⟨rfl, n3, rfl⟩)
        | (go_at_call 9; refine (Dec8 n _ (by omega) (by omega)).mono ?_; rintro e w' ⟨rfl, n4, rfl⟩)
        | (go_at_call 13; refine (live_ _).mono ?_; rintro e w' ⟨rfl, n5, rfl⟩))
      go_ret
      exact ⟨rfl, _, rfl⟩
    · go_enter Try.func8, Try.ntmps8
      go_wp2_with (first
        | (go_at_call 16; refine (Enc16 n _ (by omega) (by omega)).mono ?_; rintro e w' ⟨rfl, n1, rfl⟩)
        | (go_at_call 11; refine (Dec16 n _ (by omega) (by omega)).mono ?_; rintro e w' ⟨rfl, n2, rfl⟩)
        | (go_at_call 13; refine (live_ _).mono ?_; rintro e w' ⟨rfl, n5, rfl⟩))
      go_ret
      exact ⟨rfl, _, rfl⟩
  · by_cases hc : n < 0
    · go_enter Try.func8, Try.ntmps8
      go_wp2_with (go_at_call 13; refine (live_ _).mono ?_; rintro e w' ⟨rfl, n5, rfl⟩)
      go_ret
      exact ⟨rfl, _, rfl⟩
    · have ha : 32767 < n := by omega
      go_enter Try.func8, Try.ntmps8
      go_wp2_with (go_at_call 13; refine (live_ _).mono ?_; rintro e w' ⟨rfl, n5, rfl⟩)
      go_ret
      exact ⟨rfl, _, rfl⟩
end Code07
end Go.Proofs.Ytggmhpfmnmmcmaa
