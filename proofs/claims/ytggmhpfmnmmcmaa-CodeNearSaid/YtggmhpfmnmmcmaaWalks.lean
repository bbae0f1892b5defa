/-
  The walks of the codes of times: each function of the program and of the reference returns what the plain functions D8, D16, E8, E16 give; nothing is written.
-/
import Derived.Test.YtggmhpfmnmmcmaaRows
import Derived.Test.YtggmhpfmnmmcmaaMath
import Derived.Test.YtggmhpfmnmmcmaaLen
import Derived.WalkKit
import Derived.WalkLawsBesides
import Derived.WalkSpells
import Derived.Lib.Hide
import Derived.Deep.QuietTactic
import Derived.BigQuiet
import Derived.LoopTactic
import Derived.Lib.Strings
import Derived.Lib.Slices
import Derived.Lib.Small
import Derived.Lib.Walk
import Derived.Lib.BitFns
namespace Go.Proofs.Ytggmhpfmnmmcmaa
open Go.RowKit
namespace Code07
theorem ofInt_i64 (a : Nat) (ha : a < 9223372036854775808) : (BitVec.ofInt 64 (a : Int)).toNat = a := by
  rw [BitVec.ofInt_natCast, BitVec.toNat_ofNat]; exact Nat.mod_eq_of_lt (by omega)
theorem i64_and_nat (a b : Nat) (ha : a < 9223372036854775808) (hb : b < 9223372036854775808) : bits .and .i64 (a : Int) (b : Int) = ((a &&& b : Nat) : Int) := by
  have hx : a &&& b < 2 ^ 63 := Nat.and_lt_two_pow _ (by omega)
  show IntKind.i64.wrap ((BitVec.ofInt 64 (a : Int) &&& BitVec.ofInt 64 (b : Int)).toNat : Int) = _
  rw [BitVec.toNat_and, ofInt_i64 a ha, ofInt_i64 b hb, IntKind.wrap_i64]
  omega
theorem i64_or_nat (a b : Nat) (ha : a < 9223372036854775808) (hb : b < 9223372036854775808) : bits .or .i64 (a : Int) (b : Int) = ((a ||| b : Nat) : Int) := by
  have hx : a ||| b < 2 ^ 63 := Nat.or_lt_two_pow (by omega) (by omega)
  show IntKind.i64.wrap ((BitVec.ofInt 64 (a : Int) ||| BitVec.ofInt 64 (b : Int)).toNat : Int) = _
  rw [BitVec.toNat_or, ofInt_i64 a ha, ofInt_i64 b hb, IntKind.wrap_i64]
  omega
/-- the low bits -/
theorem i64_mask (x : Int) (k : Nat) (m : Nat) (hm : m + 1 = 2 ^ k) (h0 : 0 ≤ x) (h1 : x ≤ 9223372036854775807) (hk : m < 9223372036854775808) : bits .and .i64 x (m : Int) = x % ((m + 1 : Nat) : Int) := by
  obtain ⟨n, rfl⟩ := Int.eq_ofNat_of_zero_le h0
  rw [i64_and_nat n m (by omega) hk]
  have h : m = 2 ^ k - 1 := by omega
  rw [h, Nat.and_two_pow_sub_one_eq_mod, ← h, ← hm]
  norm_cast
/-- two parts that share no bit -/
theorem i64_join (x y : Int) (k : Nat) (hx0 : 0 ≤ x) (hx1 : x ≤ 9223372036854775807) (hy0 : 0 ≤ y) (hy : y < 2 ^ k) (hk : k ≤ 60) (hx : x % 2 ^ k = 0) : bits .or .i64 x y = x + y := by
  obtain ⟨a, rfl⟩ := Int.eq_ofNat_of_zero_le hx0
  obtain ⟨b, rfl⟩ := Int.eq_ofNat_of_zero_le hy0
  have hp : (2 : Nat) ^ k ≤ 2 ^ 60 := Nat.pow_le_pow_right (by omega) hk
  have hb : b < 2 ^ k := by exact_mod_cast hy
  have ha : a % 2 ^ k = 0 := by exact_mod_cast hx
  have hq : (2 : Nat) ^ 60 = 1152921504606846976 := by decide
  rw [i64_or_nat a b (by omega) (by omega), nat_join k a b ha hb]
  norm_cast
theorem i64_or_comm (x y : Int) : bits .or .i64 x y = bits .or .i64 y x := by
  simp only [bits]; rw [BitVec.or_comm]
theorem ret_int {k : IntKind} {a b : Int} (h : a = b) : Ending.returned (.int k a) = .returned (.int k b) := by rw [h]
theorem q_trans {w : World} {n m : Nat} : ∃ k, (w.drewN n).drewN m = w.drewN k := ⟨n + m, by rw [World.drewN_drewN]⟩

theorem bitLen_is (x k : Nat) (hk : k < 63) (h1 : 2 ^ k ≤ x) (h2 : x < 2 ^ (k + 1)) : Lib.bitLen x = k + 1 := by
  have hp : 2 ^ (k + 1) ≤ 2 ^ 63 := Nat.pow_le_pow_right (by omega) (by omega)
  have hq : (2 : Nat) ^ 64 = 2 * 2 ^ 63 := by decide
  have a := Lib.bitLen_le x (k + 1) (by omega) h2
  have b := Lib.bitLen_shift k x h1 (by omega)
  have hd : 1 ≤ x / 2 ^ k := (Nat.le_div_iff_mul_le (Nat.two_pow_pos k)).2 (by omega)
  have hx : x / 2 ^ k ≤ x := Nat.div_le_self _ _
  have c := Lib.bitLen_half (x / 2 ^ k) (by omega) (by omega)
  omega
theorem bitLen_ge (x k : Nat) (h1 : 2 ^ k ≤ x) (h2 : x < 2 ^ 64) : k + 1 ≤ Lib.bitLen x := by
  have b := Lib.bitLen_shift k x h1 h2
  have hd : 1 ≤ x / 2 ^ k := (Nat.le_div_iff_mul_le (Nat.two_pow_pos k)).2 (by omega)
  have hx : x / 2 ^ k ≤ x := Nat.div_le_self _ _
  have c := Lib.bitLen_half (x / 2 ^ k) (by omega) (by omega)
  omega
theorem len (x : Int) (w : World) (h0 : 0 ≤ x) (h1 : x ≤ 18446744073709551615) :
    Calls Try.prog 25 #[.int .u64 x] w fun e w' => e = .returned (.int .i64 (Lib.bitLen x.toNat)) ∧ w' = w := by
  go_enter Try.func25, Try.ntmps25
  go_wp2_with (go_at_call 27; refine (len64 x _ h0 h1).mono ?_; rintro e w' ⟨rfl, rfl⟩)
  go_ret
  exact ⟨rfl, rfl⟩

theorem pow_room (k : Nat) (v m b : Int) (hm0 : 0 ≤ m) (hm : m < b) (hv : v = m * 2 ^ k) (hk : k ≤ 9) : 2 * v ≤ b * 1024 := by
  have hp : (2 : Int) ^ k ≤ 512 := by
    have h : (2 : Nat) ^ k ≤ 2 ^ 9 := Nat.pow_le_pow_right (by omega) hk
    have : ((2 ^ k : Nat) : Int) ≤ ((2 ^ 9 : Nat) : Int) := by exact_mod_cast h
    simpa using this
  have hp0 : (0 : Int) ≤ 2 ^ k := Int.pow_nonneg (by omega)
  have h1 : m * 2 ^ k ≤ b * 512 := Int.mul_le_mul (by omega) hp hp0 (by omega)
  omega

/-! ### the width of 4 bits -/
theorem small4 (w : World) : Calls Try.prog 24 #[.int .i64 4] w fun e w' => e = .returned (.int .i64 16) ∧ w' = w := by
  go_enter Try.func24, Try.ntmps24
  go_wp2
  go_ret
  exact ⟨rfl, rfl⟩
theorem half4 (w : World) : Calls Try.prog 21 #[.int .i64 4] w fun e w' => e = .returned (.int .i64 128) ∧ w' = w := by
  go_enter Try.func21, Try.ntmps21
  go_wp2
  go_ret
  exact ⟨rfl, rfl⟩
theorem dval4 (c : Int) (h0 : 128 ≤ c) (h1 : c < 2 * 128) : (16 + c % 16) * 2 ^ (c / 16 % 8 + 3).toNat = D8 c := by
  have hq : c / 16 % 8 + 3 = 3 ∨ c / 16 % 8 + 3 = 4 ∨ c / 16 % 8 + 3 = 5 ∨ c / 16 % 8 + 3 = 6 ∨ c / 16 % 8 + 3 = 7 ∨ c / 16 % 8 + 3 = 8 ∨ c / 16 % 8 + 3 = 9 ∨ c / 16 % 8 + 3 = 10 := by omega
  rcases hq with h | h | h | h | h | h | h | h <;> rw [h] <;> unfold D8 <;> simp only [Int.reduceToNat, Int.reducePow] <;> omega
theorem dec4 (c : Int) (w : World) (h0 : 0 ≤ c) (h1 : c < 2 * 128) : Calls Try.prog 22 #[.int .i64 4, .int .i64 c] w fun e w' => e = .returned (.int .i64 (D8 c)) ∧ ∃ n, w' = w.drewN n := by
  by_cases hc : c < 128
  · have hD : D8 c = c := by unfold D8; omega
    have HD := Lib.hid hD
    clear hD
    go_enter Try.func22, Try.ntmps22
    go_wp2
    go_ret
    exact ⟨ret_int HD.out.symm, 0, rfl⟩
  · have k0 : IntKind.i64.wrap 15 = 15 := IntWalk.i64_in _ (by omega)
    have k1 : bits .and .i64 c 15 = c % 16 := i64_mask c 4 15 (by decide) h0 (by omega) (by omega)
    have k2 : bits .or .i64 (c % 16) 16 = 16 + c % 16 := by rw [i64_or_comm]; exact i64_join _ _ 4 (by omega) (by omega) (by omega) (by omega) (by omega) (by omega)
    have k3 : bits .and .i64 (c / 16) 7 = c / 16 % 8 := i64_mask (c / 16) 3 7 (by decide) (by omega) (by omega) (by omega)
    have k4 : IntKind.i64.wrap (c / 16 % 8 + 3) = c / 16 % 8 + 3 := IntWalk.i64_in _ (by omega)
    have k5 : 0 ≤ c / 16 % 8 + 3 := by omega
    have hv := dval4 c (by omega) h1
    have hb := D8_bd c (by omega) (by omega)
    have HV := Lib.hid hv
    clear hv
    have hbb : -9223372036854775808 ≤ (16 + c % 16) * 2 ^ (c / 16 % 8 + 3).toNat ∧ (16 + c % 16) * 2 ^ (c / 16 % 8 + 3).toNat ≤ 9223372036854775807 := by rw [HV.out]; omega
    have hw := IntWalk.wrap64_in _ hbb
    clear hbb
    have HW := Lib.hid hw
    clear hw hb
    go_enter Try.func22, Try.ntmps22
    go_wp2
    go_quiet ((go_at_call 24; exact Calls.quiet_of_same (small4 _)))
    go_wp2
    go_ret
    refine ⟨ret_int ?_, nq, rfl⟩
    exact HW.out.trans HV.out
theorem decode4 (c : Int) (w : World) (h0 : 0 ≤ c) (h1 : c < 2 * 128) : Calls Try.prog 18 #[.int .i64 4, .int .i64 c] w fun e w' => e = .returned (.tuple #[.int .i64 (D8 c), .int .i64 0]) ∧ ∃ n, w' = w.drewN n := by
  go_enter Try.func18, Try.ntmps18
  go_wp2_with (first | (go_at_call 21; refine (half4 _).mono ?_; rintro e w' ⟨rfl, rfl⟩) | (go_at_call 22; refine (dec4 c _ h0 h1).mono ?_; rintro e w' ⟨rfl, n, rfl⟩))
  go_ret2
  exact ⟨rfl, _, rfl⟩
theorem decode4_no (c : Int) (w : World) (h : c < 0 ∨ 2 * 128 ≤ c) : Calls Try.prog 18 #[.int .i64 4, .int .i64 c] w fun e w' => e = .returned (.tuple #[.int .i64 0, .int .i64 1]) ∧ ∃ n, w' = w.drewN n := by
  rcases h with h | h
  · go_enter Try.func18, Try.ntmps18
    go_wp2_with (first | (go_at_call 21; refine (half4 _).mono ?_; rintro e w' ⟨rfl, rfl⟩))
    go_ret2
    exact ⟨rfl, 0, rfl⟩
  · have h' : ¬ c < 0 := by omega
    go_enter Try.func18, Try.ntmps18
    go_wp2_with (first | (go_at_call 21; refine (half4 _).mono ?_; rintro e w' ⟨rfl, rfl⟩))
    go_ret2
    exact ⟨rfl, 0, rfl⟩
theorem Dec8 (c : Int) (w : World) (h0 : 0 ≤ c) (h1 : c < 2 * 128) : Calls Try.prog 9 #[.int .i64 c] w fun e w' => e = .returned (.tuple #[.int .i64 (D8 c), .int .i64 0]) ∧ ∃ n, w' = w.drewN n := by
  go_enter Try.func9, Try.ntmps9
  go_wp2_with (go_at_call 18; refine (decode4 c _ h0 h1).mono ?_; rintro e w' ⟨rfl, n, rfl⟩)
  go_ret2
  exact ⟨rfl, n, rfl⟩
theorem Dec8_no (c : Int) (w : World) (h : c < 0 ∨ 2 * 128 ≤ c) : Calls Try.prog 9 #[.int .i64 c] w fun e w' => e = .returned (.tuple #[.int .i64 0, .int .i64 1]) ∧ ∃ n, w' = w.drewN n := by
  go_enter Try.func9, Try.ntmps9
  go_wp2_with (go_at_call 18; refine (decode4_no c _ h).mono ?_; rintro e w' ⟨rfl, n, rfl⟩)
  go_ret2
  exact ⟨rfl, n, rfl⟩

theorem rdec4 (c : Int) (w : World) (h0 : 0 ≤ c) (h1 : c < 2 * 128) : Calls Try.prog 19 #[.int .i64 c, .int .i64 4] w fun e w' => e = .returned (.int .i64 (D8 c)) ∧ w' = w := by
  by_cases hc : c < 128
  · have hD : D8 c = c := by unfold D8; omega
    have HD := Lib.hid hD
    clear hD
    go_enter Try.func19, Try.ntmps19
    go_wp2
    go_loop [5, 6] (fun h i => (h = .int .i64 8 ∧ i = .int .i64 0) ∨ (h = .int .i64 16 ∧ i = .int .i64 1) ∨ (h = .int .i64 32 ∧ i = .int .i64 2) ∨ (h = .int .i64 64 ∧ i = .int .i64 3) ∨ (h = .int .i64 128 ∧ i = .int .i64 4)) (fun _ i => 4 - (intOf i).toNat)
    case atStart => exact .inl ⟨rfl, rfl⟩
    case round =>
      rcases hrel with ⟨rfl, rfl⟩ | ⟨rfl, rfl⟩ | ⟨rfl, rfl⟩ | ⟨rfl, rfl⟩ | ⟨rfl, rfl⟩
      · go_wp2; go_round
        case rel => exact .inr (.inl ⟨rfl, rfl⟩)
        case measure => simp [intOf]
      · go_wp2; go_round
        case rel => exact .inr (.inr (.inl ⟨rfl, rfl⟩))
        case measure => simp [intOf]
      · go_wp2; go_round
        case rel => exact .inr (.inr (.inr (.inl ⟨rfl, rfl⟩)))
        case measure => simp [intOf]
      · go_wp2; go_round
        case rel => exact .inr (.inr (.inr (.inr (⟨rfl, rfl⟩))))
        case measure => simp [intOf]
      · go_wp2
        go_ret
        exact ⟨ret_int HD.out.symm, rfl⟩
  · have hv := dval4 c (by omega) h1
    have HV := Lib.hid hv
    clear hv
    have k5 : 0 ≤ c / 16 % 8 := by omega
    have k6 : c / 16 % 8 ≤ 7 := by omega
    have hc' : ¬ c < 128 := hc
    clear hc
    have hd : decide (c < 128) = false := by simp; omega
    go_enter Try.func19, Try.ntmps19
    go_wp2
    go_loop [5, 6] (fun h i => (h = .int .i64 8 ∧ i = .int .i64 0) ∨ (h = .int .i64 16 ∧ i = .int .i64 1) ∨ (h = .int .i64 32 ∧ i = .int .i64 2) ∨ (h = .int .i64 64 ∧ i = .int .i64 3) ∨ (h = .int .i64 128 ∧ i = .int .i64 4)) (fun _ i => 4 - (intOf i).toNat)
    case atStart => exact .inl ⟨rfl, rfl⟩
    case round =>
      rcases hrel with ⟨rfl, rfl⟩ | ⟨rfl, rfl⟩ | ⟨rfl, rfl⟩ | ⟨rfl, rfl⟩ | ⟨rfl, rfl⟩
      · go_wp2; go_round
        case rel => exact .inr (.inl ⟨rfl, rfl⟩)
        case measure => simp [intOf]
      · go_wp2; go_round
        case rel => exact .inr (.inr (.inl ⟨rfl, rfl⟩))
        case measure => simp [intOf]
      · go_wp2; go_round
        case rel => exact .inr (.inr (.inr (.inl ⟨rfl, rfl⟩)))
        case measure => simp [intOf]
      · go_wp2; go_round
        case rel => exact .inr (.inr (.inr (.inr (⟨rfl, rfl⟩))))
        case measure => simp [intOf]
      · go_wp2
        go_loop [8, 9] (fun n i => ∃ (k : Nat) (v : Int), i = .int .i64 k ∧ n = .int .i64 v ∧ k ≤ (c / 16 % 8 + 3).toNat ∧ 0 ≤ v ∧ v ≤ 2 * 16 * 1024 ∧ Hid (v = (16 + c % 16) * 2 ^ k)) (fun _ i => 12 - (intOf i).toNat)
        case atStart => exact ⟨0, _, rfl, rfl, by omega, by omega, by omega, by show _ = _; simp; omega⟩
        case round =>
          obtain ⟨k, v, rfl, rfl, hk, hv0, hv1, HK⟩ := hrel
          by_cases hlt : (k : Int) < c / 16 % 8 + 3
          · have hv2 := pow_room k v (16 + c % 16) (2 * 16) (by omega) (by omega) HK.out (by omega)
            go_wp2
            go_round
            case rel => exact ⟨k + 1, 2 * v, by go_num, rfl, by omega, by omega, by omega, by show _ = _; rw [HK.out, Int.pow_succ]; ac_rfl⟩
            case measure => simp [intOf]; omega
          · have hke : k = (c / 16 % 8 + 3).toNat := by omega
            have HE := Lib.hid hke
            clear hke
            go_wp2
            go_ret
            exact ⟨ret_int (by rw [HK.out, HE.out]; exact HV.out), rfl⟩

theorem enc4_low (n : Int) (w : World) (h1 : n < 128) : Calls Try.prog 23 #[.int .i64 4, .int .i64 n] w fun e w' => e = .returned (.int .i64 (E8 n)) ∧ ∃ k, w' = w.drewN k := by
  have hD : E8 n = n := by unfold E8; omega
  have HD := Lib.hid hD
  clear hD
  go_enter Try.func23, Try.ntmps23
  go_wp2_with (go_at_call 21; refine (half4 _).mono ?_; rintro e w' ⟨rfl, rfl⟩)
  go_ret
  exact ⟨ret_int HD.out.symm, 0, rfl⟩
theorem enc4_high (n : Int) (w : World) (h0 : 128 * 256 ≤ n) (h1 : n ≤ 9223372036854775807) : Calls Try.prog 23 #[.int .i64 4, .int .i64 n] w fun e w' => e = .returned (.int .i64 (E8 n)) ∧ ∃ k, w' = w.drewN k := by
  have hD : E8 n = 2 * 128 - 1 := by unfold E8; omega
  have HD := Lib.hid hD
  clear hD
  have hg := bitLen_ge n.toNat (4 + 11) (by omega) (by omega)
  have hl := Lib.bitLen_le n.toNat 64 (by omega) (by omega)
  have hb : 4 + 12 ≤ ((Lib.bitLen n.toNat : Nat) : Int) := by omega
  have hb' : ((Lib.bitLen n.toNat : Nat) : Int) ≤ 64 := by omega
  have hn : ¬ n < 128 := by omega
  have hn0 : 0 ≤ n := by omega
  have hn1 : n ≤ 18446744073709551615 := by omega
  clear hg hl
  go_enter Try.func23, Try.ntmps23
  go_wp2_with (first | (go_at_call 21; refine (half4 _).mono ?_; rintro e w' ⟨rfl, rfl⟩) | (go_at_call 25; refine (len n _ hn0 hn1).mono ?_; rintro e w' ⟨rfl, rfl⟩))
  go_ret
  exact ⟨ret_int HD.out.symm, 0, rfl⟩

theorem enc4_0 (n : Int) (w : World) (h0 : 128 ≤ n) (h1 : n < 2 * 128) : Calls Try.prog 23 #[.int .i64 4, .int .i64 n] w fun e w' => e = .returned (.int .i64 (E8 n)) ∧ ∃ k, w' = w.drewN k := by
  have hD : 128 + n / 8 % 16 = E8 n := by unfold E8; omega
  have HD := Lib.hid hD
  clear hD
  have HL := Lib.hid (bitLen_is n.toNat 7 (by omega) (by omega) (by omega))
  have k1 : bits .and .i64 (n / 8) 15 = n / 8 % 16 := i64_mask (n / 8) 4 15 (by decide) (by omega) (by omega) (by omega)
  have k2 : bits .or .i64 128 (n / 8 % 16) = 128 + n / 8 % 16 := i64_join _ _ 4 (by omega) (by omega) (by omega) (by omega) (by omega) (by omega)
  have k3 : bits .or .i64 128 0 = 128 := by decide
  have k4 : bits .or .i64 128 (IntKind.i64.wrap 0) = 128 := by decide
  have k0 : IntKind.i64.wrap 15 = 15 := IntWalk.i64_in _ (by omega)
  have k6 : IntKind.i64.wrap 3 = 3 := IntWalk.i64_in _ (by omega)
  have hn : ¬ n < 128 := by omega
  have hn0 : 0 ≤ n := by omega
  have hn1 : n ≤ 18446744073709551615 := by omega
  go_enter Try.func23, Try.ntmps23
  go_wp2_with (first | (go_at_call 21; refine (half4 _).mono ?_; rintro e w' ⟨rfl, rfl⟩) | (go_at_call 25; refine (len n _ hn0 hn1).mono ?_; rw [HL.out]; rintro e w' ⟨rfl, rfl⟩))
  go_quiet ((first | (go_at_call 21; exact Calls.quiet_of_same (half4 _)) | (go_at_call 24; exact Calls.quiet_of_same (small4 _))))
  go_wp2
  go_ret
  exact ⟨ret_int HD.out, nq, rfl⟩

theorem enc4_1 (n : Int) (w : World) (h0 : 256 ≤ n) (h1 : n < 2 * 256) : Calls Try.prog 23 #[.int .i64 4, .int .i64 n] w fun e w' => e = .returned (.int .i64 (E8 n)) ∧ ∃ k, w' = w.drewN k := by
  have hD : 144 + n / 16 % 16 = E8 n := by unfold E8; omega
  have HD := Lib.hid hD
  clear hD
  have HL := Lib.hid (bitLen_is n.toNat 8 (by omega) (by omega) (by omega))
  have k1 : bits .and .i64 (n / 16) 15 = n / 16 % 16 := i64_mask (n / 16) 4 15 (by decide) (by omega) (by omega) (by omega)
  have k2 : bits .or .i64 144 (n / 16 % 16) = 144 + n / 16 % 16 := i64_join _ _ 4 (by omega) (by omega) (by omega) (by omega) (by omega) (by omega)
  have k3 : bits .or .i64 128 16 = 144 := by decide
  have k4 : bits .or .i64 128 (IntKind.i64.wrap 16) = 144 := by decide
  have k0 : IntKind.i64.wrap 15 = 15 := IntWalk.i64_in _ (by omega)
  have k6 : IntKind.i64.wrap 4 = 4 := IntWalk.i64_in _ (by omega)
  have hn : ¬ n < 128 := by omega
  have hn0 : 0 ≤ n := by omega
  have hn1 : n ≤ 18446744073709551615 := by omega
  go_enter Try.func23, Try.ntmps23
  go_wp2_with (first | (go_at_call 21; refine (half4 _).mono ?_; rintro e w' ⟨rfl, rfl⟩) | (go_at_call 25; refine (len n _ hn0 hn1).mono ?_; rw [HL.out]; rintro e w' ⟨rfl, rfl⟩))
  go_quiet ((first | (go_at_call 21; exact Calls.quiet_of_same (half4 _)) | (go_at_call 24; exact Calls.quiet_of_same (small4 _))))
  go_wp2
  go_ret
  exact ⟨ret_int HD.out, nq, rfl⟩

theorem enc4_2 (n : Int) (w : World) (h0 : 512 ≤ n) (h1 : n < 2 * 512) : Calls Try.prog 23 #[.int .i64 4, .int .i64 n] w fun e w' => e = .returned (.int .i64 (E8 n)) ∧ ∃ k, w' = w.drewN k := by
  have hD : 160 + n / 32 % 16 = E8 n := by unfold E8; omega
  have HD := Lib.hid hD
  clear hD
  have HL := Lib.hid (bitLen_is n.toNat 9 (by omega) (by omega) (by omega))
  have k1 : bits .and .i64 (n / 32) 15 = n / 32 % 16 := i64_mask (n / 32) 4 15 (by decide) (by omega) (by omega) (by omega)
  have k2 : bits .or .i64 160 (n / 32 % 16) = 160 + n / 32 % 16 := i64_join _ _ 4 (by omega) (by omega) (by omega) (by omega) (by omega) (by omega)
  have k3 : bits .or .i64 128 32 = 160 := by decide
  have k4 : bits .or .i64 128 (IntKind.i64.wrap 32) = 160 := by decide
  have k0 : IntKind.i64.wrap 15 = 15 := IntWalk.i64_in _ (by omega)
  have k6 : IntKind.i64.wrap 5 = 5 := IntWalk.i64_in _ (by omega)
  have hn : ¬ n < 128 := by omega
  have hn0 : 0 ≤ n := by omega
  have hn1 : n ≤ 18446744073709551615 := by omega
  go_enter Try.func23, Try.ntmps23
  go_wp2_with (first | (go_at_call 21; refine (half4 _).mono ?_; rintro e w' ⟨rfl, rfl⟩) | (go_at_call 25; refine (len n _ hn0 hn1).mono ?_; rw [HL.out]; rintro e w' ⟨rfl, rfl⟩))
  go_quiet ((first | (go_at_call 21; exact Calls.quiet_of_same (half4 _)) | (go_at_call 24; exact Calls.quiet_of_same (small4 _))))
  go_wp2
  go_ret
  exact ⟨ret_int HD.out, nq, rfl⟩

theorem enc4_3 (n : Int) (w : World) (h0 : 1024 ≤ n) (h1 : n < 2 * 1024) : Calls Try.prog 23 #[.int .i64 4, .int .i64 n] w fun e w' => e = .returned (.int .i64 (E8 n)) ∧ ∃ k, w' = w.drewN k := by
  have hD : 176 + n / 64 % 16 = E8 n := by unfold E8; omega
  have HD := Lib.hid hD
  clear hD
  have HL := Lib.hid (bitLen_is n.toNat 10 (by omega) (by omega) (by omega))
  have k1 : bits .and .i64 (n / 64) 15 = n / 64 % 16 := i64_mask (n / 64) 4 15 (by decide) (by omega) (by omega) (by omega)
  have k2 : bits .or .i64 176 (n / 64 % 16) = 176 + n / 64 % 16 := i64_join _ _ 4 (by omega) (by omega) (by omega) (by omega) (by omega) (by omega)
  have k3 : bits .or .i64 128 48 = 176 := by decide
  have k4 : bits .or .i64 128 (IntKind.i64.wrap 48) = 176 := by decide
  have k0 : IntKind.i64.wrap 15 = 15 := IntWalk.i64_in _ (by omega)
  have k6 : IntKind.i64.wrap 6 = 6 := IntWalk.i64_in _ (by omega)
  have hn : ¬ n < 128 := by omega
  have hn0 : 0 ≤ n := by omega
  have hn1 : n ≤ 18446744073709551615 := by omega
  go_enter Try.func23, Try.ntmps23
  go_wp2_with (first | (go_at_call 21; refine (half4 _).mono ?_; rintro e w' ⟨rfl, rfl⟩) | (go_at_call 25; refine (len n _ hn0 hn1).mono ?_; rw [HL.out]; rintro e w' ⟨rfl, rfl⟩))
  go_quiet ((first | (go_at_call 21; exact Calls.quiet_of_same (half4 _)) | (go_at_call 24; exact Calls.quiet_of_same (small4 _))))
  go_wp2
  go_ret
  exact ⟨ret_int HD.out, nq, rfl⟩

theorem enc4_4 (n : Int) (w : World) (h0 : 2048 ≤ n) (h1 : n < 2 * 2048) : Calls Try.prog 23 #[.int .i64 4, .int .i64 n] w fun e w' => e = .returned (.int .i64 (E8 n)) ∧ ∃ k, w' = w.drewN k := by
  have hD : 192 + n / 128 % 16 = E8 n := by unfold E8; omega
  have HD := Lib.hid hD
  clear hD
  have HL := Lib.hid (bitLen_is n.toNat 11 (by omega) (by omega) (by omega))
  have k1 : bits .and .i64 (n / 128) 15 = n / 128 % 16 := i64_mask (n / 128) 4 15 (by decide) (by omega) (by omega) (by omega)
  have k2 : bits .or .i64 192 (n / 128 % 16) = 192 + n / 128 % 16 := i64_join _ _ 4 (by omega) (by omega) (by omega) (by omega) (by omega) (by omega)
  have k3 : bits .or .i64 128 64 = 192 := by decide
  have k4 : bits .or .i64 128 (IntKind.i64.wrap 64) = 192 := by decide
  have k0 : IntKind.i64.wrap 15 = 15 := IntWalk.i64_in _ (by omega)
  have k6 : IntKind.i64.wrap 7 = 7 := IntWalk.i64_in _ (by omega)
  have hn : ¬ n < 128 := by omega
  have hn0 : 0 ≤ n := by omega
  have hn1 : n ≤ 18446744073709551615 := by omega
  go_enter Try.func23, Try.ntmps23
  go_wp2_with (first | (go_at_call 21; refine (half4 _).mono ?_; rintro e w' ⟨rfl, rfl⟩) | (go_at_call 25; refine (len n _ hn0 hn1).mono ?_; rw [HL.out]; rintro e w' ⟨rfl, rfl⟩))
  go_quiet ((first | (go_at_call 21; exact Calls.quiet_of_same (half4 _)) | (go_at_call 24; exact Calls.quiet_of_same (small4 _))))
  go_wp2
  go_ret
  exact ⟨ret_int HD.out, nq, rfl⟩

theorem enc4_5 (n : Int) (w : World) (h0 : 4096 ≤ n) (h1 : n < 2 * 4096) : Calls Try.prog 23 #[.int .i64 4, .int .i64 n] w fun e w' => e = .returned (.int .i64 (E8 n)) ∧ ∃ k, w' = w.drewN k := by
  have hD : 208 + n / 256 % 16 = E8 n := by unfold E8; omega
  have HD := Lib.hid hD
  clear hD
  have HL := Lib.hid (bitLen_is n.toNat 12 (by omega) (by omega) (by omega))
  have k1 : bits .and .i64 (n / 256) 15 = n / 256 % 16 := i64_mask (n / 256) 4 15 (by decide) (by omega) (by omega) (by omega)
  have k2 : bits .or .i64 208 (n / 256 % 16) = 208 + n / 256 % 16 := i64_join _ _ 4 (by omega) (by omega) (by omega) (by omega) (by omega) (by omega)
  have k3 : bits .or .i64 128 80 = 208 := by decide
  have k4 : bits .or .i64 128 (IntKind.i64.wrap 80) = 208 := by decide
  have k0 : IntKind.i64.wrap 15 = 15 := IntWalk.i64_in _ (by omega)
  have k6 : IntKind.i64.wrap 8 = 8 := IntWalk.i64_in _ (by omega)
  have hn : ¬ n < 128 := by omega
  have hn0 : 0 ≤ n := by omega
  have hn1 : n ≤ 18446744073709551615 := by omega
  go_enter Try.func23, Try.ntmps23
  go_wp2_with (first | (go_at_call 21; refine (half4 _).mono ?_; rintro e w' ⟨rfl, rfl⟩) | (go_at_call 25; refine (len n _ hn0 hn1).mono ?_; rw [HL.out]; rintro e w' ⟨rfl, rfl⟩))
  go_quiet ((first | (go_at_call 21; exact Calls.quiet_of_same (half4 _)) | (go_at_call 24; exact Calls.quiet_of_same (small4 _))))
  go_wp2
  go_ret
  exact ⟨ret_int HD.out, nq, rfl⟩

theorem enc4_6 (n : Int) (w : World) (h0 : 8192 ≤ n) (h1 : n < 2 * 8192) : Calls Try.prog 23 #[.int .i64 4, .int .i64 n] w fun e w' => e = .returned (.int .i64 (E8 n)) ∧ ∃ k, w' = w.drewN k := by
  have hD : 224 + n / 512 % 16 = E8 n := by unfold E8; omega
  have HD := Lib.hid hD
  clear hD
  have HL := Lib.hid (bitLen_is n.toNat 13 (by omega) (by omega) (by omega))
  have k1 : bits .and .i64 (n / 512) 15 = n / 512 % 16 := i64_mask (n / 512) 4 15 (by decide) (by omega) (by omega) (by omega)
  have k2 : bits .or .i64 224 (n / 512 % 16) = 224 + n / 512 % 16 := i64_join _ _ 4 (by omega) (by omega) (by omega) (by omega) (by omega) (by omega)
  have k3 : bits .or .i64 128 96 = 224 := by decide
  have k4 : bits .or .i64 128 (IntKind.i64.wrap 96) = 224 := by decide
  have k0 : IntKind.i64.wrap 15 = 15 := IntWalk.i64_in _ (by omega)
  have k6 : IntKind.i64.wrap 9 = 9 := IntWalk.i64_in _ (by omega)
  have hn : ¬ n < 128 := by omega
  have hn0 : 0 ≤ n := by omega
  have hn1 : n ≤ 18446744073709551615 := by omega
  go_enter Try.func23, Try.ntmps23
  go_wp2_with (first | (go_at_call 21; refine (half4 _).mono ?_; rintro e w' ⟨rfl, rfl⟩) | (go_at_call 25; refine (len n _ hn0 hn1).mono ?_; rw [HL.out]; rintro e w' ⟨rfl, rfl⟩))
  go_quiet ((first | (go_at_call 21; exact Calls.quiet_of_same (half4 _)) | (go_at_call 24; exact Calls.quiet_of_same (small4 _))))
  go_wp2
  go_ret
  exact ⟨ret_int HD.out, nq, rfl⟩

theorem enc4_7 (n : Int) (w : World) (h0 : 16384 ≤ n) (h1 : n < 2 * 16384) : Calls Try.prog 23 #[.int .i64 4, .int .i64 n] w fun e w' => e = .returned (.int .i64 (E8 n)) ∧ ∃ k, w' = w.drewN k := by
  have hD : 240 + n / 1024 % 16 = E8 n := by unfold E8; omega
  have HD := Lib.hid hD
  clear hD
  have HL := Lib.hid (bitLen_is n.toNat 14 (by omega) (by omega) (by omega))
  have k1 : bits .and .i64 (n / 1024) 15 = n / 1024 % 16 := i64_mask (n / 1024) 4 15 (by decide) (by omega) (by omega) (by omega)
  have k2 : bits .or .i64 240 (n / 1024 % 16) = 240 + n / 1024 % 16 := i64_join _ _ 4 (by omega) (by omega) (by omega) (by omega) (by omega) (by omega)
  have k3 : bits .or .i64 128 112 = 240 := by decide
  have k4 : bits .or .i64 128 (IntKind.i64.wrap 112) = 240 := by decide
  have k0 : IntKind.i64.wrap 15 = 15 := IntWalk.i64_in _ (by omega)
  have k6 : IntKind.i64.wrap 10 = 10 := IntWalk.i64_in _ (by omega)
  have hn : ¬ n < 128 := by omega
  have hn0 : 0 ≤ n := by omega
  have hn1 : n ≤ 18446744073709551615 := by omega
  go_enter Try.func23, Try.ntmps23
  go_wp2_with (first | (go_at_call 21; refine (half4 _).mono ?_; rintro e w' ⟨rfl, rfl⟩) | (go_at_call 25; refine (len n _ hn0 hn1).mono ?_; rw [HL.out]; rintro e w' ⟨rfl, rfl⟩))
  go_quiet ((first | (go_at_call 21; exact Calls.quiet_of_same (half4 _)) | (go_at_call 24; exact Calls.quiet_of_same (small4 _))))
  go_wp2
  go_ret
  exact ⟨ret_int HD.out, nq, rfl⟩

theorem enc4 (n : Int) (w : World) (h0 : 0 ≤ n) (h1 : n ≤ 9223372036854775807) : Calls Try.prog 23 #[.int .i64 4, .int .i64 n] w fun e w' => e = .returned (.int .i64 (E8 n)) ∧ ∃ k, w' = w.drewN k := by
  by_cases a : n < 128
  · exact enc4_low n w a
  by_cases a0 : n < 256
  · exact enc4_0 n w (by omega) (by omega)
  by_cases a1 : n < 512
  · exact enc4_1 n w (by omega) (by omega)
  by_cases a2 : n < 1024
  · exact enc4_2 n w (by omega) (by omega)
  by_cases a3 : n < 2048
  · exact enc4_3 n w (by omega) (by omega)
  by_cases a4 : n < 4096
  · exact enc4_4 n w (by omega) (by omega)
  by_cases a5 : n < 8192
  · exact enc4_5 n w (by omega) (by omega)
  by_cases a6 : n < 16384
  · exact enc4_6 n w (by omega) (by omega)
  by_cases a7 : n < 32768
  · exact enc4_7 n w (by omega) (by omega)
  exact enc4_high n w (by omega) h1
theorem encode4 (n : Int) (w : World) (h0 : 0 ≤ n) (h1 : n ≤ 9223372036854775807) : Calls Try.prog 20 #[.int .i64 4, .int .i64 n] w fun e w' => e = .returned (.tuple #[.int .i64 (E8 n), .int .i64 0]) ∧ ∃ n, w' = w.drewN n := by
  go_enter Try.func20, Try.ntmps20
  go_wp2_with (go_at_call 23; refine (enc4 n _ h0 h1).mono ?_; rintro e w' ⟨rfl, k, rfl⟩)
  go_ret2
  exact ⟨rfl, k, rfl⟩
theorem Enc8 (n : Int) (w : World) (h0 : 0 ≤ n) (h1 : n ≤ 9223372036854775807) : Calls Try.prog 14 #[.int .i64 n] w fun e w' => e = .returned (.tuple #[.int .i64 (E8 n), .int .i64 0]) ∧ ∃ n, w' = w.drewN n := by
  go_enter Try.func14, Try.ntmps14
  go_wp2_with (go_at_call 20; refine (encode4 n _ h0 h1).mono ?_; rintro e w' ⟨rfl, k, rfl⟩)
  go_ret2
  exact ⟨rfl, k, rfl⟩
theorem encode4_no (n : Int) (w : World) (h0 : n < 0) : Calls Try.prog 20 #[.int .i64 4, .int .i64 n] w fun e w' => e = .returned (.tuple #[.int .i64 0, .int .i64 1]) ∧ ∃ n, w' = w.drewN n := by
  go_enter Try.func20, Try.ntmps20
  go_wp2
  go_ret2
  exact ⟨rfl, 0, rfl⟩
theorem Enc8_no (n : Int) (w : World) (h0 : n < 0) : Calls Try.prog 14 #[.int .i64 n] w fun e w' => e = .returned (.tuple #[.int .i64 0, .int .i64 1]) ∧ ∃ n, w' = w.drewN n := by
  go_enter Try.func14, Try.ntmps14
  go_wp2_with (go_at_call 20; refine (encode4_no n _ h0).mono ?_; rintro e w' ⟨rfl, k, rfl⟩)
  go_ret2
  exact ⟨rfl, k, rfl⟩
/-! the reference -/
theorem RDec8 (c : Int) (w : World) (h0 : 0 ≤ c) (h1 : c < 2 * 128) : Calls Try.prog 10 #[.int .i64 c] w fun e w' => e = .returned (.tuple #[.int .i64 (D8 c), .int .i64 0]) ∧ ∃ n, w' = w.drewN n := by
  go_enter Try.func10, Try.ntmps10
  go_wp2_with (go_at_call 19; refine (rdec4 c _ h0 h1).mono ?_; rintro e w' ⟨rfl, rfl⟩)
  go_ret2
  exact ⟨rfl, 0, rfl⟩
theorem RDec8_no (c : Int) (w : World) (h : c < 0 ∨ 2 * 128 ≤ c) : Calls Try.prog 10 #[.int .i64 c] w fun e w' => e = .returned (.tuple #[.int .i64 0, .int .i64 1]) ∧ ∃ n, w' = w.drewN n := by
  rcases h with h | h
  · go_enter Try.func10, Try.ntmps10
    go_wp2
    go_ret2
    exact ⟨rfl, 0, rfl⟩
  · have h' : ¬ c < 0 := by omega
    go_enter Try.func10, Try.ntmps10
    go_wp2
    go_ret2
    exact ⟨rfl, 0, rfl⟩
theorem REnc8_no (n : Int) (w : World) (h0 : n < 0) : Calls Try.prog 15 #[.int .i64 n] w fun e w' => e = .returned (.tuple #[.int .i64 0, .int .i64 1]) ∧ ∃ n, w' = w.drewN n := by
  go_enter Try.func15, Try.ntmps15
  go_wp2
  go_ret2
  exact ⟨rfl, 0, rfl⟩

/-! ### the width of 12 bits -/
theorem small12 (w : World) : Calls Try.prog 24 #[.int .i64 12] w fun e w' => e = .returned (.int .i64 4096) ∧ w' = w := by
  go_enter Try.func24, Try.ntmps24
  go_wp2
  go_ret
  exact ⟨rfl, rfl⟩
theorem half12 (w : World) : Calls Try.prog 21 #[.int .i64 12] w fun e w' => e = .returned (.int .i64 32768) ∧ w' = w := by
  go_enter Try.func21, Try.ntmps21
  go_wp2
  go_ret
  exact ⟨rfl, rfl⟩
theorem dval12 (c : Int) (h0 : 32768 ≤ c) (h1 : c < 2 * 32768) : (4096 + c % 4096) * 2 ^ (c / 4096 % 8 + 3).toNat = D16 c := by
  have hq : c / 4096 % 8 + 3 = 3 ∨ c / 4096 % 8 + 3 = 4 ∨ c / 4096 % 8 + 3 = 5 ∨ c / 4096 % 8 + 3 = 6 ∨ c / 4096 % 8 + 3 = 7 ∨ c / 4096 % 8 + 3 = 8 ∨ c / 4096 % 8 + 3 = 9 ∨ c / 4096 % 8 + 3 = 10 := by omega
  rcases hq with h | h | h | h | h | h | h | h <;> rw [h] <;> unfold D16 <;> simp only [Int.reduceToNat, Int.reducePow] <;> omega
theorem dec12 (c : Int) (w : World) (h0 : 0 ≤ c) (h1 : c < 2 * 32768) : Calls Try.prog 22 #[.int .i64 12, .int .i64 c] w fun e w' => e = .returned (.int .i64 (D16 c)) ∧ ∃ n, w' = w.drewN n := by
  by_cases hc : c < 32768
  · have hD : D16 c = c := by unfold D16; omega
    have HD := Lib.hid hD
    clear hD
    go_enter Try.func22, Try.ntmps22
    go_wp2
    go_ret
    exact ⟨ret_int HD.out.symm, 0, rfl⟩
  · have k0 : IntKind.i64.wrap 4095 = 4095 := IntWalk.i64_in _ (by omega)
    have k1 : bits .and .i64 c 4095 = c % 4096 := i64_mask c 12 4095 (by decide) h0 (by omega) (by omega)
    have k2 : bits .or .i64 (c % 4096) 4096 = 4096 + c % 4096 := by rw [i64_or_comm]; exact i64_join _ _ 12 (by omega) (by omega) (by omega) (by omega) (by omega) (by omega)
    have k3 : bits .and .i64 (c / 4096) 7 = c / 4096 % 8 := i64_mask (c / 4096) 3 7 (by decide) (by omega) (by omega) (by omega)
    have k4 : IntKind.i64.wrap (c / 4096 % 8 + 3) = c / 4096 % 8 + 3 := IntWalk.i64_in _ (by omega)
    have k5 : 0 ≤ c / 4096 % 8 + 3 := by omega
    have hv := dval12 c (by omega) h1
    have hb := D16_bd c (by omega) (by omega)
    have HV := Lib.hid hv
    clear hv
    have hbb : -9223372036854775808 ≤ (4096 + c % 4096) * 2 ^ (c / 4096 % 8 + 3).toNat ∧ (4096 + c % 4096) * 2 ^ (c / 4096 % 8 + 3).toNat ≤ 9223372036854775807 := by rw [HV.out]; omega
    have hw := IntWalk.wrap64_in _ hbb
    clear hbb
    have HW := Lib.hid hw
    clear hw hb
    go_enter Try.func22, Try.ntmps22
    go_wp2
    go_quiet ((go_at_call 24; exact Calls.quiet_of_same (small12 _)))
    go_wp2
    go_ret
    refine ⟨ret_int ?_, nq, rfl⟩
    exact HW.out.trans HV.out
theorem decode12 (c : Int) (w : World) (h0 : 0 ≤ c) (h1 : c < 2 * 32768) : Calls Try.prog 18 #[.int .i64 12, .int .i64 c] w fun e w' => e = .returned (.tuple #[.int .i64 (D16 c), .int .i64 0]) ∧ ∃ n, w' = w.drewN n := by
  go_enter Try.func18, Try.ntmps18
  go_wp2_with (first | (go_at_call 21; refine (half12 _).mono ?_; rintro e w' ⟨rfl, rfl⟩) | (go_at_call 22; refine (dec12 c _ h0 h1).mono ?_; rintro e w' ⟨rfl, n, rfl⟩))
  go_ret2
  exact ⟨rfl, _, rfl⟩
theorem decode12_no (c : Int) (w : World) (h : c < 0 ∨ 2 * 32768 ≤ c) : Calls Try.prog 18 #[.int .i64 12, .int .i64 c] w fun e w' => e = .returned (.tuple #[.int .i64 0, .int .i64 1]) ∧ ∃ n, w' = w.drewN n := by
  rcases h with h | h
  · go_enter Try.func18, Try.ntmps18
    go_wp2_with (first | (go_at_call 21; refine (half12 _).mono ?_; rintro e w' ⟨rfl, rfl⟩))
    go_ret2
    exact ⟨rfl, 0, rfl⟩
  · have h' : ¬ c < 0 := by omega
    go_enter Try.func18, Try.ntmps18
    go_wp2_with (first | (go_at_call 21; refine (half12 _).mono ?_; rintro e w' ⟨rfl, rfl⟩))
    go_ret2
    exact ⟨rfl, 0, rfl⟩
theorem Dec16 (c : Int) (w : World) (h0 : 0 ≤ c) (h1 : c < 2 * 32768) : Calls Try.prog 11 #[.int .i64 c] w fun e w' => e = .returned (.tuple #[.int .i64 (D16 c), .int .i64 0]) ∧ ∃ n, w' = w.drewN n := by
  go_enter Try.func11, Try.ntmps11
  go_wp2_with (go_at_call 18; refine (decode12 c _ h0 h1).mono ?_; rintro e w' ⟨rfl, n, rfl⟩)
  go_ret2
  exact ⟨rfl, n, rfl⟩
theorem Dec16_no (c : Int) (w : World) (h : c < 0 ∨ 2 * 32768 ≤ c) : Calls Try.prog 11 #[.int .i64 c] w fun e w' => e = .returned (.tuple #[.int .i64 0, .int .i64 1]) ∧ ∃ n, w' = w.drewN n := by
  go_enter Try.func11, Try.ntmps11
  go_wp2_with (go_at_call 18; refine (decode12_no c _ h).mono ?_; rintro e w' ⟨rfl, n, rfl⟩)
  go_ret2
  exact ⟨rfl, n, rfl⟩

theorem rdec12 (c : Int) (w : World) (h0 : 0 ≤ c) (h1 : c < 2 * 32768) : Calls Try.prog 19 #[.int .i64 c, .int .i64 12] w fun e w' => e = .returned (.int .i64 (D16 c)) ∧ w' = w := by
  by_cases hc : c < 32768
  · have hD : D16 c = c := by unfold D16; omega
    have HD := Lib.hid hD
    clear hD
    go_enter Try.func19, Try.ntmps19
    go_wp2
    go_loop [5, 6] (fun h i => (h = .int .i64 8 ∧ i = .int .i64 0) ∨ (h = .int .i64 16 ∧ i = .int .i64 1) ∨ (h = .int .i64 32 ∧ i = .int .i64 2) ∨ (h = .int .i64 64 ∧ i = .int .i64 3) ∨ (h = .int .i64 128 ∧ i = .int .i64 4) ∨ (h = .int .i64 256 ∧ i = .int .i64 5) ∨ (h = .int .i64 512 ∧ i = .int .i64 6) ∨ (h = .int .i64 1024 ∧ i = .int .i64 7) ∨ (h = .int .i64 2048 ∧ i = .int .i64 8) ∨ (h = .int .i64 4096 ∧ i = .int .i64 9) ∨ (h = .int .i64 8192 ∧ i = .int .i64 10) ∨ (h = .int .i64 16384 ∧ i = .int .i64 11) ∨ (h = .int .i64 32768 ∧ i = .int .i64 12)) (fun _ i => 12 - (intOf i).toNat)
    case atStart => exact .inl ⟨rfl, rfl⟩
    case round =>
      rcases hrel with ⟨rfl, rfl⟩ | ⟨rfl, rfl⟩ | ⟨rfl, rfl⟩ | ⟨rfl, rfl⟩ | ⟨rfl, rfl⟩ | ⟨rfl, rfl⟩ | ⟨rfl, rfl⟩ | ⟨rfl, rfl⟩ | ⟨rfl, rfl⟩ | ⟨rfl, rfl⟩ | ⟨rfl, rfl⟩ | ⟨rfl, rfl⟩ | ⟨rfl, rfl⟩
      · go_wp2; go_round
        case rel => exact .inr (.inl ⟨rfl, rfl⟩)
        case measure => simp [intOf]
      · go_wp2; go_round
        case rel => exact .inr (.inr (.inl ⟨rfl, rfl⟩))
        case measure => simp [intOf]
      · go_wp2; go_round
        case rel => exact .inr (.inr (.inr (.inl ⟨rfl, rfl⟩)))
        case measure => simp [intOf]
      · go_wp2; go_round
        case rel => exact .inr (.inr (.inr (.inr (.inl ⟨rfl, rfl⟩))))
        case measure => simp [intOf]
      · go_wp2; go_round
        case rel => exact .inr (.inr (.inr (.inr (.inr (.inl ⟨rfl, rfl⟩)))))
        case measure => simp [intOf]
      · go_wp2; go_round
        case rel => exact .inr (.inr (.inr (.inr (.inr (.inr (.inl ⟨rfl, rfl⟩))))))
        case measure => simp [intOf]
      · go_wp2; go_round
        case rel => exact .inr (.inr (.inr (.inr (.inr (.inr (.inr (.inl ⟨rfl, rfl⟩)))))))
        case measure => simp [intOf]
      · go_wp2; go_round
        case rel => exact .inr (.inr (.inr (.inr (.inr (.inr (.inr (.inr (.inl ⟨rfl, rfl⟩))))))))
        case measure => simp [intOf]
      · go_wp2; go_round
        case rel => exact .inr (.inr (.inr (.inr (.inr (.inr (.inr (.inr (.inr (.inl ⟨rfl, rfl⟩)))))))))
        case measure => simp [intOf]
      · go_wp2; go_round
        case rel => exact .inr (.inr (.inr (.inr (.inr (.inr (.inr (.inr (.inr (.inr (.inl ⟨rfl, rfl⟩))))))))))
        case measure => simp [intOf]
      · go_wp2; go_round
        case rel => exact .inr (.inr (.inr (.inr (.inr (.inr (.inr (.inr (.inr (.inr (.inr (.inl ⟨rfl, rfl⟩)))))))))))
        case measure => simp [intOf]
      · go_wp2; go_round
        case rel => exact .inr (.inr (.inr (.inr (.inr (.inr (.inr (.inr (.inr (.inr (.inr (.inr (⟨rfl, rfl⟩))))))))))))
        case measure => simp [intOf]
      · go_wp2
        go_ret
        exact ⟨ret_int HD.out.symm, rfl⟩
  · have hv := dval12 c (by omega) h1
    have HV := Lib.hid hv
    clear hv
    have k5 : 0 ≤ c / 4096 % 8 := by omega
    have k6 : c / 4096 % 8 ≤ 7 := by omega
    have hc' : ¬ c < 32768 := hc
    clear hc
    have hd : decide (c < 32768) = false := by simp; omega
    go_enter Try.func19, Try.ntmps19
    go_wp2
    go_loop [5, 6] (fun h i => (h = .int .i64 8 ∧ i = .int .i64 0) ∨ (h = .int .i64 16 ∧ i = .int .i64 1) ∨ (h = .int .i64 32 ∧ i = .int .i64 2) ∨ (h = .int .i64 64 ∧ i = .int .i64 3) ∨ (h = .int .i64 128 ∧ i = .int .i64 4) ∨ (h = .int .i64 256 ∧ i = .int .i64 5) ∨ (h = .int .i64 512 ∧ i = .int .i64 6) ∨ (h = .int .i64 1024 ∧ i = .int .i64 7) ∨ (h = .int .i64 2048 ∧ i = .int .i64 8) ∨ (h = .int .i64 4096 ∧ i = .int .i64 9) ∨ (h = .int .i64 8192 ∧ i = .int .i64 10) ∨ (h = .int .i64 16384 ∧ i = .int .i64 11) ∨ (h = .int .i64 32768 ∧ i = .int .i64 12)) (fun _ i => 12 - (intOf i).toNat)
    case atStart => exact .inl ⟨rfl, rfl⟩
    case round =>
      rcases hrel with ⟨rfl, rfl⟩ | ⟨rfl, rfl⟩ | ⟨rfl, rfl⟩ | ⟨rfl, rfl⟩ | ⟨rfl, rfl⟩ | ⟨rfl, rfl⟩ | ⟨rfl, rfl⟩ | ⟨rfl, rfl⟩ | ⟨rfl, rfl⟩ | ⟨rfl, rfl⟩ | ⟨rfl, rfl⟩ | ⟨rfl, rfl⟩ | ⟨rfl, rfl⟩
      · go_wp2; go_round
        case rel => exact .inr (.inl ⟨rfl, rfl⟩)
        case measure => simp [intOf]
      · go_wp2; go_round
        case rel => exact .inr (.inr (.inl ⟨rfl, rfl⟩))
        case measure => simp [intOf]
      · go_wp2; go_round
        case rel => exact .inr (.inr (.inr (.inl ⟨rfl, rfl⟩)))
        case measure => simp [intOf]
      · go_wp2; go_round
        case rel => exact .inr (.inr (.inr (.inr (.inl ⟨rfl, rfl⟩))))
        case measure => simp [intOf]
      · go_wp2; go_round
        case rel => exact .inr (.inr (.inr (.inr (.inr (.inl ⟨rfl, rfl⟩)))))
        case measure => simp [intOf]
      · go_wp2; go_round
        case rel => exact .inr (.inr (.inr (.inr (.inr (.inr (.inl ⟨rfl, rfl⟩))))))
        case measure => simp [intOf]
      · go_wp2; go_round
        case rel => exact .inr (.inr (.inr (.inr (.inr (.inr (.inr (.inl ⟨rfl, rfl⟩)))))))
        case measure => simp [intOf]
      · go_wp2; go_round
        case rel => exact .inr (.inr (.inr (.inr (.inr (.inr (.inr (.inr (.inl ⟨rfl, rfl⟩))))))))
        case measure => simp [intOf]
      · go_wp2; go_round
        case rel => exact .inr (.inr (.inr (.inr (.inr (.inr (.inr (.inr (.inr (.inl ⟨rfl, rfl⟩)))))))))
        case measure => simp [intOf]
      · go_wp2; go_round
        case rel => exact .inr (.inr (.inr (.inr (.inr (.inr (.inr (.inr (.inr (.inr (.inl ⟨rfl, rfl⟩))))))))))
        case measure => simp [intOf]
      · go_wp2; go_round
        case rel => exact .inr (.inr (.inr (.inr (.inr (.inr (.inr (.inr (.inr (.inr (.inr (.inl ⟨rfl, rfl⟩)))))))))))
        case measure => simp [intOf]
      · go_wp2; go_round
        case rel => exact .inr (.inr (.inr (.inr (.inr (.inr (.inr (.inr (.inr (.inr (.inr (.inr (⟨rfl, rfl⟩))))))))))))
        case measure => simp [intOf]
      · go_wp2
        go_loop [8, 9] (fun n i => ∃ (k : Nat) (v : Int), i = .int .i64 k ∧ n = .int .i64 v ∧ k ≤ (c / 4096 % 8 + 3).toNat ∧ 0 ≤ v ∧ v ≤ 2 * 4096 * 1024 ∧ Hid (v = (4096 + c % 4096) * 2 ^ k)) (fun _ i => 12 - (intOf i).toNat)
        case atStart => exact ⟨0, _, rfl, rfl, by omega, by omega, by omega, by show _ = _; simp; omega⟩
        case round =>
          obtain ⟨k, v, rfl, rfl, hk, hv0, hv1, HK⟩ := hrel
          by_cases hlt : (k : Int) < c / 4096 % 8 + 3
          · have hv2 := pow_room k v (4096 + c % 4096) (2 * 4096) (by omega) (by omega) HK.out (by omega)
            go_wp2
            go_round
            case rel => exact ⟨k + 1, 2 * v, by go_num, rfl, by omega, by omega, by omega, by show _ = _; rw [HK.out, Int.pow_succ]; ac_rfl⟩
            case measure => simp [intOf]; omega
          · have hke : k = (c / 4096 % 8 + 3).toNat := by omega
            have HE := Lib.hid hke
            clear hke
            go_wp2
            go_ret
            exact ⟨ret_int (by rw [HK.out, HE.out]; exact HV.out), rfl⟩

theorem enc12_low (n : Int) (w : World) (h1 : n < 32768) : Calls Try.prog 23 #[.int .i64 12, .int .i64 n] w fun e w' => e = .returned (.int .i64 (E16 n)) ∧ ∃ k, w' = w.drewN k := by
  have hD : E16 n = n := by unfold E16; omega
  have HD := Lib.hid hD
  clear hD
  go_enter Try.func23, Try.ntmps23
  go_wp2_with (go_at_call 21; refine (half12 _).mono ?_; rintro e w' ⟨rfl, rfl⟩)
  go_ret
  exact ⟨ret_int HD.out.symm, 0, rfl⟩
theorem enc12_high (n : Int) (w : World) (h0 : 32768 * 256 ≤ n) (h1 : n ≤ 9223372036854775807) : Calls Try.prog 23 #[.int .i64 12, .int .i64 n] w fun e w' => e = .returned (.int .i64 (E16 n)) ∧ ∃ k, w' = w.drewN k := by
  have hD : E16 n = 2 * 32768 - 1 := by unfold E16; omega
  have HD := Lib.hid hD
  clear hD
  have hg := bitLen_ge n.toNat (12 + 11) (by omega) (by omega)
  have hl := Lib.bitLen_le n.toNat 64 (by omega) (by omega)
  have hb : 12 + 12 ≤ ((Lib.bitLen n.toNat : Nat) : Int) := by omega
  have hb' : ((Lib.bitLen n.toNat : Nat) : Int) ≤ 64 := by omega
  have hn : ¬ n < 32768 := by omega
  have hn0 : 0 ≤ n := by omega
  have hn1 : n ≤ 18446744073709551615 := by omega
  clear hg hl
  go_enter Try.func23, Try.ntmps23
  go_wp2_with (first | (go_at_call 21; refine (half12 _).mono ?_; rintro e w' ⟨rfl, rfl⟩) | (go_at_call 25; refine (len n _ hn0 hn1).mono ?_; rintro e w' ⟨rfl, rfl⟩))
  go_ret
  exact ⟨ret_int HD.out.symm, 0, rfl⟩

theorem enc12_0 (n : Int) (w : World) (h0 : 32768 ≤ n) (h1 : n < 2 * 32768) : Calls Try.prog 23 #[.int .i64 12, .int .i64 n] w fun e w' => e = .returned (.int .i64 (E16 n)) ∧ ∃ k, w' = w.drewN k := by
  have hD : 32768 + n / 8 % 4096 = E16 n := by unfold E16; omega
  have HD := Lib.hid hD
  clear hD
  have HL := Lib.hid (bitLen_is n.toNat 15 (by omega) (by omega) (by omega))
  have k1 : bits .and .i64 (n / 8) 4095 = n / 8 % 4096 := i64_mask (n / 8) 12 4095 (by decide) (by omega) (by omega) (by omega)
  have k2 : bits .or .i64 32768 (n / 8 % 4096) = 32768 + n / 8 % 4096 := i64_join _ _ 12 (by omega) (by omega) (by omega) (by omega) (by omega) (by omega)
  have k3 : bits .or .i64 32768 0 = 32768 := by decide
  have k4 : bits .or .i64 32768 (IntKind.i64.wrap 0) = 32768 := by decide
  have k0 : IntKind.i64.wrap 4095 = 4095 := IntWalk.i64_in _ (by omega)
  have k6 : IntKind.i64.wrap 3 = 3 := IntWalk.i64_in _ (by omega)
  have hn : ¬ n < 32768 := by omega
  have hn0 : 0 ≤ n := by omega
  have hn1 : n ≤ 18446744073709551615 := by omega
  go_enter Try.func23, Try.ntmps23
  go_wp2_with (first | (go_at_call 21; refine (half12 _).mono ?_; rintro e w' ⟨rfl, rfl⟩) | (go_at_call 25; refine (len n _ hn0 hn1).mono ?_; rw [HL.out]; rintro e w' ⟨rfl, rfl⟩))
  go_quiet ((first | (go_at_call 21; exact Calls.quiet_of_same (half12 _)) | (go_at_call 24; exact Calls.quiet_of_same (small12 _))))
  go_wp2
  go_ret
  exact ⟨ret_int HD.out, nq, rfl⟩

theorem enc12_1 (n : Int) (w : World) (h0 : 65536 ≤ n) (h1 : n < 2 * 65536) : Calls Try.prog 23 #[.int .i64 12, .int .i64 n] w fun e w' => e = .returned (.int .i64 (E16 n)) ∧ ∃ k, w' = w.drewN k := by
  have hD : 36864 + n / 16 % 4096 = E16 n := by unfold E16; omega
  have HD := Lib.hid hD
  clear hD
  have HL := Lib.hid (bitLen_is n.toNat 16 (by omega) (by omega) (by omega))
  have k1 : bits .and .i64 (n / 16) 4095 = n / 16 % 4096 := i64_mask (n / 16) 12 4095 (by decide) (by omega) (by omega) (by omega)
  have k2 : bits .or .i64 36864 (n / 16 % 4096) = 36864 + n / 16 % 4096 := i64_join _ _ 12 (by omega) (by omega) (by omega) (by omega) (by omega) (by omega)
  have k3 : bits .or .i64 32768 4096 = 36864 := by decide
  have k4 : bits .or .i64 32768 (IntKind.i64.wrap 4096) = 36864 := by decide
  have k0 : IntKind.i64.wrap 4095 = 4095 := IntWalk.i64_in _ (by omega)
  have k6 : IntKind.i64.wrap 4 = 4 := IntWalk.i64_in _ (by omega)
  have hn : ¬ n < 32768 := by omega
  have hn0 : 0 ≤ n := by omega
  have hn1 : n ≤ 18446744073709551615 := by omega
  go_enter Try.func23, Try.ntmps23
  go_wp2_with (first | (go_at_call 21; refine (half12 _).mono ?_; rintro e w' ⟨rfl, rfl⟩) | (go_at_call 25; refine (len n _ hn0 hn1).mono ?_; rw [HL.out]; rintro e w' ⟨rfl, rfl⟩))
  go_quiet ((first | (go_at_call 21; exact Calls.quiet_of_same (half12 _)) | (go_at_call 24; exact Calls.quiet_of_same (small12 _))))
  go_wp2
  go_ret
  exact ⟨ret_int HD.out, nq, rfl⟩

theorem enc12_2 (n : Int) (w : World) (h0 : 131072 ≤ n) (h1 : n < 2 * 131072) : Calls Try.prog 23 #[.int .i64 12, .int .i64 n] w fun e w' => e = .returned (.int .i64 (E16 n)) ∧ ∃ k, w' = w.drewN k := by
  have hD : 40960 + n / 32 % 4096 = E16 n := by unfold E16; omega
  have HD := Lib.hid hD
  clear hD
  have HL := Lib.hid (bitLen_is n.toNat 17 (by omega) (by omega) (by omega))
  have k1 : bits .and .i64 (n / 32) 4095 = n / 32 % 4096 := i64_mask (n / 32) 12 4095 (by decide) (by omega) (by omega) (by omega)
  have k2 : bits .or .i64 40960 (n / 32 % 4096) = 40960 + n / 32 % 4096 := i64_join _ _ 12 (by omega) (by omega) (by omega) (by omega) (by omega) (by omega)
  have k3 : bits .or .i64 32768 8192 = 40960 := by decide
  have k4 : bits .or .i64 32768 (IntKind.i64.wrap 8192) = 40960 := by decide
  have k0 : IntKind.i64.wrap 4095 = 4095 := IntWalk.i64_in _ (by omega)
  have k6 : IntKind.i64.wrap 5 = 5 := IntWalk.i64_in _ (by omega)
  have hn : ¬ n < 32768 := by omega
  have hn0 : 0 ≤ n := by omega
  have hn1 : n ≤ 18446744073709551615 := by omega
  go_enter Try.func23, Try.ntmps23
  go_wp2_with (first | (go_at_call 21; refine (half12 _).mono ?_; rintro e w' ⟨rfl, rfl⟩) | (go_at_call 25; refine (len n _ hn0 hn1).mono ?_; rw [HL.out]; rintro e w' ⟨rfl, rfl⟩))
  go_quiet ((first | (go_at_call 21; exact Calls.quiet_of_same (half12 _)) | (go_at_call 24; exact Calls.quiet_of_same (small12 _))))
  go_wp2
  go_ret
  exact ⟨ret_int HD.out, nq, rfl⟩

theorem enc12_3 (n : Int) (w : World) (h0 : 262144 ≤ n) (h1 : n < 2 * 262144) : Calls Try.prog 23 #[.int .i64 12, .int .i64 n] w fun e w' => e = .returned (.int .i64 (E16 n)) ∧ ∃ k, w' = w.drewN k := by
  have hD : 45056 + n / 64 % 4096 = E16 n := by unfold E16; omega
  have HD := Lib.hid hD
  clear hD
  have HL := Lib.hid (bitLen_is n.toNat 18 (by omega) (by omega) (by omega))
  have k1 : bits .and .i64 (n / 64) 4095 = n / 64 % 4096 := i64_mask (n / 64) 12 4095 (by decide) (by omega) (by omega) (by omega)
  have k2 : bits .or .i64 45056 (n / 64 % 4096) = 45056 + n / 64 % 4096 := i64_join _ _ 12 (by omega) (by omega) (by omega) (by omega) (by omega) (by omega)
  have k3 : bits .or .i64 32768 12288 = 45056 := by decide
  have k4 : bits .or .i64 32768 (IntKind.i64.wrap 12288) = 45056 := by decide
  have k0 : IntKind.i64.wrap 4095 = 4095 := IntWalk.i64_in _ (by omega)
  have k6 : IntKind.i64.wrap 6 = 6 := IntWalk.i64_in _ (by omega)
  have hn : ¬ n < 32768 := by omega
  have hn0 : 0 ≤ n := by omega
  have hn1 : n ≤ 18446744073709551615 := by omega
  go_enter Try.func23, Try.ntmps23
  go_wp2_with (first | (go_at_call 21; refine (half12 _).mono ?_; rintro e w' ⟨rfl, rfl⟩) | (go_at_call 25; refine (len n _ hn0 hn1).mono ?_; rw [HL.out]; rintro e w' ⟨rfl, rfl⟩))
  go_quiet ((first | (go_at_call 21; exact Calls.quiet_of_same (half12 _)) | (go_at_call 24; exact Calls.quiet_of_same (small12 _))))
  go_wp2
  go_ret
  exact ⟨ret_int HD.out, nq, rfl⟩

theorem enc12_4 (n : Int) (w : World) (h0 : 524288 ≤ n) (h1 : n < 2 * 524288) : Calls Try.prog 23 #[.int .i64 12, .int .i64 n] w fun e w' => e = .returned (.int .i64 (E16 n)) ∧ ∃ k, w' = w.drewN k := by
  have hD : 49152 + n / 128 % 4096 = E16 n := by unfold E16; omega
  have HD := Lib.hid hD
  clear hD
  have HL := Lib.hid (bitLen_is n.toNat 19 (by omega) (by omega) (by omega))
  have k1 : bits .and .i64 (n / 128) 4095 = n / 128 % 4096 := i64_mask (n / 128) 12 4095 (by decide) (by omega) (by omega) (by omega)
  have k2 : bits .or .i64 49152 (n / 128 % 4096) = 49152 + n / 128 % 4096 := i64_join _ _ 12 (by omega) (by omega) (by omega) (by omega) (by omega) (by omega)
  have k3 : bits .or .i64 32768 16384 = 49152 := by decide
  have k4 : bits .or .i64 32768 (IntKind.i64.wrap 16384) = 49152 := by decide
  have k0 : IntKind.i64.wrap 4095 = 4095 := IntWalk.i64_in _ (by omega)
  have k6 : IntKind.i64.wrap 7 = 7 := IntWalk.i64_in _ (by omega)
  have hn : ¬ n < 32768 := by omega
  have hn0 : 0 ≤ n := by omega
  have hn1 : n ≤ 18446744073709551615 := by omega
  go_enter Try.func23, Try.ntmps23
  go_wp2_with (first | (go_at_call 21; refine (half12 _).mono ?_; rintro e w' ⟨rfl, rfl⟩) | (go_at_call 25; refine (len n _ hn0 hn1).mono ?_; rw [HL.out]; rintro e w' ⟨rfl, rfl⟩))
  go_quiet ((first | (go_at_call 21; exact Calls.quiet_of_same (half12 _)) | (go_at_call 24; exact Calls.quiet_of_same (small12 _))))
  go_wp2
  go_ret
  exact ⟨ret_int HD.out, nq, rfl⟩

theorem enc12_5 (n : Int) (w : World) (h0 : 1048576 ≤ n) (h1 : n < 2 * 1048576) : Calls Try.prog 23 #[.int .i64 12, .int .i64 n] w fun e w' => e = .returned (.int .i64 (E16 n)) ∧ ∃ k, w' = w.drewN k := by
  have hD : 53248 + n / 256 % 4096 = E16 n := by unfold E16; omega
  have HD := Lib.hid hD
  clear hD
  have HL := Lib.hid (bitLen_is n.toNat 20 (by omega) (by omega) (by omega))
  have k1 : bits .and .i64 (n / 256) 4095 = n / 256 % 4096 := i64_mask (n / 256) 12 4095 (by decide) (by omega) (by omega) (by omega)
  have k2 : bits .or .i64 53248 (n / 256 % 4096) = 53248 + n / 256 % 4096 := i64_join _ _ 12 (by omega) (by omega) (by omega) (by omega) (by omega) (by omega)
  have k3 : bits .or .i64 32768 20480 = 53248 := by decide
  have k4 : bits .or .i64 32768 (IntKind.i64.wrap 20480) = 53248 := by decide
  have k0 : IntKind.i64.wrap 4095 = 4095 := IntWalk.i64_in _ (by omega)
  have k6 : IntKind.i64.wrap 8 = 8 := IntWalk.i64_in _ (by omega)
  have hn : ¬ n < 32768 := by omega
  have hn0 : 0 ≤ n := by omega
  have hn1 : n ≤ 18446744073709551615 := by omega
  go_enter Try.func23, Try.ntmps23
  go_wp2_with (first | (go_at_call 21; refine (half12 _).mono ?_; rintro e w' ⟨rfl, rfl⟩) | (go_at_call 25; refine (len n _ hn0 hn1).mono ?_; rw [HL.out]; rintro e w' ⟨rfl, rfl⟩))
  go_quiet ((first | (go_at_call 21; exact Calls.quiet_of_same (half12 _)) | (go_at_call 24; exact Calls.quiet_of_same (small12 _))))
  go_wp2
  go_ret
  exact ⟨ret_int HD.out, nq, rfl⟩

theorem enc12_6 (n : Int) (w : World) (h0 : 2097152 ≤ n) (h1 : n < 2 * 2097152) : Calls Try.prog 23 #[.int .i64 12, .int .i64 n] w fun e w' => e = .returned (.int .i64 (E16 n)) ∧ ∃ k, w' = w.drewN k := by
  have hD : 57344 + n / 512 % 4096 = E16 n := by unfold E16; omega
  have HD := Lib.hid hD
  clear hD
  have HL := Lib.hid (bitLen_is n.toNat 21 (by omega) (by omega) (by omega))
  have k1 : bits .and .i64 (n / 512) 4095 = n / 512 % 4096 := i64_mask (n / 512) 12 4095 (by decide) (by omega) (by omega) (by omega)
  have k2 : bits .or .i64 57344 (n / 512 % 4096) = 57344 + n / 512 % 4096 := i64_join _ _ 12 (by omega) (by omega) (by omega) (by omega) (by omega) (by omega)
  have k3 : bits .or .i64 32768 24576 = 57344 := by decide
  have k4 : bits .or .i64 32768 (IntKind.i64.wrap 24576) = 57344 := by decide
  have k0 : IntKind.i64.wrap 4095 = 4095 := IntWalk.i64_in _ (by omega)
  have k6 : IntKind.i64.wrap 9 = 9 := IntWalk.i64_in _ (by omega)
  have hn : ¬ n < 32768 := by omega
  have hn0 : 0 ≤ n := by omega
  have hn1 : n ≤ 18446744073709551615 := by omega
  go_enter Try.func23, Try.ntmps23
  go_wp2_with (first | (go_at_call 21; refine (half12 _).mono ?_; rintro e w' ⟨rfl, rfl⟩) | (go_at_call 25; refine (len n _ hn0 hn1).mono ?_; rw [HL.out]; rintro e w' ⟨rfl, rfl⟩))
  go_quiet ((first | (go_at_call 21; exact Calls.quiet_of_same (half12 _)) | (go_at_call 24; exact Calls.quiet_of_same (small12 _))))
  go_wp2
  go_ret
  exact ⟨ret_int HD.out, nq, rfl⟩

theorem enc12_7 (n : Int) (w : World) (h0 : 4194304 ≤ n) (h1 : n < 2 * 4194304) : Calls Try.prog 23 #[.int .i64 12, .int .i64 n] w fun e w' => e = .returned (.int .i64 (E16 n)) ∧ ∃ k, w' = w.drewN k := by
  have hD : 61440 + n / 1024 % 4096 = E16 n := by unfold E16; omega
  have HD := Lib.hid hD
  clear hD
  have HL := Lib.hid (bitLen_is n.toNat 22 (by omega) (by omega) (by omega))
  have k1 : bits .and .i64 (n / 1024) 4095 = n / 1024 % 4096 := i64_mask (n / 1024) 12 4095 (by decide) (by omega) (by omega) (by omega)
  have k2 : bits .or .i64 61440 (n / 1024 % 4096) = 61440 + n / 1024 % 4096 := i64_join _ _ 12 (by omega) (by omega) (by omega) (by omega) (by omega) (by omega)
  have k3 : bits .or .i64 32768 28672 = 61440 := by decide
  have k4 : bits .or .i64 32768 (IntKind.i64.wrap 28672) = 61440 := by decide
  have k0 : IntKind.i64.wrap 4095 = 4095 := IntWalk.i64_in _ (by omega)
  have k6 : IntKind.i64.wrap 10 = 10 := IntWalk.i64_in _ (by omega)
  have hn : ¬ n < 32768 := by omega
  have hn0 : 0 ≤ n := by omega
  have hn1 : n ≤ 18446744073709551615 := by omega
  go_enter Try.func23, Try.ntmps23
  go_wp2_with (first | (go_at_call 21; refine (half12 _).mono ?_; rintro e w' ⟨rfl, rfl⟩) | (go_at_call 25; refine (len n _ hn0 hn1).mono ?_; rw [HL.out]; rintro e w' ⟨rfl, rfl⟩))
  go_quiet ((first | (go_at_call 21; exact Calls.quiet_of_same (half12 _)) | (go_at_call 24; exact Calls.quiet_of_same (small12 _))))
  go_wp2
  go_ret
  exact ⟨ret_int HD.out, nq, rfl⟩

theorem enc12 (n : Int) (w : World) (h0 : 0 ≤ n) (h1 : n ≤ 9223372036854775807) : Calls Try.prog 23 #[.int .i64 12, .int .i64 n] w fun e w' => e = .returned (.int .i64 (E16 n)) ∧ ∃ k, w' = w.drewN k := by
  by_cases a : n < 32768
  · exact enc12_low n w a
  by_cases a0 : n < 65536
  · exact enc12_0 n w (by omega) (by omega)
  by_cases a1 : n < 131072
  · exact enc12_1 n w (by omega) (by omega)
  by_cases a2 : n < 262144
  · exact enc12_2 n w (by omega) (by omega)
  by_cases a3 : n < 524288
  · exact enc12_3 n w (by omega) (by omega)
  by_cases a4 : n < 1048576
  · exact enc12_4 n w (by omega) (by omega)
  by_cases a5 : n < 2097152
  · exact enc12_5 n w (by omega) (by omega)
  by_cases a6 : n < 4194304
  · exact enc12_6 n w (by omega) (by omega)
  by_cases a7 : n < 8388608
  · exact enc12_7 n w (by omega) (by omega)
  exact enc12_high n w (by omega) h1
theorem encode12 (n : Int) (w : World) (h0 : 0 ≤ n) (h1 : n ≤ 9223372036854775807) : Calls Try.prog 20 #[.int .i64 12, .int .i64 n] w fun e w' => e = .returned (.tuple #[.int .i64 (E16 n), .int .i64 0]) ∧ ∃ n, w' = w.drewN n := by
  go_enter Try.func20, Try.ntmps20
  go_wp2_with (go_at_call 23; refine (enc12 n _ h0 h1).mono ?_; rintro e w' ⟨rfl, k, rfl⟩)
  go_ret2
  exact ⟨rfl, k, rfl⟩
theorem Enc16 (n : Int) (w : World) (h0 : 0 ≤ n) (h1 : n ≤ 9223372036854775807) : Calls Try.prog 16 #[.int .i64 n] w fun e w' => e = .returned (.tuple #[.int .i64 (E16 n), .int .i64 0]) ∧ ∃ n, w' = w.drewN n := by
  go_enter Try.func16, Try.ntmps16
  go_wp2_with (go_at_call 20; refine (encode12 n _ h0 h1).mono ?_; rintro e w' ⟨rfl, k, rfl⟩)
  go_ret2
  exact ⟨rfl, k, rfl⟩
theorem encode12_no (n : Int) (w : World) (h0 : n < 0) : Calls Try.prog 20 #[.int .i64 12, .int .i64 n] w fun e w' => e = .returned (.tuple #[.int .i64 0, .int .i64 1]) ∧ ∃ n, w' = w.drewN n := by
  go_enter Try.func20, Try.ntmps20
  go_wp2
  go_ret2
  exact ⟨rfl, 0, rfl⟩
theorem Enc16_no (n : Int) (w : World) (h0 : n < 0) : Calls Try.prog 16 #[.int .i64 n] w fun e w' => e = .returned (.tuple #[.int .i64 0, .int .i64 1]) ∧ ∃ n, w' = w.drewN n := by
  go_enter Try.func16, Try.ntmps16
  go_wp2_with (go_at_call 20; refine (encode12_no n _ h0).mono ?_; rintro e w' ⟨rfl, k, rfl⟩)
  go_ret2
  exact ⟨rfl, k, rfl⟩
/-! the reference -/
theorem RDec16 (c : Int) (w : World) (h0 : 0 ≤ c) (h1 : c < 2 * 32768) : Calls Try.prog 12 #[.int .i64 c] w fun e w' => e = .returned (.tuple #[.int .i64 (D16 c), .int .i64 0]) ∧ ∃ n, w' = w.drewN n := by
  go_enter Try.func12, Try.ntmps12
  go_wp2_with (go_at_call 19; refine (rdec12 c _ h0 h1).mono ?_; rintro e w' ⟨rfl, rfl⟩)
  go_ret2
  exact ⟨rfl, 0, rfl⟩
theorem RDec16_no (c : Int) (w : World) (h : c < 0 ∨ 2 * 32768 ≤ c) : Calls Try.prog 12 #[.int .i64 c] w fun e w' => e = .returned (.tuple #[.int .i64 0, .int .i64 1]) ∧ ∃ n, w' = w.drewN n := by
  rcases h with h | h
  · go_enter Try.func12, Try.ntmps12
    go_wp2
    go_ret2
    exact ⟨rfl, 0, rfl⟩
  · have h' : ¬ c < 0 := by omega
    go_enter Try.func12, Try.ntmps12
    go_wp2
    go_ret2
    exact ⟨rfl, 0, rfl⟩
theorem REnc16_no (n : Int) (w : World) (h0 : n < 0) : Calls Try.prog 17 #[.int .i64 n] w fun e w' => e = .returned (.tuple #[.int .i64 0, .int .i64 1]) ∧ ∃ n, w' = w.drewN n := by
  go_enter Try.func17, Try.ntmps17
  go_wp2
  go_ret2
  exact ⟨rfl, 0, rfl⟩

theorem REnc8 (n : Int) (w : World) (h0 : 0 ≤ n) : Calls Try.prog 15 #[.int .i64 n] w fun e w' => e = .returned (.tuple #[.int .i64 (E8 n), .int .i64 0]) ∧ ∃ k, w' = w.drewN k := by
  have hE := E8_bd n h0
  go_enter Try.func15, Try.ntmps15
  go_wp2
  go_loop [4] (fun c => ∃ k : Int, c = .int .i64 k ∧ E8 n ≤ k ∧ k ≤ 255) (fun c => (intOf c).toNat)
  case atStart => exact ⟨255, rfl, hE.2, by omega⟩
  case round =>
    obtain ⟨k, rfl, hk0, hk1⟩ := hrel
    by_cases hlt : E8 n < k
    · have ht := E8_top n k h0 (by omega) hk1 hlt
      go_wp2_with (go_at_call 19; refine (rdec4 k _ (by omega) (by omega)).mono ?_; rintro e w' ⟨rfl, rfl⟩)
      go_round
      case rel => exact ⟨k - 1, rfl, by omega, by omega⟩
      case measure => simp [intOf]; omega
    · have hle := E8_le n h0
      have hk : k = E8 n := by omega
      have hn : ¬ n < D8 k := by rw [hk]; omega
      have HK := Lib.hid hk
      clear hk hle
      go_wp2_with (go_at_call 19; refine (rdec4 k _ (by omega) (by omega)).mono ?_; rintro e w' ⟨rfl, rfl⟩)
      go_ret2
      exact ⟨by rw [HK.out]; rfl, 0, rfl⟩
theorem REnc16 (n : Int) (w : World) (h0 : 0 ≤ n) : Calls Try.prog 17 #[.int .i64 n] w fun e w' => e = .returned (.tuple #[.int .i64 (E16 n), .int .i64 0]) ∧ ∃ k, w' = w.drewN k := by
  have hE := E16_bd n h0
  go_enter Try.func17, Try.ntmps17
  go_wp2
  go_loop [4, 5, 6] (fun l h _ => ∃ a b : Int, l = .int .i64 a ∧ h = .int .i64 b ∧ 0 ≤ a ∧ a ≤ E16 n ∧ E16 n < b ∧ b ≤ 65536) (fun l h _ => (intOf h - intOf l).toNat)
  case atStart => exact ⟨0, 65536, rfl, rfl, by omega, by omega, by omega, by omega⟩
  case round =>
    obtain ⟨a, b, rfl, rfl, ha0, ha1, hb0, hb1⟩ := hrel
    by_cases hlt : 1 < b - a
    · by_cases hm : (a + b) / 2 ≤ E16 n
      · have h1 := D16_mono ((a + b) / 2) (E16 n) (by omega) hm (by omega)
        have h2 := E16_le n h0
        have h3 : D16 ((a + b) / 2) ≤ n := by omega
        clear h1 h2
        go_wp2_with (go_at_call 19; refine (rdec12 ((a + b) / 2) _ (by omega) (by omega)).mono ?_; rintro e w' ⟨rfl, rfl⟩)
        go_round
        case rel => exact ⟨(a + b) / 2, b, rfl, rfl, by omega, hm, hb0, hb1⟩
        case measure => simp [intOf]; omega
      · have h3 := E16_top n ((a + b) / 2) h0 (by omega) (by omega) (by omega)
        have h4 : ¬ D16 ((a + b) / 2) ≤ n := by omega
        clear h3
        go_wp2_with (go_at_call 19; refine (rdec12 ((a + b) / 2) _ (by omega) (by omega)).mono ?_; rintro e w' ⟨rfl, rfl⟩)
        go_round
        case rel => exact ⟨a, (a + b) / 2, rfl, rfl, ha0, ha1, by omega, by omega⟩
        case measure => simp [intOf]; omega
    · have hk : a = E16 n := by omega
      have HK := Lib.hid hk
      clear hk
      go_wp2
      go_ret2
      exact ⟨by rw [HK.out]; rfl, 0, rfl⟩
end Code07
end Go.Proofs.Ytggmhpfmnmmcmaa
