/-
  The walks of small functions that the querier calls: within, slices.Contains over three numbers, strings.Trim by one byte.
-/
import Derived.Test.YtdpppljobikjhaaDoorKeep
import Derived.Test.YtdpppljobikjhaaDoorRows
import Derived.WalkKit
import Derived.Outline
import Derived.WalkLawsBesides
import Derived.WalkSpells
import Derived.Lib.Hide
import Derived.LoopTactic
namespace Go.Proofs.YtdpppljobikjhaaDoor
set_option linter.unusedVariables false
set_option linter.unusedSimpArgs false
open Go.RowKit
namespace Q
def inB (n l m : Int) : Bool := decide (l ≤ n) && decide (n ≤ m)
theorem inB_yes {n l m : Int} (h : l ≤ n) (k : n ≤ m) : inB n l m = true := by simp [inB, h, k]
theorem inB_iff {n l m : Int} : inB n l m = true ↔ l ≤ n ∧ n ≤ m := by simp [inB]
theorem inB_no {n l m : Int} : inB n l m = false ↔ n < l ∨ m < n := by
  by_cases h1 : l ≤ n <;> by_cases h2 : n ≤ m <;> simp [inB, h1, h2] <;> omega
theorem ret_bool {a b : Bool} (h : a = b) : Ending.returned (.bool a) = .returned (.bool b) := by rw [h]
theorem within_ (n l m : Int) (w : World) : Calls Tryd.prog 21 #[.int .i64 n, .int .i64 l, .int .i64 m] w fun e w' => e = .returned (.bool (inB n l m)) ∧ w = w' := by
  by_cases h1 : l ≤ n
  · have e : inB n l m = decide (n ≤ m) := by simp [inB, h1]
    have E := Lib.hid e
    go_enter Tryd.func21, Tryd.ntmps21
    go_wp2
    go_ret
    exact ⟨ret_bool E.out.symm, rfl⟩
  · have e : inB n l m = false := by simp [inB, h1]
    have E := Lib.hid e
    clear e
    go_enter Tryd.func21, Tryd.ntmps21
    go_wp2
    go_ret
    exact ⟨ret_bool E.out.symm, rfl⟩
def has3 (a b c v : Int) : Bool := v == a || v == b || v == c
theorem index_no (g : Nat) (a b c v : Int) (w : World) (h0 : w.cell? ⟨g, 0, none⟩ = some (.int .i64 a)) (h1 : w.cell? ⟨g, 1, none⟩ = some (.int .i64 b)) (h2 : w.cell? ⟨g, 2, none⟩ = some (.int .i64 c)) (k0 : (v == a) = false) (k1 : (v == b) = false) (k2 : (v == c) = false) :
    Calls Tryd.prog 32 #[.slice (some ⟨g, 0, none⟩) 3 3, .int .i64 v] w fun e w' => e = .returned (.int .i64 (-1)) ∧ w = w' := by
  go_enter Tryd.func32, Tryd.ntmps32
  go_wp2
  go_loop [8] (fun i => i = .int .i64 0 ∨ i = .int .i64 1 ∨ i = .int .i64 2 ∨ i = .int .i64 3) (fun i => 3 - (intOf i).toNat)
  case atStart => exact .inl rfl
  case round =>
    rcases hrel with rfl | rfl | rfl | rfl
    · go_wp2; go_round
      case rel => simp
      case measure => simp [intOf]
    · go_wp2; go_round
      case rel => simp
      case measure => simp [intOf]
    · go_wp2; go_round
      case rel => simp
      case measure => simp [intOf]
    · go_wp2; go_ret
      exact ⟨rfl, rfl⟩
def SomePos (w : World) (e : Ending) (w' : World) : Prop := ∃ i : Int, 0 ≤ i ∧ e = .returned (.int .i64 i) ∧ w = w'
theorem index_yes (g : Nat) (a b c v : Int) (w : World) (h0 : w.cell? ⟨g, 0, none⟩ = some (.int .i64 a)) (h1 : w.cell? ⟨g, 1, none⟩ = some (.int .i64 b)) (h2 : w.cell? ⟨g, 2, none⟩ = some (.int .i64 c)) (k : has3 a b c v = true) :
    Calls Tryd.prog 32 #[.slice (some ⟨g, 0, none⟩) 3 3, .int .i64 v] w (SomePos w) := by
  have K := Lib.hid k
  clear k
  go_enter Tryd.func32, Tryd.ntmps32
  go_wp2
  go_loop [8] (fun i => i = .int .i64 0 ∨ (i = .int .i64 1 ∧ (v == a) = false) ∨ (i = .int .i64 2 ∧ (v == a) = false ∧ (v == b) = false)) (fun i => 3 - (intOf i).toNat)
  case atStart => exact .inl rfl
  case round =>
    rcases hrel with rfl | ⟨rfl, e0⟩ | ⟨rfl, e0, e1⟩
    · cases e0 : v == a
      · go_wp2; go_round
        case rel => simp [e0]
        case measure => simp [intOf]
      · go_wp2; go_ret
        exact ⟨0, by omega, rfl, rfl⟩
    · cases e1 : v == b
      · go_wp2; go_round
        case rel => simp [e0, e1]
        case measure => simp [intOf]
      · go_wp2; go_ret
        exact ⟨1, by omega, rfl, rfl⟩
    · have e2 : (v == c) = true := by have := K.out; simpa [has3, e0, e1] using this
      go_wp2; go_ret
      exact ⟨2, by omega, rfl, rfl⟩
theorem contains_ (g : Nat) (a b c v : Int) (w : World) (h0 : w.cell? ⟨g, 0, none⟩ = some (.int .i64 a)) (h1 : w.cell? ⟨g, 1, none⟩ = some (.int .i64 b)) (h2 : w.cell? ⟨g, 2, none⟩ = some (.int .i64 c)) :
    Calls Tryd.prog 20 #[.slice (some ⟨g, 0, none⟩) 3 3, .int .i64 v] w fun e w' => e = .returned (.bool (has3 a b c v)) ∧ w = w' := by
  by_cases k : has3 a b c v = true
  · rw [k]
    go_enter Tryd.func20, Tryd.ntmps20
    go_wp2_with fail
    refine (index_yes g a b c v _ h0 h1 h2 k).mono ?_
    rintro e w' ⟨i, hi, rfl, rfl⟩
    go_wp2
    go_ret
    exact ⟨rfl, rfl⟩
  · have k' : has3 a b c v = false := by simpa using k
    rw [k']
    simp [has3] at k
    obtain ⟨⟨k0, k1⟩, k2⟩ := k
    go_enter Tryd.func20, Tryd.ntmps20
    go_wp2_with fail
    refine (index_no g a b c v _ h0 h1 h2 (by simp [k0]) (by simp [k1]) (by simp [k2])).mono ?_
    rintro e w' ⟨rfl, rfl⟩
    go_wp2
    go_ret
    exact ⟨rfl, rfl⟩
end Q
end Go.Proofs.YtdpppljobikjhaaDoor
