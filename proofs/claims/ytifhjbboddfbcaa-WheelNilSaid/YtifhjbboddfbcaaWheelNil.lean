/-
  The walk of WheelNil.
-/
import Derived.Test.YtifhjbboddfbcaaWhlLive
namespace Go.Proofs.Ytifhjbboddfbcaa
set_option linter.unusedVariables false
set_option linter.unusedSimpArgs false
open Go.RowKit Go.Maps
namespace WhlL
open Whl WhlC WhlS
set_option maxHeartbeats 4000000 in
set_option maxRecDepth 20000 in
theorem nil_ (k : ByteArray) (t : Int) (w : World) : Calls Try.prog 8 #[.string k, .int .i64 t] w fun e w' => e = .returned (.bool true) ∧ Below w.heap.size w w' := by
  go_enter Try.func8, Try.ntmps8
  go_wp2_with fail
  refine (new_bad _ (-1) (by omega)).mono ?_
  rintro e w1 ⟨rfl, m1, rfl⟩
  go_wp2_with fail
  refine (at_nil _ k).mono ?_
  rintro e w2 ⟨rfl, rfl⟩
  go_wp2_with fail
  refine (next_nil _).mono ?_
  rintro e w3 ⟨rfl, b3⟩
  go_wp2_with fail
  refine (arm_nil _ k t).mono ?_
  rintro e w4 ⟨rfl, rfl⟩
  go_wp2_with fail
  refine (cancel_nil _ k).mono ?_
  rintro e w5 ⟨rfl, rfl⟩
  go_wp2_with fail
  refine (due_nil _ t).mono ?_
  rintro e w6 ⟨rfl, b6⟩
  go_wp2_with fail
  refine (len_nil _).mono ?_
  rintro e w7 ⟨rfl, rfl⟩
  go_wp2_with fail
  refine (live_ _).mono ?_
  rintro e w8 ⟨rfl, b8⟩
  go_wp2
  go_ret
  have z3 := b3.size
  have z6 := Nat.le_trans z3 b6.size
  exact ⟨rfl, (((below_drewN (Below.refl _ w) m1).trans b3).trans (b6.mono z3)).trans (b8.mono z6)⟩
end WhlL
end Go.Proofs.Ytifhjbboddfbcaa
