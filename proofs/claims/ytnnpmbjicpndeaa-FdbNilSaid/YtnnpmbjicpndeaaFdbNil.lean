/-
  The walk of FdbNil.
-/
import Derived.Test.YtnnpmbjicpndeaaFdbOpen
namespace Go.Proofs.Ytnnpmbjicpndeaa
set_option linter.unusedVariables false
set_option linter.unusedSimpArgs false
open Go.RowKit Go.Maps
namespace Fdb
open Mp FdbC
set_option maxHeartbeats 4000000 in
set_option maxRecDepth 20000 in
theorem nil_ (o : OpF) (w : World) : Calls Try.prog 6 #[.agg (cellsOp o).toArray] w fun e w' => e = .returned (.bool true) ∧ Below w.heap.size w w' := by
  obtain ⟨d, v, m, port, now⟩ := o
  show Calls Try.prog 6 #[.agg #[.int .i64 d, .int .i64 v, .string m, .int .i64 port, .int .i64 now]] w fun e w' => e = .returned (.bool true) ∧ Below w.heap.size w w'
  go_enter Try.func6, Try.ntmps6
  go_wp2
  go_quiet (fail)
  go_wp2_with fail
  refine (new_bad _ 0 0 (by omega)).mono ?_
  rintro e w1 ⟨rfl, rfl⟩
  go_wp2_with fail
  refine (look_nil _ v m now).mono ?_
  rintro e w2 ⟨rfl, b2⟩
  simp only [tell]
  go_wp2_with fail
  refine (learn_nil _ v m port now).mono ?_
  rintro e w3 ⟨rfl, rfl⟩
  go_wp2_with fail
  refine (expire_nil _ now).mono ?_
  rintro e w4 ⟨rfl, b4⟩
  go_wp2_with fail
  refine (flush_nil _ port).mono ?_
  rintro e w5 ⟨rfl, b5⟩
  go_wp2_with fail
  refine (entries_nil _).mono ?_
  rintro e w6 ⟨rfl, b6⟩
  go_wp2_with fail
  refine (live_ _).mono ?_
  rintro e w7 ⟨rfl, b7⟩
  go_wp2
  go_ret
  have b1 := below_drewN ((Below.refl w.heap.size w).alloc (Nat.le_refl _) (.cells #[.int .i64 d, .int .i64 v, .string m, .int .i64 port, .int .i64 now] 30)) nq
  have z1 := b1.size
  have z2 := Nat.le_trans z1 b2.size
  have z4 := Nat.le_trans z2 b4.size
  have z5 := Nat.le_trans z4 b5.size
  have z6 := Nat.le_trans z5 b6.size
  exact ⟨rfl, ((((b1.trans (b2.mono z1)).trans (b4.mono z2)).trans (b5.mono z4)).trans (b6.mono z5)).trans (b7.mono z6)⟩
end Fdb
end Go.Proofs.Ytnnpmbjicpndeaa
