/-
  The methods of a part that is none, and the walk of RstpNil.
-/
import Derived.Test.YtlfoaefilonidaaRstpLive
namespace Go.Proofs.Ytlfoaefilonidaa
set_option linter.unusedVariables false
set_option linter.unusedSimpArgs false
open Go.RowKit
namespace Rstp
open Go.Proofs.Ytlfoaefilonidaa.Prio
structure OpR where
  kind : Int
  port : Int
  up : Bool
  b : Bp
  now : Int
def cellsOp (o : OpR) : List Value := [.int .i64 o.kind, .int .i64 o.port, .bool o.up, .int .u64 o.b.v.root, .int .i64 o.b.v.cost, .int .u64 o.b.v.bridge, .int .i64 o.b.v.port, .int .i64 o.b.age, .bool o.b.chg, .bool o.b.lrn, .bool o.b.kf, .int .i64 o.now]
def DidNil (w : World) (e : Ending) (w' : World) : Prop := e = .returned (.tuple #[]) ∧ Below w.heap.size w w'
def DidSame (w : World) (e : Ending) (w' : World) : Prop := e = .returned (.tuple #[]) ∧ w = w'
theorem link_nil (w : World) (i : Int) (up : Bool) (now : Int) :
    Calls Try.prog 10 #[.pointer none, .int .i64 i, .bool up, .int .i64 now] w (DidSame w) := by
  go_enter Try.func10, Try.ntmps10
  go_wp2_with (go_at_call 25; refine (at_nil _ i now).mono ?_; rintro e w' ⟨rfl, rfl⟩)
  go_end0
  exact ⟨rfl, rfl⟩
theorem hear_nil (w : World) (i : Int) (b : Bp) (now : Int) :
    Calls Try.prog 17 #[.pointer none, .int .i64 i, .agg #[.int .u64 b.v.root, .int .i64 b.v.cost, .int .u64 b.v.bridge, .int .i64 b.v.port, .int .i64 b.age, .bool b.chg, .bool b.lrn, .bool b.kf], .int .i64 now] w (DidNil w) := by
  go_enter Try.func17, Try.ntmps17
  go_wp2_with (go_at_call 25; refine (at_nil _ i now).mono ?_; rintro e w' ⟨rfl, rfl⟩)
  go_end0
  exact ⟨rfl, (Below.refl _ _).alloc (Nat.le_refl _) _⟩
theorem tick_nil (w : World) (now : Int) :
    Calls Try.prog 11 #[.pointer none, .int .i64 now] w fun e w' => e = .returned (.slice none 0 0) ∧ w = w' := by
  go_enter Try.func11, Try.ntmps11
  go_wp2_with (go_at_call 25; refine (at_nil _ 0 now).mono ?_; rintro e w' ⟨rfl, rfl⟩)
  go_ret
  exact ⟨rfl, rfl⟩
theorem role_nil (w : World) (i : Int) :
    Calls Try.prog 18 #[.pointer none, .int .i64 i] w fun e w' => e = .returned (.int .i64 0) ∧ w = w' := by
  go_enter Try.func18, Try.ntmps18
  go_wp2_with (go_at_call 25; refine (at_nil _ i 0).mono ?_; rintro e w' ⟨rfl, rfl⟩)
  go_ret
  exact ⟨rfl, rfl⟩
theorem fwd_nil (w : World) (i : Int) :
    Calls Try.prog 15 #[.pointer none, .int .i64 i] w fun e w' => e = .returned (.bool false) ∧ w = w' := by
  go_enter Try.func15, Try.ntmps15
  go_wp2_with (go_at_call 25; refine (at_nil _ i 0).mono ?_; rintro e w' ⟨rfl, rfl⟩)
  go_ret
  exact ⟨rfl, rfl⟩
theorem learns_nil (w : World) (i : Int) :
    Calls Try.prog 16 #[.pointer none, .int .i64 i] w fun e w' => e = .returned (.bool false) ∧ ∃ n, w' = w.drewN n := by
  go_enter Try.func16, Try.ntmps16
  go_wp2_with (go_at_call 25; refine (at_nil _ i 0).mono ?_; rintro e w' ⟨rfl, rfl⟩)
  go_quiet (fail)
  go_wp2
  go_ret
  exact ⟨rfl, ⟨_, rfl⟩⟩
theorem root_nil (w : World) :
    Calls Try.prog 12 #[.pointer none] w fun e w' => e = .returned (.agg #[.int .u64 0, .int .i64 0, .int .u64 0, .int .i64 0]) ∧ Below w.heap.size w w' := by
  go_enter Try.func12, Try.ntmps12
  go_wp2
  refine bodyPost_ret (v := .agg #[.int .u64 0, .int .i64 0, .int .u64 0, .int .i64 0]) (by simp [results, Try.results12, go_sem]) rfl ⟨rfl, ?_⟩
  repeat (first | exact Below.refl _ _ | apply Below.drew | (refine Below.alloc ?_ (by simp <;> omega) _) | (refine Below.setCell ?_ (by simp <;> omega) _))
theorem changed_nil (w : World) :
    Calls Try.prog 23 #[.pointer none] w fun e w' => e = .returned (.int .i64 (-1)) ∧ w = w' := by
  go_enter Try.func23, Try.ntmps23
  go_wp2
  go_ret
  exact ⟨rfl, rfl⟩
set_option maxRecDepth 100000 in
set_option maxHeartbeats 4000000 in
theorem nil_ (o : OpR) (w : World) : Calls Try.prog 6 #[.agg #[.int .i64 o.kind, .int .i64 o.port, .bool o.up, .int .u64 o.b.v.root, .int .i64 o.b.v.cost, .int .u64 o.b.v.bridge, .int .i64 o.b.v.port, .int .i64 o.b.age, .bool o.b.chg, .bool o.b.lrn, .bool o.b.kf, .int .i64 o.now]] w fun e w' => e = .returned (.bool true) ∧ Below w.heap.size w w' := by
  go_enter Try.func6, Try.ntmps6
  go_wp2_with fail
  refine (new_no 1 _ 0 0 [] _ Reads.none_ (by kernel_rfl)).mono ?_
  rintro e w1 ⟨rfl, hb1⟩
  have hsz := hb1.size
  have hblk := (Blk.new w 46 (cellsOp o).toArray).below hb1 (by simp)
  have d1 : w1.cell? ⟨w.heap.size, 1, none⟩ = some (.int .i64 o.port) := hblk.cell 1
  have d2 : w1.cell? ⟨w.heap.size, 2, none⟩ = some (.bool o.up) := hblk.cell 2
  have d3 : w1.cell? ⟨w.heap.size, 3, none⟩ = some (.int .u64 o.b.v.root) := hblk.cell 3
  have d4 : w1.cell? ⟨w.heap.size, 3 + 1, none⟩ = some (.int .i64 o.b.v.cost) := hblk.cell 4
  have d5 : w1.cell? ⟨w.heap.size, 3 + 2, none⟩ = some (.int .u64 o.b.v.bridge) := hblk.cell 5
  have d6 : w1.cell? ⟨w.heap.size, 3 + 3, none⟩ = some (.int .i64 o.b.v.port) := hblk.cell 6
  have d7 : w1.cell? ⟨w.heap.size, 3 + 4, none⟩ = some (.int .i64 o.b.age) := hblk.cell 7
  have d8 : w1.cell? ⟨w.heap.size, 3 + 5, none⟩ = some (.bool o.b.chg) := hblk.cell 8
  have d9 : w1.cell? ⟨w.heap.size, 3 + 6, none⟩ = some (.bool o.b.lrn) := hblk.cell 9
  have d10 : w1.cell? ⟨w.heap.size, 3 + 7, none⟩ = some (.bool o.b.kf) := hblk.cell 10
  have d11 : w1.cell? ⟨w.heap.size, 11, none⟩ = some (.int .i64 o.now) := hblk.cell 11
  have hlt : w.heap.size < w1.heap.size := by simp at hsz; omega
  have hb := ((Below.refl w.heap.size w).alloc (Nat.le_refl _) _).trans (hb1.mono (by simp))
  have HB := Lib.hid hb
  have HBLK := Lib.hid hblk
  clear hb hb1 hblk
  go_wp2_with fail
  refine (link_nil _ _ _ _).mono ?_
  rintro e w2 ⟨rfl, rfl⟩
  go_wp2_with fail
  refine (hear_nil _ _ o.b _).mono ?_
  rintro e w3 ⟨rfl, hb3⟩
  have hsz3 := hb3.size
  obtain ⟨hc3, hf3⟩ := bcell hb3
  replace HB := Lib.hid (HB.out.trans (hb3.mono HB.out.size))
  have hlt3 : w.heap.size < w3.heap.size := by omega
  clear hb3
  go_wp2_with fail
  refine (tick_nil _ _).mono ?_
  rintro e w4 ⟨rfl, rfl⟩
  go_wp2_with fail
  refine (role_nil _ _).mono ?_
  rintro e w4 ⟨rfl, rfl⟩
  go_wp2_with fail
  refine (learns_nil _ _).mono ?_
  rintro e w4 ⟨rfl, n, rfl⟩
  go_wp2_with fail
  refine (fwd_nil _ _).mono ?_
  rintro e w4 ⟨rfl, rfl⟩
  go_wp2_with fail
  refine (root_nil _).mono ?_
  rintro e w5 ⟨rfl, hb5⟩
  replace HB := Lib.hid ((below_drewN HB.out n).trans (hb5.mono HB.out.size))
  clear hb5
  go_wp2_with fail
  refine (changed_nil _).mono ?_
  rintro e w6 ⟨rfl, rfl⟩
  go_wp2_with fail
  refine (live_ _).mono ?_
  rintro e w6 ⟨rfl, hb6⟩
  go_wp2_with fail
  go_ret
  exact ⟨rfl, HB.out.trans (hb6.mono HB.out.size)⟩
end Rstp
end Go.Proofs.Ytlfoaefilonidaa
