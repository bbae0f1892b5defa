/-
  The walks of two laws of layer 14: what a vector is over a way; that over one way the better one stays so.
-/
import Derived.Test.YtjklleoeganmhaaPrioLaws2
namespace Go.Proofs.Ytjklleoeganmhaa
open Go.RowKit
namespace Prio
theorem te_range (v : Vec) (c : Int) : te v c = 0 ∨ te v c = 1 := by unfold te; split <;> simp
set_option maxHeartbeats 4000000 in
theorem law_through (v : Vec) (c : Int) (w : World) :
    Calls Try.prog 4 #[.agg #[.int .u64 v.root, .int .i64 v.cost, .int .u64 v.bridge, .int .i64 v.port], .int .i64 c] w fun e w' => e = .returned (.bool true) ∧ Below w.heap.size w w' := by
  have heq := eql_yes (tv v c)
  have hcase : (te v c = 0 ∧ cmpV v (tv v c) ≤ 0) ∨ te v c = 1 := by
    rcases te_range v c with h | h
    · exact .inl ⟨h, cmp_tv v c h⟩
    · exact .inr h
  rcases hcase with ⟨h0, hc⟩ | h0
  all_goals
    go_enter Try.func4, Try.ntmps4
    go_wp2_with fail
    refine (through_ v c _).mono ?_
    rintro e w1 ⟨rfl, hb1⟩
    have hz1 := hb1.size
    simp only [World.size_alloc] at hz1
    have hw1 : Below w.heap.size w w1 := ((Below.refl _ _).alloc (Nat.le_refl _) _).trans (hb1.mono (by simp))
    have hA1 := (Blk.new w 24 #[.int .u64 v.root, .int .i64 v.cost, .int .u64 v.bridge, .int .i64 v.port]).below hb1 (by simp)
    obtain ⟨a0, a1, a2, a3⟩ := vec4 hA1
    have HA1 := Lib.hid hA1
    have q0 : w.heap.size < w1.heap.size := by omega
    clear hb1 hA1
    go_wp2_with fail
    refine (rthrough_ v c _).mono ?_
    rintro e w2 ⟨rfl, hb2⟩
    have hz2 := hb2.size
    simp only [World.size_alloc] at hz2
    have hw2 : Below w.heap.size w w2 := (hw1.alloc (by omega) _).trans (hb2.mono (by simp; omega))
    have hA2 := (HA1.out.alloc _).below hb2 (by simp; omega)
    have hT2 := (Blk.new w1 24 #[.int .u64 (tv v c).root, .int .i64 (tv v c).cost, .int .u64 (tv v c).bridge, .int .i64 (tv v c).port]).below hb2 (by simp)
    clear a0 a1 a2 a3 HA1
    obtain ⟨a0, a1, a2, a3⟩ := vec4 hA2
    obtain ⟨b0, b1, b2, b3⟩ := vec4 hT2
    have HA2 := Lib.hid hA2
    have HT2 := Lib.hid hT2
    have q1 : w1.heap.size < w2.heap.size := by omega
    have q2 : w.heap.size < w2.heap.size := by omega
    clear hb2 hA2 hT2
  · go_wp2_with fail
    refine (cmp v (tv v c) _).mono ?_
    rintro e w3 ⟨rfl, hb3⟩
    have hw3 : Below w.heap.size w w3 := (hw2.alloc (by omega) _).trans (hb3.mono (by simp; omega))
    clear hb3
    go_wp2_with fail
    refine (live_ _).mono ?_
    rintro e w4 ⟨rfl, hb4⟩
    have hw4 : Below w.heap.size w w4 := hw3.trans (hb4.mono hw3.size)
    go_wp2
    go_ret
    exact ⟨rfl, hw4⟩
  · go_wp2_with fail
    refine (live_ _).mono ?_
    rintro e w4 ⟨rfl, hb4⟩
    have hw4 : Below w.heap.size w w4 := (hw2.alloc (by omega) _).trans (hb4.mono (by simp; omega))
    go_wp2
    go_ret
    exact ⟨rfl, hw4⟩
set_option maxHeartbeats 4000000 in
theorem law_rises_no (a b : Vec) (c : Int) (w : World) (h : ¬ (te a c = 0 ∧ te b c = 0)) :
    Calls Try.prog 8 #[.agg #[.int .u64 a.root, .int .i64 a.cost, .int .u64 a.bridge, .int .i64 a.port], .agg #[.int .u64 b.root, .int .i64 b.cost, .int .u64 b.bridge, .int .i64 b.port], .int .i64 c] w fun e w' => e = .returned (.bool true) ∧ Below w.heap.size w w' := by
  have hcase : te a c = 1 ∨ (te a c = 0 ∧ te b c = 1) := by
    rcases te_range a c with h1 | h1 <;> rcases te_range b c with h2 | h2 <;> simp_all
  clear h
  have hr := te_range b c
  rcases hcase with h1 | ⟨h1, h2⟩
  all_goals
    have HR := Lib.hid hr
    clear hr
    go_enter Try.func8, Try.ntmps8
    go_wp2_with fail
    refine (through_ a c _).mono ?_
    rintro e w1 ⟨rfl, hb1⟩
    have hz1 := hb1.size
    simp only [World.size_alloc] at hz1
    have hw1 : Below w.heap.size w w1 := (((Below.refl _ _).alloc (Nat.le_refl _) _).alloc (by simp) _).trans (hb1.mono (by simp; omega))
    have hB1 := (Blk.new (w.alloc (.cells #[.int .u64 a.root, .int .i64 a.cost, .int .u64 a.bridge, .int .i64 a.port] 24)) 24 #[.int .u64 b.root, .int .i64 b.cost, .int .u64 b.bridge, .int .i64 b.port]).below hb1 (by simp)
    simp only [World.size_alloc] at hB1
    obtain ⟨b0, b1, b2, b3⟩ := vec4 hB1
    have q1 : w.heap.size + 1 < w1.heap.size := by omega
    clear hb1 hB1
    go_wp2_with fail
    refine (through_ b c _).mono ?_
    rintro e w2 ⟨rfl, hb2⟩
    have hz2 := hb2.size
    simp only [World.size_alloc] at hz2
    have hw2 : Below w.heap.size w w2 := (hw1.alloc (by omega) _).trans (hb2.mono (by simp; omega))
    clear hb2
    go_wp2_with fail
    refine (live_ _).mono ?_
    rintro e w4 ⟨rfl, hb4⟩
    have hw4 : Below w.heap.size w w4 := (hw2.alloc (by omega) _).trans (hb4.mono (by simp; omega))
    go_wp2
    go_ret
    exact ⟨rfl, hw4⟩
end Prio
end Go.Proofs.Ytjklleoeganmhaa
