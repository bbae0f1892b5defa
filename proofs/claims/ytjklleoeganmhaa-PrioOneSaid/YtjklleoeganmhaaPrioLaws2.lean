/-
  The walks of the laws of layer 14 on vectors.
-/
import Derived.Test.YtjklleoeganmhaaPrioLaws
import Derived.Test.YtjklleoeganmhaaPrioMath2
namespace Go.Proofs.Ytjklleoeganmhaa
open Go.RowKit
namespace Prio
theorem vec4 {w : World} {g : Nat} {t : TypeId} {v : Vec} (h : Blk w g t #[.int .u64 v.root, .int .i64 v.cost, .int .u64 v.bridge, .int .i64 v.port]) : w.cell? ⟨g, 0, none⟩ = some (.int .u64 v.root) ∧ w.cell? ⟨g, 1, none⟩ = some (.int .i64 v.cost) ∧ w.cell? ⟨g, 2, none⟩ = some (.int .u64 v.bridge) ∧ w.cell? ⟨g, 3, none⟩ = some (.int .i64 v.port) :=
  ⟨h.cell 0, h.cell 1, h.cell 2, h.cell 3⟩
theorem eql_no (a b : Vec) (hne : ¬ (a.root = b.root ∧ a.cost = b.cost ∧ a.bridge = b.bridge ∧ a.port = b.port)) (w : World) :
    Sem.run Try.prog (Go.binOp .eql 24 (.agg #[.int .u64 a.root, .int .i64 a.cost, .int .u64 a.bridge, .int .i64 a.port]) (.agg #[.int .u64 b.root, .int .i64 b.cost, .int .u64 b.bridge, .int .i64 b.port])) w = .ok (.bool false) w := by
  by_cases h1 : a.root = b.root
  · by_cases h2 : a.cost = b.cost
    · by_cases h3 : a.bridge = b.bridge
      · have h4 : ¬ a.port = b.port := fun h => hne ⟨h1, h2, h3, h⟩
        simp [go_sem, h1, h2, h3, h4]
      · simp [go_sem, h1, h2, h3]
    · simp [go_sem, h1, h2]
  · simp [go_sem, h1]
theorem eql_yes (a : Vec) (w : World) : Sem.run Try.prog (Go.binOp .eql 24 (.agg #[.int .u64 a.root, .int .i64 a.cost, .int .u64 a.bridge, .int .i64 a.port]) (.agg #[.int .u64 a.root, .int .i64 a.cost, .int .u64 a.bridge, .int .i64 a.port])) w = .ok (.bool true) w := by
  simp [go_sem]
set_option maxHeartbeats 8000000 in
theorem order_m1 (a b c : Vec) (w : World) (hx : cmpV a b = -1) (hx' : cmpV b a = 1) (hy : cmpV b c ≤ 0) (hz : cmpV a c ≤ 0) (hne : ¬ (a.root = b.root ∧ a.cost = b.cost ∧ a.bridge = b.bridge ∧ a.port = b.port)) :
    Calls Try.prog 6 #[.agg #[.int .u64 a.root, .int .i64 a.cost, .int .u64 a.bridge, .int .i64 a.port], .agg #[.int .u64 b.root, .int .i64 b.cost, .int .u64 b.bridge, .int .i64 b.port], .agg #[.int .u64 c.root, .int .i64 c.cost, .int .u64 c.bridge, .int .i64 c.port]] w fun e w' => e = .returned (.bool true) ∧ Below w.heap.size w w' := by
  have haa := cmpV_self a
  have heq := eql_no a b hne
  clear hne
  have hA0 := ((Blk.new w 24 #[.int .u64 a.root, .int .i64 a.cost, .int .u64 a.bridge, .int .i64 a.port]).alloc (.cells #[.int .u64 b.root, .int .i64 b.cost, .int .u64 b.bridge, .int .i64 b.port] 24)).alloc (.cells #[.int .u64 c.root, .int .i64 c.cost, .int .u64 c.bridge, .int .i64 c.port] 24)
  have hB0 := (Blk.new (w.alloc (.cells #[.int .u64 a.root, .int .i64 a.cost, .int .u64 a.bridge, .int .i64 a.port] 24)) 24 #[.int .u64 b.root, .int .i64 b.cost, .int .u64 b.bridge, .int .i64 b.port]).alloc (.cells #[.int .u64 c.root, .int .i64 c.cost, .int .u64 c.bridge, .int .i64 c.port] 24)
  have hC0 := Blk.new ((w.alloc (.cells #[.int .u64 a.root, .int .i64 a.cost, .int .u64 a.bridge, .int .i64 a.port] 24)).alloc (.cells #[.int .u64 b.root, .int .i64 b.cost, .int .u64 b.bridge, .int .i64 b.port] 24)) 24 #[.int .u64 c.root, .int .i64 c.cost, .int .u64 c.bridge, .int .i64 c.port]
  simp only [World.size_alloc] at hB0 hC0
  have hw0 : Below w.heap.size w (((w.alloc (.cells #[.int .u64 a.root, .int .i64 a.cost, .int .u64 a.bridge, .int .i64 a.port] 24)).alloc (.cells #[.int .u64 b.root, .int .i64 b.cost, .int .u64 b.bridge, .int .i64 b.port] 24)).alloc (.cells #[.int .u64 c.root, .int .i64 c.cost, .int .u64 c.bridge, .int .i64 c.port] 24)) := by repeat (first | exact Below.refl _ _ | apply Below.drew | (refine Below.alloc ?_ (by simp <;> omega) _) | (refine Below.setCell ?_ (by simp <;> omega) _))
  have HA0 := Lib.hid hA0
  have HB0 := Lib.hid hB0
  have HC0 := Lib.hid hC0
  clear hA0 hB0 hC0
  go_enter Try.func6, Try.ntmps6
  go_wp2_with fail
  refine (cmp a b _).mono ?_
  rintro e w1 ⟨rfl, hb⟩
  have hA1 := HA0.out.below hb HA0.out.lt
  have hB1 := HB0.out.below hb HB0.out.lt
  have hC1 := HC0.out.below hb HC0.out.lt
  have hw1 : Below w.heap.size w w1 := hw0.trans (hb.mono hw0.size)
  clear hb
  obtain ⟨a0, a1, a2, a3⟩ := vec4 hA1
  obtain ⟨b0, b1, b2, b3⟩ := vec4 hB1
  obtain ⟨c0, c1, c2, c3⟩ := vec4 hC1
  have HA1 := Lib.hid hA1
  have HB1 := Lib.hid hB1
  have HC1 := Lib.hid hC1
  clear hA1 hB1 hC1 HA0 HB0 HC0
  go_wp2_with fail
  refine (cmp b c _).mono ?_
  rintro e w2 ⟨rfl, hb⟩
  have hA2 := HA1.out.below hb HA1.out.lt
  have hB2 := HB1.out.below hb HB1.out.lt
  have hC2 := HC1.out.below hb HC1.out.lt
  have hw2 : Below w.heap.size w w2 := hw1.trans (hb.mono hw1.size)
  clear hb a0 a1 a2 a3 b0 b1 b2 b3 c0 c1 c2 c3
  obtain ⟨a0, a1, a2, a3⟩ := vec4 hA2
  obtain ⟨b0, b1, b2, b3⟩ := vec4 hB2
  obtain ⟨c0, c1, c2, c3⟩ := vec4 hC2
  have HA2 := Lib.hid hA2
  have HB2 := Lib.hid hB2
  have HC2 := Lib.hid hC2
  clear hA2 hB2 hC2 HA1 HB1 HC1
  go_wp2_with fail
  refine (cmp b a _).mono ?_
  rintro e w3 ⟨rfl, hb⟩
  have hA3 := HA2.out.below hb HA2.out.lt
  have hB3 := HB2.out.below hb HB2.out.lt
  have hC3 := HC2.out.below hb HC2.out.lt
  have hw3 : Below w.heap.size w w3 := hw2.trans (hb.mono hw2.size)
  clear hb a0 a1 a2 a3 b0 b1 b2 b3 c0 c1 c2 c3
  obtain ⟨a0, a1, a2, a3⟩ := vec4 hA3
  obtain ⟨b0, b1, b2, b3⟩ := vec4 hB3
  obtain ⟨c0, c1, c2, c3⟩ := vec4 hC3
  have HA3 := Lib.hid hA3
  have HB3 := Lib.hid hB3
  have HC3 := Lib.hid hC3
  clear hA3 hB3 hC3 HA2 HB2 HC2
  go_wp2_with fail
  all_goals
    refine (cmp a c _).mono ?_
    rintro e w4 ⟨rfl, hb⟩
    have hA4 := HA3.out.below hb HA3.out.lt
    have hB4 := HB3.out.below hb HB3.out.lt
    have hC4 := HC3.out.below hb HC3.out.lt
    have hw4 : Below w.heap.size w w4 := hw3.trans (hb.mono hw3.size)
    clear hb a0 a1 a2 a3 b0 b1 b2 b3 c0 c1 c2 c3
    obtain ⟨a0, a1, a2, a3⟩ := vec4 hA4
    obtain ⟨b0, b1, b2, b3⟩ := vec4 hB4
    obtain ⟨c0, c1, c2, c3⟩ := vec4 hC4
    have HA4 := Lib.hid hA4
    have HB4 := Lib.hid hB4
    have HC4 := Lib.hid hC4
    clear hA4 hB4 hC4 HA3 HB3 HC3
    go_wp2_with fail
    refine (cmp a a _).mono ?_
    rintro e w5 ⟨rfl, hb⟩
    have hA5 := HA4.out.below hb HA4.out.lt
    have hB5 := HB4.out.below hb HB4.out.lt
    have hC5 := HC4.out.below hb HC4.out.lt
    have hw5 : Below w.heap.size w w5 := hw4.trans (hb.mono hw4.size)
    clear hb a0 a1 a2 a3 b0 b1 b2 b3 c0 c1 c2 c3
    obtain ⟨a0, a1, a2, a3⟩ := vec4 hA5
    obtain ⟨b0, b1, b2, b3⟩ := vec4 hB5
    obtain ⟨c0, c1, c2, c3⟩ := vec4 hC5
    have HA5 := Lib.hid hA5
    have HB5 := Lib.hid hB5
    have HC5 := Lib.hid hC5
    clear hA5 hB5 hC5 HA4 HB4 HC4
    go_wp2_with fail
    refine (live_ _).mono ?_
    rintro e w6 ⟨rfl, hb⟩
    have hA6 := HA5.out.below hb HA5.out.lt
    have hB6 := HB5.out.below hb HB5.out.lt
    have hC6 := HC5.out.below hb HC5.out.lt
    have hw6 : Below w.heap.size w w6 := hw5.trans (hb.mono hw5.size)
    clear hb a0 a1 a2 a3 b0 b1 b2 b3 c0 c1 c2 c3
    obtain ⟨a0, a1, a2, a3⟩ := vec4 hA6
    obtain ⟨b0, b1, b2, b3⟩ := vec4 hB6
    obtain ⟨c0, c1, c2, c3⟩ := vec4 hC6
    have HA6 := Lib.hid hA6
    have HB6 := Lib.hid hB6
    have HC6 := Lib.hid hC6
    clear hA6 hB6 hC6 HA5 HB5 HC5
    go_wp2
    go_ret
    exact ⟨rfl, hw6⟩
set_option maxHeartbeats 8000000 in
theorem order_m2 (a b c : Vec) (w : World) (hx : cmpV a b = -1) (hx' : cmpV b a = 1) (hy : ¬ cmpV b c ≤ 0) (hne : ¬ (a.root = b.root ∧ a.cost = b.cost ∧ a.bridge = b.bridge ∧ a.port = b.port)) :
    Calls Try.prog 6 #[.agg #[.int .u64 a.root, .int .i64 a.cost, .int .u64 a.bridge, .int .i64 a.port], .agg #[.int .u64 b.root, .int .i64 b.cost, .int .u64 b.bridge, .int .i64 b.port], .agg #[.int .u64 c.root, .int .i64 c.cost, .int .u64 c.bridge, .int .i64 c.port]] w fun e w' => e = .returned (.bool true) ∧ Below w.heap.size w w' := by
  have haa := cmpV_self a
  have heq := eql_no a b hne
  clear hne
  have hA0 := ((Blk.new w 24 #[.int .u64 a.root, .int .i64 a.cost, .int .u64 a.bridge, .int .i64 a.port]).alloc (.cells #[.int .u64 b.root, .int .i64 b.cost, .int .u64 b.bridge, .int .i64 b.port] 24)).alloc (.cells #[.int .u64 c.root, .int .i64 c.cost, .int .u64 c.bridge, .int .i64 c.port] 24)
  have hB0 := (Blk.new (w.alloc (.cells #[.int .u64 a.root, .int .i64 a.cost, .int .u64 a.bridge, .int .i64 a.port] 24)) 24 #[.int .u64 b.root, .int .i64 b.cost, .int .u64 b.bridge, .int .i64 b.port]).alloc (.cells #[.int .u64 c.root, .int .i64 c.cost, .int .u64 c.bridge, .int .i64 c.port] 24)
  have hC0 := Blk.new ((w.alloc (.cells #[.int .u64 a.root, .int .i64 a.cost, .int .u64 a.bridge, .int .i64 a.port] 24)).alloc (.cells #[.int .u64 b.root, .int .i64 b.cost, .int .u64 b.bridge, .int .i64 b.port] 24)) 24 #[.int .u64 c.root, .int .i64 c.cost, .int .u64 c.bridge, .int .i64 c.port]
  simp only [World.size_alloc] at hB0 hC0
  have hw0 : Below w.heap.size w (((w.alloc (.cells #[.int .u64 a.root, .int .i64 a.cost, .int .u64 a.bridge, .int .i64 a.port] 24)).alloc (.cells #[.int .u64 b.root, .int .i64 b.cost, .int .u64 b.bridge, .int .i64 b.port] 24)).alloc (.cells #[.int .u64 c.root, .int .i64 c.cost, .int .u64 c.bridge, .int .i64 c.port] 24)) := by repeat (first | exact Below.refl _ _ | apply Below.drew | (refine Below.alloc ?_ (by simp <;> omega) _) | (refine Below.setCell ?_ (by simp <;> omega) _))
  have HA0 := Lib.hid hA0
  have HB0 := Lib.hid hB0
  have HC0 := Lib.hid hC0
  clear hA0 hB0 hC0
  go_enter Try.func6, Try.ntmps6
  go_wp2_with fail
  refine (cmp a b _).mono ?_
  rintro e w1 ⟨rfl, hb⟩
  have hA1 := HA0.out.below hb HA0.out.lt
  have hB1 := HB0.out.below hb HB0.out.lt
  have hC1 := HC0.out.below hb HC0.out.lt
  have hw1 : Below w.heap.size w w1 := hw0.trans (hb.mono hw0.size)
  clear hb
  obtain ⟨a0, a1, a2, a3⟩ := vec4 hA1
  obtain ⟨b0, b1, b2, b3⟩ := vec4 hB1
  obtain ⟨c0, c1, c2, c3⟩ := vec4 hC1
  have HA1 := Lib.hid hA1
  have HB1 := Lib.hid hB1
  have HC1 := Lib.hid hC1
  clear hA1 hB1 hC1 HA0 HB0 HC0
  go_wp2_with fail
  refine (cmp b c _).mono ?_
  rintro e w2 ⟨rfl, hb⟩
  have hA2 := HA1.out.below hb HA1.out.lt
  have hB2 := HB1.out.below hb HB1.out.lt
  have hC2 := HC1.out.below hb HC1.out.lt
  have hw2 : Below w.heap.size w w2 := hw1.trans (hb.mono hw1.size)
  clear hb a0 a1 a2 a3 b0 b1 b2 b3 c0 c1 c2 c3
  obtain ⟨a0, a1, a2, a3⟩ := vec4 hA2
  obtain ⟨b0, b1, b2, b3⟩ := vec4 hB2
  obtain ⟨c0, c1, c2, c3⟩ := vec4 hC2
  have HA2 := Lib.hid hA2
  have HB2 := Lib.hid hB2
  have HC2 := Lib.hid hC2
  clear hA2 hB2 hC2 HA1 HB1 HC1
  go_wp2_with fail
  refine (cmp b a _).mono ?_
  rintro e w3 ⟨rfl, hb⟩
  have hA3 := HA2.out.below hb HA2.out.lt
  have hB3 := HB2.out.below hb HB2.out.lt
  have hC3 := HC2.out.below hb HC2.out.lt
  have hw3 : Below w.heap.size w w3 := hw2.trans (hb.mono hw2.size)
  clear hb a0 a1 a2 a3 b0 b1 b2 b3 c0 c1 c2 c3
  obtain ⟨a0, a1, a2, a3⟩ := vec4 hA3
  obtain ⟨b0, b1, b2, b3⟩ := vec4 hB3
  obtain ⟨c0, c1, c2, c3⟩ := vec4 hC3
  have HA3 := Lib.hid hA3
  have HB3 := Lib.hid hB3
  have HC3 := Lib.hid hC3
  clear hA3 hB3 hC3 HA2 HB2 HC2
  go_wp2_with fail
  all_goals
    refine (cmp a a _).mono ?_
    rintro e w4 ⟨rfl, hb⟩
    have hA4 := HA3.out.below hb HA3.out.lt
    have hB4 := HB3.out.below hb HB3.out.lt
    have hC4 := HC3.out.below hb HC3.out.lt
    have hw4 : Below w.heap.size w w4 := hw3.trans (hb.mono hw3.size)
    clear hb a0 a1 a2 a3 b0 b1 b2 b3 c0 c1 c2 c3
    obtain ⟨a0, a1, a2, a3⟩ := vec4 hA4
    obtain ⟨b0, b1, b2, b3⟩ := vec4 hB4
    obtain ⟨c0, c1, c2, c3⟩ := vec4 hC4
    have HA4 := Lib.hid hA4
    have HB4 := Lib.hid hB4
    have HC4 := Lib.hid hC4
    clear hA4 hB4 hC4 HA3 HB3 HC3
    go_wp2_with fail
    refine (live_ _).mono ?_
    rintro e w5 ⟨rfl, hb⟩
    have hA5 := HA4.out.below hb HA4.out.lt
    have hB5 := HB4.out.below hb HB4.out.lt
    have hC5 := HC4.out.below hb HC4.out.lt
    have hw5 : Below w.heap.size w w5 := hw4.trans (hb.mono hw4.size)
    clear hb a0 a1 a2 a3 b0 b1 b2 b3 c0 c1 c2 c3
    obtain ⟨a0, a1, a2, a3⟩ := vec4 hA5
    obtain ⟨b0, b1, b2, b3⟩ := vec4 hB5
    obtain ⟨c0, c1, c2, c3⟩ := vec4 hC5
    have HA5 := Lib.hid hA5
    have HB5 := Lib.hid hB5
    have HC5 := Lib.hid hC5
    clear hA5 hB5 hC5 HA4 HB4 HC4
    go_wp2
    go_ret
    exact ⟨rfl, hw5⟩
set_option maxHeartbeats 8000000 in
theorem order_z1 (a c : Vec) (w : World) (hy : cmpV a c ≤ 0) :
    Calls Try.prog 6 #[.agg #[.int .u64 a.root, .int .i64 a.cost, .int .u64 a.bridge, .int .i64 a.port], .agg #[.int .u64 a.root, .int .i64 a.cost, .int .u64 a.bridge, .int .i64 a.port], .agg #[.int .u64 c.root, .int .i64 c.cost, .int .u64 c.bridge, .int .i64 c.port]] w fun e w' => e = .returned (.bool true) ∧ Below w.heap.size w w' := by
  have haa := cmpV_self a
  have heq := eql_yes a
  have hA0 := ((Blk.new w 24 #[.int .u64 a.root, .int .i64 a.cost, .int .u64 a.bridge, .int .i64 a.port]).alloc (.cells #[.int .u64 a.root, .int .i64 a.cost, .int .u64 a.bridge, .int .i64 a.port] 24)).alloc (.cells #[.int .u64 c.root, .int .i64 c.cost, .int .u64 c.bridge, .int .i64 c.port] 24)
  have hB0 := (Blk.new (w.alloc (.cells #[.int .u64 a.root, .int .i64 a.cost, .int .u64 a.bridge, .int .i64 a.port] 24)) 24 #[.int .u64 a.root, .int .i64 a.cost, .int .u64 a.bridge, .int .i64 a.port]).alloc (.cells #[.int .u64 c.root, .int .i64 c.cost, .int .u64 c.bridge, .int .i64 c.port] 24)
  have hC0 := Blk.new ((w.alloc (.cells #[.int .u64 a.root, .int .i64 a.cost, .int .u64 a.bridge, .int .i64 a.port] 24)).alloc (.cells #[.int .u64 a.root, .int .i64 a.cost, .int .u64 a.bridge, .int .i64 a.port] 24)) 24 #[.int .u64 c.root, .int .i64 c.cost, .int .u64 c.bridge, .int .i64 c.port]
  simp only [World.size_alloc] at hB0 hC0
  have hw0 : Below w.heap.size w (((w.alloc (.cells #[.int .u64 a.root, .int .i64 a.cost, .int .u64 a.bridge, .int .i64 a.port] 24)).alloc (.cells #[.int .u64 a.root, .int .i64 a.cost, .int .u64 a.bridge, .int .i64 a.port] 24)).alloc (.cells #[.int .u64 c.root, .int .i64 c.cost, .int .u64 c.bridge, .int .i64 c.port] 24)) := by repeat (first | exact Below.refl _ _ | apply Below.drew | (refine Below.alloc ?_ (by simp <;> omega) _) | (refine Below.setCell ?_ (by simp <;> omega) _))
  have HA0 := Lib.hid hA0
  have HB0 := Lib.hid hB0
  have HC0 := Lib.hid hC0
  clear hA0 hB0 hC0
  go_enter Try.func6, Try.ntmps6
  go_wp2_with fail
  refine (cmp a a _).mono ?_
  rintro e w1 ⟨rfl, hb⟩
  have hA1 := HA0.out.below hb HA0.out.lt
  have hB1 := HB0.out.below hb HB0.out.lt
  have hC1 := HC0.out.below hb HC0.out.lt
  have hw1 : Below w.heap.size w w1 := hw0.trans (hb.mono hw0.size)
  clear hb
  obtain ⟨a0, a1, a2, a3⟩ := vec4 hA1
  obtain ⟨b0, b1, b2, b3⟩ := vec4 hB1
  obtain ⟨c0, c1, c2, c3⟩ := vec4 hC1
  have HA1 := Lib.hid hA1
  have HB1 := Lib.hid hB1
  have HC1 := Lib.hid hC1
  clear hA1 hB1 hC1 HA0 HB0 HC0
  go_wp2_with fail
  refine (cmp a c _).mono ?_
  rintro e w2 ⟨rfl, hb⟩
  have hA2 := HA1.out.below hb HA1.out.lt
  have hB2 := HB1.out.below hb HB1.out.lt
  have hC2 := HC1.out.below hb HC1.out.lt
  have hw2 : Below w.heap.size w w2 := hw1.trans (hb.mono hw1.size)
  clear hb a0 a1 a2 a3 b0 b1 b2 b3 c0 c1 c2 c3
  obtain ⟨a0, a1, a2, a3⟩ := vec4 hA2
  obtain ⟨b0, b1, b2, b3⟩ := vec4 hB2
  obtain ⟨c0, c1, c2, c3⟩ := vec4 hC2
  have HA2 := Lib.hid hA2
  have HB2 := Lib.hid hB2
  have HC2 := Lib.hid hC2
  clear hA2 hB2 hC2 HA1 HB1 HC1
  go_wp2_with fail
  refine (cmp a a _).mono ?_
  rintro e w3 ⟨rfl, hb⟩
  have hA3 := HA2.out.below hb HA2.out.lt
  have hB3 := HB2.out.below hb HB2.out.lt
  have hC3 := HC2.out.below hb HC2.out.lt
  have hw3 : Below w.heap.size w w3 := hw2.trans (hb.mono hw2.size)
  clear hb a0 a1 a2 a3 b0 b1 b2 b3 c0 c1 c2 c3
  obtain ⟨a0, a1, a2, a3⟩ := vec4 hA3
  obtain ⟨b0, b1, b2, b3⟩ := vec4 hB3
  obtain ⟨c0, c1, c2, c3⟩ := vec4 hC3
  have HA3 := Lib.hid hA3
  have HB3 := Lib.hid hB3
  have HC3 := Lib.hid hC3
  clear hA3 hB3 hC3 HA2 HB2 HC2
  go_wp2_with fail
  all_goals
    refine (cmp a c _).mono ?_
    rintro e w4 ⟨rfl, hb⟩
    have hA4 := HA3.out.below hb HA3.out.lt
    have hB4 := HB3.out.below hb HB3.out.lt
    have hC4 := HC3.out.below hb HC3.out.lt
    have hw4 : Below w.heap.size w w4 := hw3.trans (hb.mono hw3.size)
    clear hb a0 a1 a2 a3 b0 b1 b2 b3 c0 c1 c2 c3
    obtain ⟨a0, a1, a2, a3⟩ := vec4 hA4
    obtain ⟨b0, b1, b2, b3⟩ := vec4 hB4
    obtain ⟨c0, c1, c2, c3⟩ := vec4 hC4
    have HA4 := Lib.hid hA4
    have HB4 := Lib.hid hB4
    have HC4 := Lib.hid hC4
    clear hA4 hB4 hC4 HA3 HB3 HC3
    go_wp2_with fail
    refine (cmp a a _).mono ?_
    rintro e w5 ⟨rfl, hb⟩
    have hA5 := HA4.out.below hb HA4.out.lt
    have hB5 := HB4.out.below hb HB4.out.lt
    have hC5 := HC4.out.below hb HC4.out.lt
    have hw5 : Below w.heap.size w w5 := hw4.trans (hb.mono hw4.size)
    clear hb a0 a1 a2 a3 b0 b1 b2 b3 c0 c1 c2 c3
    obtain ⟨a0, a1, a2, a3⟩ := vec4 hA5
    obtain ⟨b0, b1, b2, b3⟩ := vec4 hB5
    obtain ⟨c0, c1, c2, c3⟩ := vec4 hC5
    have HA5 := Lib.hid hA5
    have HB5 := Lib.hid hB5
    have HC5 := Lib.hid hC5
    clear hA5 hB5 hC5 HA4 HB4 HC4
    go_wp2_with fail
    refine (live_ _).mono ?_
    rintro e w6 ⟨rfl, hb⟩
    have hA6 := HA5.out.below hb HA5.out.lt
    have hB6 := HB5.out.below hb HB5.out.lt
    have hC6 := HC5.out.below hb HC5.out.lt
    have hw6 : Below w.heap.size w w6 := hw5.trans (hb.mono hw5.size)
    clear hb a0 a1 a2 a3 b0 b1 b2 b3 c0 c1 c2 c3
    obtain ⟨a0, a1, a2, a3⟩ := vec4 hA6
    obtain ⟨b0, b1, b2, b3⟩ := vec4 hB6
    obtain ⟨c0, c1, c2, c3⟩ := vec4 hC6
    have HA6 := Lib.hid hA6
    have HB6 := Lib.hid hB6
    have HC6 := Lib.hid hC6
    clear hA6 hB6 hC6 HA5 HB5 HC5
    go_wp2
    go_ret
    exact ⟨rfl, hw6⟩
set_option maxHeartbeats 8000000 in
theorem order_z2 (a c : Vec) (w : World) (hy : ¬ cmpV a c ≤ 0) :
    Calls Try.prog 6 #[.agg #[.int .u64 a.root, .int .i64 a.cost, .int .u64 a.bridge, .int .i64 a.port], .agg #[.int .u64 a.root, .int .i64 a.cost, .int .u64 a.bridge, .int .i64 a.port], .agg #[.int .u64 c.root, .int .i64 c.cost, .int .u64 c.bridge, .int .i64 c.port]] w fun e w' => e = .returned (.bool true) ∧ Below w.heap.size w w' := by
  have haa := cmpV_self a
  have heq := eql_yes a
  have hA0 := ((Blk.new w 24 #[.int .u64 a.root, .int .i64 a.cost, .int .u64 a.bridge, .int .i64 a.port]).alloc (.cells #[.int .u64 a.root, .int .i64 a.cost, .int .u64 a.bridge, .int .i64 a.port] 24)).alloc (.cells #[.int .u64 c.root, .int .i64 c.cost, .int .u64 c.bridge, .int .i64 c.port] 24)
  have hB0 := (Blk.new (w.alloc (.cells #[.int .u64 a.root, .int .i64 a.cost, .int .u64 a.bridge, .int .i64 a.port] 24)) 24 #[.int .u64 a.root, .int .i64 a.cost, .int .u64 a.bridge, .int .i64 a.port]).alloc (.cells #[.int .u64 c.root, .int .i64 c.cost, .int .u64 c.bridge, .int .i64 c.port] 24)
  have hC0 := Blk.new ((w.alloc (.cells #[.int .u64 a.root, .int .i64 a.cost, .int .u64 a.bridge, .int .i64 a.port] 24)).alloc (.cells #[.int .u64 a.root, .int .i64 a.cost, .int .u64 a.bridge, .int .i64 a.port] 24)) 24 #[.int .u64 c.root, .int .i64 c.cost, .int .u64 c.bridge, .int .i64 c.port]
  simp only [World.size_alloc] at hB0 hC0
  have hw0 : Below w.heap.size w (((w.alloc (.cells #[.int .u64 a.root, .int .i64 a.cost, .int .u64 a.bridge, .int .i64 a.port] 24)).alloc (.cells #[.int .u64 a.root, .int .i64 a.cost, .int .u64 a.bridge, .int .i64 a.port] 24)).alloc (.cells #[.int .u64 c.root, .int .i64 c.cost, .int .u64 c.bridge, .int .i64 c.port] 24)) := by repeat (first | exact Below.refl _ _ | apply Below.drew | (refine Below.alloc ?_ (by simp <;> omega) _) | (refine Below.setCell ?_ (by simp <;> omega) _))
  have HA0 := Lib.hid hA0
  have HB0 := Lib.hid hB0
  have HC0 := Lib.hid hC0
  clear hA0 hB0 hC0
  go_enter Try.func6, Try.ntmps6
  go_wp2_with fail
  refine (cmp a a _).mono ?_
  rintro e w1 ⟨rfl, hb⟩
  have hA1 := HA0.out.below hb HA0.out.lt
  have hB1 := HB0.out.below hb HB0.out.lt
  have hC1 := HC0.out.below hb HC0.out.lt
  have hw1 : Below w.heap.size w w1 := hw0.trans (hb.mono hw0.size)
  clear hb
  obtain ⟨a0, a1, a2, a3⟩ := vec4 hA1
  obtain ⟨b0, b1, b2, b3⟩ := vec4 hB1
  obtain ⟨c0, c1, c2, c3⟩ := vec4 hC1
  have HA1 := Lib.hid hA1
  have HB1 := Lib.hid hB1
  have HC1 := Lib.hid hC1
  clear hA1 hB1 hC1 HA0 HB0 HC0
  go_wp2_with fail
  refine (cmp a c _).mono ?_
  rintro e w2 ⟨rfl, hb⟩
  have hA2 := HA1.out.below hb HA1.out.lt
  have hB2 := HB1.out.below hb HB1.out.lt
  have hC2 := HC1.out.below hb HC1.out.lt
  have hw2 : Below w.heap.size w w2 := hw1.trans (hb.mono hw1.size)
  clear hb a0 a1 a2 a3 b0 b1 b2 b3 c0 c1 c2 c3
  obtain ⟨a0, a1, a2, a3⟩ := vec4 hA2
  obtain ⟨b0, b1, b2, b3⟩ := vec4 hB2
  obtain ⟨c0, c1, c2, c3⟩ := vec4 hC2
  have HA2 := Lib.hid hA2
  have HB2 := Lib.hid hB2
  have HC2 := Lib.hid hC2
  clear hA2 hB2 hC2 HA1 HB1 HC1
  go_wp2_with fail
  refine (cmp a a _).mono ?_
  rintro e w3 ⟨rfl, hb⟩
  have hA3 := HA2.out.below hb HA2.out.lt
  have hB3 := HB2.out.below hb HB2.out.lt
  have hC3 := HC2.out.below hb HC2.out.lt
  have hw3 : Below w.heap.size w w3 := hw2.trans (hb.mono hw2.size)
  clear hb a0 a1 a2 a3 b0 b1 b2 b3 c0 c1 c2 c3
  obtain ⟨a0, a1, a2, a3⟩ := vec4 hA3
  obtain ⟨b0, b1, b2, b3⟩ := vec4 hB3
  obtain ⟨c0, c1, c2, c3⟩ := vec4 hC3
  have HA3 := Lib.hid hA3
  have HB3 := Lib.hid hB3
  have HC3 := Lib.hid hC3
  clear hA3 hB3 hC3 HA2 HB2 HC2
  go_wp2_with fail
  all_goals
    refine (cmp a a _).mono ?_
    rintro e w4 ⟨rfl, hb⟩
    have hA4 := HA3.out.below hb HA3.out.lt
    have hB4 := HB3.out.below hb HB3.out.lt
    have hC4 := HC3.out.below hb HC3.out.lt
    have hw4 : Below w.heap.size w w4 := hw3.trans (hb.mono hw3.size)
    clear hb a0 a1 a2 a3 b0 b1 b2 b3 c0 c1 c2 c3
    obtain ⟨a0, a1, a2, a3⟩ := vec4 hA4
    obtain ⟨b0, b1, b2, b3⟩ := vec4 hB4
    obtain ⟨c0, c1, c2, c3⟩ := vec4 hC4
    have HA4 := Lib.hid hA4
    have HB4 := Lib.hid hB4
    have HC4 := Lib.hid hC4
    clear hA4 hB4 hC4 HA3 HB3 HC3
    go_wp2_with fail
    refine (live_ _).mono ?_
    rintro e w5 ⟨rfl, hb⟩
    have hA5 := HA4.out.below hb HA4.out.lt
    have hB5 := HB4.out.below hb HB4.out.lt
    have hC5 := HC4.out.below hb HC4.out.lt
    have hw5 : Below w.heap.size w w5 := hw4.trans (hb.mono hw4.size)
    clear hb a0 a1 a2 a3 b0 b1 b2 b3 c0 c1 c2 c3
    obtain ⟨a0, a1, a2, a3⟩ := vec4 hA5
    obtain ⟨b0, b1, b2, b3⟩ := vec4 hB5
    obtain ⟨c0, c1, c2, c3⟩ := vec4 hC5
    have HA5 := Lib.hid hA5
    have HB5 := Lib.hid hB5
    have HC5 := Lib.hid hC5
    clear hA5 hB5 hC5 HA4 HB4 HC4
    go_wp2
    go_ret
    exact ⟨rfl, hw5⟩
set_option maxHeartbeats 8000000 in
theorem order_p (a b c : Vec) (w : World) (hx : cmpV a b = 1) (hx' : cmpV b a = -1) (hne : ¬ (a.root = b.root ∧ a.cost = b.cost ∧ a.bridge = b.bridge ∧ a.port = b.port)) :
    Calls Try.prog 6 #[.agg #[.int .u64 a.root, .int .i64 a.cost, .int .u64 a.bridge, .int .i64 a.port], .agg #[.int .u64 b.root, .int .i64 b.cost, .int .u64 b.bridge, .int .i64 b.port], .agg #[.int .u64 c.root, .int .i64 c.cost, .int .u64 c.bridge, .int .i64 c.port]] w fun e w' => e = .returned (.bool true) ∧ Below w.heap.size w w' := by
  have haa := cmpV_self a
  have heq := eql_no a b hne
  clear hne
  have hA0 := ((Blk.new w 24 #[.int .u64 a.root, .int .i64 a.cost, .int .u64 a.bridge, .int .i64 a.port]).alloc (.cells #[.int .u64 b.root, .int .i64 b.cost, .int .u64 b.bridge, .int .i64 b.port] 24)).alloc (.cells #[.int .u64 c.root, .int .i64 c.cost, .int .u64 c.bridge, .int .i64 c.port] 24)
  have hB0 := (Blk.new (w.alloc (.cells #[.int .u64 a.root, .int .i64 a.cost, .int .u64 a.bridge, .int .i64 a.port] 24)) 24 #[.int .u64 b.root, .int .i64 b.cost, .int .u64 b.bridge, .int .i64 b.port]).alloc (.cells #[.int .u64 c.root, .int .i64 c.cost, .int .u64 c.bridge, .int .i64 c.port] 24)
  have hC0 := Blk.new ((w.alloc (.cells #[.int .u64 a.root, .int .i64 a.cost, .int .u64 a.bridge, .int .i64 a.port] 24)).alloc (.cells #[.int .u64 b.root, .int .i64 b.cost, .int .u64 b.bridge, .int .i64 b.port] 24)) 24 #[.int .u64 c.root, .int .i64 c.cost, .int .u64 c.bridge, .int .i64 c.port]
  simp only [World.size_alloc] at hB0 hC0
  have hw0 : Below w.heap.size w (((w.alloc (.cells #[.int .u64 a.root, .int .i64 a.cost, .int .u64 a.bridge, .int .i64 a.port] 24)).alloc (.cells #[.int .u64 b.root, .int .i64 b.cost, .int .u64 b.bridge, .int .i64 b.port] 24)).alloc (.cells #[.int .u64 c.root, .int .i64 c.cost, .int .u64 c.bridge, .int .i64 c.port] 24)) := by repeat (first | exact Below.refl _ _ | apply Below.drew | (refine Below.alloc ?_ (by simp <;> omega) _) | (refine Below.setCell ?_ (by simp <;> omega) _))
  have HA0 := Lib.hid hA0
  have HB0 := Lib.hid hB0
  have HC0 := Lib.hid hC0
  clear hA0 hB0 hC0
  go_enter Try.func6, Try.ntmps6
  go_wp2_with fail
  refine (cmp a b _).mono ?_
  rintro e w1 ⟨rfl, hb⟩
  have hA1 := HA0.out.below hb HA0.out.lt
  have hB1 := HB0.out.below hb HB0.out.lt
  have hC1 := HC0.out.below hb HC0.out.lt
  have hw1 : Below w.heap.size w w1 := hw0.trans (hb.mono hw0.size)
  clear hb
  obtain ⟨a0, a1, a2, a3⟩ := vec4 hA1
  obtain ⟨b0, b1, b2, b3⟩ := vec4 hB1
  obtain ⟨c0, c1, c2, c3⟩ := vec4 hC1
  have HA1 := Lib.hid hA1
  have HB1 := Lib.hid hB1
  have HC1 := Lib.hid hC1
  clear hA1 hB1 hC1 HA0 HB0 HC0
  go_wp2_with fail
  refine (cmp b c _).mono ?_
  rintro e w2 ⟨rfl, hb⟩
  have hA2 := HA1.out.below hb HA1.out.lt
  have hB2 := HB1.out.below hb HB1.out.lt
  have hC2 := HC1.out.below hb HC1.out.lt
  have hw2 : Below w.heap.size w w2 := hw1.trans (hb.mono hw1.size)
  clear hb a0 a1 a2 a3 b0 b1 b2 b3 c0 c1 c2 c3
  obtain ⟨a0, a1, a2, a3⟩ := vec4 hA2
  obtain ⟨b0, b1, b2, b3⟩ := vec4 hB2
  obtain ⟨c0, c1, c2, c3⟩ := vec4 hC2
  have HA2 := Lib.hid hA2
  have HB2 := Lib.hid hB2
  have HC2 := Lib.hid hC2
  clear hA2 hB2 hC2 HA1 HB1 HC1
  go_wp2_with fail
  refine (cmp b a _).mono ?_
  rintro e w3 ⟨rfl, hb⟩
  have hA3 := HA2.out.below hb HA2.out.lt
  have hB3 := HB2.out.below hb HB2.out.lt
  have hC3 := HC2.out.below hb HC2.out.lt
  have hw3 : Below w.heap.size w w3 := hw2.trans (hb.mono hw2.size)
  clear hb a0 a1 a2 a3 b0 b1 b2 b3 c0 c1 c2 c3
  obtain ⟨a0, a1, a2, a3⟩ := vec4 hA3
  obtain ⟨b0, b1, b2, b3⟩ := vec4 hB3
  obtain ⟨c0, c1, c2, c3⟩ := vec4 hC3
  have HA3 := Lib.hid hA3
  have HB3 := Lib.hid hB3
  have HC3 := Lib.hid hC3
  clear hA3 hB3 hC3 HA2 HB2 HC2
  go_wp2_with fail
  all_goals
    refine (cmp a a _).mono ?_
    rintro e w4 ⟨rfl, hb⟩
    have hA4 := HA3.out.below hb HA3.out.lt
    have hB4 := HB3.out.below hb HB3.out.lt
    have hC4 := HC3.out.below hb HC3.out.lt
    have hw4 : Below w.heap.size w w4 := hw3.trans (hb.mono hw3.size)
    clear hb a0 a1 a2 a3 b0 b1 b2 b3 c0 c1 c2 c3
    obtain ⟨a0, a1, a2, a3⟩ := vec4 hA4
    obtain ⟨b0, b1, b2, b3⟩ := vec4 hB4
    obtain ⟨c0, c1, c2, c3⟩ := vec4 hC4
    have HA4 := Lib.hid hA4
    have HB4 := Lib.hid hB4
    have HC4 := Lib.hid hC4
    clear hA4 hB4 hC4 HA3 HB3 HC3
    go_wp2_with fail
    refine (live_ _).mono ?_
    rintro e w5 ⟨rfl, hb⟩
    have hA5 := HA4.out.below hb HA4.out.lt
    have hB5 := HB4.out.below hb HB4.out.lt
    have hC5 := HC4.out.below hb HC4.out.lt
    have hw5 : Below w.heap.size w w5 := hw4.trans (hb.mono hw4.size)
    clear hb a0 a1 a2 a3 b0 b1 b2 b3 c0 c1 c2 c3
    obtain ⟨a0, a1, a2, a3⟩ := vec4 hA5
    obtain ⟨b0, b1, b2, b3⟩ := vec4 hB5
    obtain ⟨c0, c1, c2, c3⟩ := vec4 hC5
    have HA5 := Lib.hid hA5
    have HB5 := Lib.hid hB5
    have HC5 := Lib.hid hC5
    clear hA5 hB5 hC5 HA4 HB4 HC4
    go_wp2
    go_ret
    exact ⟨rfl, hw5⟩
theorem ne_of {a b : Vec} (h : ¬ cmpV a b = 0) : ¬ (a.root = b.root ∧ a.cost = b.cost ∧ a.bridge = b.bridge ∧ a.port = b.port) := by
  rintro ⟨h1, h2, h3, h4⟩
  exact h (by cases a; cases b; simp_all [cmpV_self])
theorem order_ (a b c : Vec) (w : World) :
    Calls Try.prog 6 #[.agg #[.int .u64 a.root, .int .i64 a.cost, .int .u64 a.bridge, .int .i64 a.port], .agg #[.int .u64 b.root, .int .i64 b.cost, .int .u64 b.bridge, .int .i64 b.port], .agg #[.int .u64 c.root, .int .i64 c.cost, .int .u64 c.bridge, .int .i64 c.port]] w fun e w' => e = .returned (.bool true) ∧ Below w.heap.size w w' := by
  have ha := cmpV_anti a b
  rcases cmpV_range a b with h | h | h
  · by_cases k : cmpV b c ≤ 0
    · exact order_m1 a b c w h (by omega) k (cmpV_trans a b c (by omega) k) (ne_of (by omega))
    · exact order_m2 a b c w h (by omega) k (ne_of (by omega))
  · obtain rfl := cmpV_zero a b h
    by_cases k : cmpV a c ≤ 0
    · exact order_z1 a c w k
    · exact order_z2 a c w k
  · exact order_p a b c w h (by omega) (ne_of (by omega))
end Prio
end Go.Proofs.Ytjklleoeganmhaa
