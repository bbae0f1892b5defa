/-
  The walk of PrioRises where both vectors lead on: eight ways through, each walked once.
-/
import Derived.Test.YtjklleoeganmhaaPrioLaws3
import Derived.Deep.DeepCutAuto
namespace Go.Proofs.Ytjklleoeganmhaa
open Go.RowKit
namespace Prio
theorem far4 {w : World} {g g' : Nat} {t : TypeId} {cs : Array Value} (h : Blk w g t cs) (hne : g ≠ g') (x0 x1 x2 x3 : Value) :
    Blk ((((w.setCell ⟨g', 0, none⟩ x0).setCell ⟨g', 1, none⟩ x1).setCell ⟨g', 2, none⟩ x2).setCell ⟨g', 3, none⟩ x3) g t cs :=
  (((h.far (p := ⟨g', 0, none⟩) hne x0).far (p := ⟨g', 1, none⟩) hne x1).far (p := ⟨g', 2, none⟩) hne x2).far (p := ⟨g', 3, none⟩) hne x3
theorem set4 {w : World} {g : Nat} {t : TypeId} {v0 v1 v2 v3 : Value} (h : Blk w g t #[v0, v1, v2, v3]) (x0 x1 x2 x3 : Value) :
    Blk ((((w.setCell ⟨g, 0, none⟩ x0).setCell ⟨g, 1, none⟩ x1).setCell ⟨g, 2, none⟩ x2).setCell ⟨g, 3, none⟩ x3) g t #[x0, x1, x2, x3] :=
  (((h.set_ 0 x0).set_ 1 x1).set_ 2 x2).set_ 3 x3
theorem below4 {a w : World} {B g : Nat} (h : Below B a w) (hg : B ≤ g) (x0 x1 x2 x3 : Value) :
    Below B a ((((w.setCell ⟨g, 0, none⟩ x0).setCell ⟨g, 1, none⟩ x1).setCell ⟨g, 2, none⟩ x2).setCell ⟨g, 3, none⟩ x3) :=
  (((h.setCell (p := ⟨g, 0, none⟩) hg x0).setCell (p := ⟨g, 1, none⟩) hg x1).setCell (p := ⟨g, 2, none⟩) hg x2).setCell (p := ⟨g, 3, none⟩) hg x3
set_option maxHeartbeats 8000000 in
theorem rises_s0 (a b : Vec) (c : Int) (w : World) (h1 : te a c = 0) (h2 : te b c = 0) (hs : ¬ 0 < cmpV a b) (r : (a.root == b.root) = true) (s : (a.cost != b.cost) = true) (t : ((tv a c).cost == (tv b c).cost) = true) (u : (tv a c).cost = 4294967295) :
    Calls Try.prog 8 #[.agg #[.int .u64 a.root, .int .i64 a.cost, .int .u64 a.bridge, .int .i64 a.port], .agg #[.int .u64 b.root, .int .i64 b.cost, .int .u64 b.bridge, .int .i64 b.port], .int .i64 c] w fun e w' => e = .returned (.bool true) ∧ Below w.heap.size w w' := by
  have u' : ((tv a c).cost == 4294967295) = true := by simp [u]
  have U := Lib.hid u
  clear u
  go_enter Try.func8, Try.ntmps8
  go_wp2_with fail
  have hA0 := (Blk.new w 24 #[.int .u64 a.root, .int .i64 a.cost, .int .u64 a.bridge, .int .i64 a.port]).alloc (.cells #[.int .u64 b.root, .int .i64 b.cost, .int .u64 b.bridge, .int .i64 b.port] 24)
  have hB0 := Blk.new (w.alloc (.cells #[.int .u64 a.root, .int .i64 a.cost, .int .u64 a.bridge, .int .i64 a.port] 24)) 24 #[.int .u64 b.root, .int .i64 b.cost, .int .u64 b.bridge, .int .i64 b.port]
  simp only [World.size_alloc] at hB0
  have HA0 := Lib.hid hA0
  have HB0 := Lib.hid hB0
  clear hA0 hB0
  refine (through_ a c _).mono ?_
  rintro e w1 ⟨rfl, hb1⟩
  have q1 : w.heap.size + 1 < w1.heap.size := by have := hb1.size; simp at this; omega
  have q1' : w.heap.size < w1.heap.size := by omega
  have hw1 : Below w.heap.size w w1 := (((Below.refl _ _).alloc (Nat.le_refl _) _).alloc (by simp) _).trans (hb1.mono (by simp; omega))
  have hA1 := HA0.out.below hb1 (by simp; omega)
  have hB1 := HB0.out.below hb1 (by simp)
  clear hb1 HA0 HB0
  obtain ⟨b0, b1, b2, b3⟩ := vec4 hB1
  have HA1 := Lib.hid hA1
  have HB1 := Lib.hid hB1
  clear hA1 hB1
  go_wp2_with fail
  refine (through_ b c _).mono ?_
  rintro e w2 ⟨rfl, hb2⟩
  have q2 : w1.heap.size < w2.heap.size := by have := hb2.size; simp at this; omega
  have q2' : w.heap.size < w2.heap.size := by omega
  have q2'' : w.heap.size + 1 < w2.heap.size := by omega
  have hw2 : Below w.heap.size w w2 := (hw1.alloc (by omega) _).trans (hb2.mono (by simp; omega))
  have hA2 := (HA1.out.alloc (.cells #[.int .u64 (tv a c).root, .int .i64 (tv a c).cost, .int .u64 (tv a c).bridge, .int .i64 (tv a c).port] 24)).below hb2 (by simp; omega)
  have hB2 := (HB1.out.alloc (.cells #[.int .u64 (tv a c).root, .int .i64 (tv a c).cost, .int .u64 (tv a c).bridge, .int .i64 (tv a c).port] 24)).below hb2 (by simp; omega)
  have hX2 := (Blk.new w1 24 #[.int .u64 (tv a c).root, .int .i64 (tv a c).cost, .int .u64 (tv a c).bridge, .int .i64 (tv a c).port]).below hb2 (by simp)
  clear hb2 b0 b1 b2 b3 HA1 HB1
  obtain ⟨a0, a1, a2, a3⟩ := vec4 hA2
  obtain ⟨b0, b1, b2, b3⟩ := vec4 hB2
  have HA2 := Lib.hid (hA2.alloc (.cells #[.int .u64 (tv b c).root, .int .i64 (tv b c).cost, .int .u64 (tv b c).bridge, .int .i64 (tv b c).port] 24))
  have HB2 := Lib.hid (hB2.alloc (.cells #[.int .u64 (tv b c).root, .int .i64 (tv b c).cost, .int .u64 (tv b c).bridge, .int .i64 (tv b c).port] 24))
  have HX2 := Lib.hid (hX2.alloc (.cells #[.int .u64 (tv b c).root, .int .i64 (tv b c).cost, .int .u64 (tv b c).bridge, .int .i64 (tv b c).port] 24))
  have HY2 := Lib.hid (Blk.new w2 24 #[.int .u64 (tv b c).root, .int .i64 (tv b c).cost, .int .u64 (tv b c).bridge, .int .i64 (tv b c).port])
  clear hA2 hB2 hX2
  go_wp2_with fail
  refine (cmp a b _).mono ?_
  rintro e w3 ⟨rfl, hb3⟩
  have q3 : w2.heap.size < w3.heap.size := by have := hb3.size; simp at this; omega
  have hw3 : Below w.heap.size w w3 := (hw2.alloc (by omega) _).trans (hb3.mono (by simp; omega))
  have hA3 := HA2.out.below hb3 (by simp; omega)
  have hB3 := HB2.out.below hb3 (by simp; omega)
  have hX3 := HX2.out.below hb3 (by simp; omega)
  have hY3 := HY2.out.below hb3 (by simp)
  clear hb3 a0 a1 a2 a3 b0 b1 b2 b3 HA2 HB2 HX2 HY2
  obtain ⟨a0, a1, a2, a3⟩ := vec4 hA3
  obtain ⟨b0, b1, b2, b3⟩ := vec4 hB3
  obtain ⟨x0, x1, x2, x3⟩ := vec4 hX3
  obtain ⟨y0, y1, y2, y3⟩ := vec4 hY3
  clear hA3 hB3 hX3 hY3
  go_wp2_with fail
  refine (live_ _).mono ?_
  rintro e w5 ⟨rfl, hb5⟩
  go_wp2
  go_ret
  exact ⟨rfl, hw3.trans (hb5.mono (hw3.size))⟩
set_option maxHeartbeats 8000000 in
theorem rises_s1 (a b : Vec) (c : Int) (w : World) (h1 : te a c = 0) (h2 : te b c = 0) (hs : ¬ 0 < cmpV a b) (r : (a.root == b.root) = false) (u : cmpV (tv a c) (tv b c) ≤ 0) :
    Calls Try.prog 8 #[.agg #[.int .u64 a.root, .int .i64 a.cost, .int .u64 a.bridge, .int .i64 a.port], .agg #[.int .u64 b.root, .int .i64 b.cost, .int .u64 b.bridge, .int .i64 b.port], .int .i64 c] w fun e w' => e = .returned (.bool true) ∧ Below w.heap.size w w' := by
  go_enter Try.func8, Try.ntmps8
  go_wp2_with fail
  have hA0 := (Blk.new w 24 #[.int .u64 a.root, .int .i64 a.cost, .int .u64 a.bridge, .int .i64 a.port]).alloc (.cells #[.int .u64 b.root, .int .i64 b.cost, .int .u64 b.bridge, .int .i64 b.port] 24)
  have hB0 := Blk.new (w.alloc (.cells #[.int .u64 a.root, .int .i64 a.cost, .int .u64 a.bridge, .int .i64 a.port] 24)) 24 #[.int .u64 b.root, .int .i64 b.cost, .int .u64 b.bridge, .int .i64 b.port]
  simp only [World.size_alloc] at hB0
  have HA0 := Lib.hid hA0
  have HB0 := Lib.hid hB0
  clear hA0 hB0
  refine (through_ a c _).mono ?_
  rintro e w1 ⟨rfl, hb1⟩
  have q1 : w.heap.size + 1 < w1.heap.size := by have := hb1.size; simp at this; omega
  have q1' : w.heap.size < w1.heap.size := by omega
  have hw1 : Below w.heap.size w w1 := (((Below.refl _ _).alloc (Nat.le_refl _) _).alloc (by simp) _).trans (hb1.mono (by simp; omega))
  have hA1 := HA0.out.below hb1 (by simp; omega)
  have hB1 := HB0.out.below hb1 (by simp)
  clear hb1 HA0 HB0
  obtain ⟨b0, b1, b2, b3⟩ := vec4 hB1
  have HA1 := Lib.hid hA1
  have HB1 := Lib.hid hB1
  clear hA1 hB1
  go_wp2_with fail
  refine (through_ b c _).mono ?_
  rintro e w2 ⟨rfl, hb2⟩
  have q2 : w1.heap.size < w2.heap.size := by have := hb2.size; simp at this; omega
  have q2' : w.heap.size < w2.heap.size := by omega
  have q2'' : w.heap.size + 1 < w2.heap.size := by omega
  have hw2 : Below w.heap.size w w2 := (hw1.alloc (by omega) _).trans (hb2.mono (by simp; omega))
  have hA2 := (HA1.out.alloc (.cells #[.int .u64 (tv a c).root, .int .i64 (tv a c).cost, .int .u64 (tv a c).bridge, .int .i64 (tv a c).port] 24)).below hb2 (by simp; omega)
  have hB2 := (HB1.out.alloc (.cells #[.int .u64 (tv a c).root, .int .i64 (tv a c).cost, .int .u64 (tv a c).bridge, .int .i64 (tv a c).port] 24)).below hb2 (by simp; omega)
  have hX2 := (Blk.new w1 24 #[.int .u64 (tv a c).root, .int .i64 (tv a c).cost, .int .u64 (tv a c).bridge, .int .i64 (tv a c).port]).below hb2 (by simp)
  clear hb2 b0 b1 b2 b3 HA1 HB1
  obtain ⟨a0, a1, a2, a3⟩ := vec4 hA2
  obtain ⟨b0, b1, b2, b3⟩ := vec4 hB2
  have HA2 := Lib.hid (hA2.alloc (.cells #[.int .u64 (tv b c).root, .int .i64 (tv b c).cost, .int .u64 (tv b c).bridge, .int .i64 (tv b c).port] 24))
  have HB2 := Lib.hid (hB2.alloc (.cells #[.int .u64 (tv b c).root, .int .i64 (tv b c).cost, .int .u64 (tv b c).bridge, .int .i64 (tv b c).port] 24))
  have HX2 := Lib.hid (hX2.alloc (.cells #[.int .u64 (tv b c).root, .int .i64 (tv b c).cost, .int .u64 (tv b c).bridge, .int .i64 (tv b c).port] 24))
  have HY2 := Lib.hid (Blk.new w2 24 #[.int .u64 (tv b c).root, .int .i64 (tv b c).cost, .int .u64 (tv b c).bridge, .int .i64 (tv b c).port])
  clear hA2 hB2 hX2
  go_wp2_with fail
  refine (cmp a b _).mono ?_
  rintro e w3 ⟨rfl, hb3⟩
  have q3 : w2.heap.size < w3.heap.size := by have := hb3.size; simp at this; omega
  have hw3 : Below w.heap.size w w3 := (hw2.alloc (by omega) _).trans (hb3.mono (by simp; omega))
  have hA3 := HA2.out.below hb3 (by simp; omega)
  have hB3 := HB2.out.below hb3 (by simp; omega)
  have hX3 := HX2.out.below hb3 (by simp; omega)
  have hY3 := HY2.out.below hb3 (by simp)
  clear hb3 a0 a1 a2 a3 b0 b1 b2 b3 HA2 HB2 HX2 HY2
  obtain ⟨a0, a1, a2, a3⟩ := vec4 hA3
  obtain ⟨b0, b1, b2, b3⟩ := vec4 hB3
  obtain ⟨x0, x1, x2, x3⟩ := vec4 hX3
  obtain ⟨y0, y1, y2, y3⟩ := vec4 hY3
  clear hA3 hB3 hX3 hY3
  go_wp2_with fail
  refine (cmp (tv a c) (tv b c) _).mono ?_
  rintro e w4 ⟨rfl, hb4⟩
  have hw4 : Below w.heap.size w w4 := hw3.trans (hb4.mono hw3.size)
  clear hb4
  go_wp2_with fail
  refine (live_ _).mono ?_
  rintro e w5 ⟨rfl, hb5⟩
  go_wp2
  go_ret
  exact ⟨rfl, hw4.trans (hb5.mono (hw4.size))⟩
set_option maxHeartbeats 8000000 in
theorem rises_s2 (a b : Vec) (c : Int) (w : World) (h1 : te a c = 0) (h2 : te b c = 0) (hs : ¬ 0 < cmpV a b) (r : (a.root == b.root) = true) (s : (a.cost != b.cost) = false) (u : cmpV (tv a c) (tv b c) ≤ 0) :
    Calls Try.prog 8 #[.agg #[.int .u64 a.root, .int .i64 a.cost, .int .u64 a.bridge, .int .i64 a.port], .agg #[.int .u64 b.root, .int .i64 b.cost, .int .u64 b.bridge, .int .i64 b.port], .int .i64 c] w fun e w' => e = .returned (.bool true) ∧ Below w.heap.size w w' := by
  go_enter Try.func8, Try.ntmps8
  go_wp2_with fail
  have hA0 := (Blk.new w 24 #[.int .u64 a.root, .int .i64 a.cost, .int .u64 a.bridge, .int .i64 a.port]).alloc (.cells #[.int .u64 b.root, .int .i64 b.cost, .int .u64 b.bridge, .int .i64 b.port] 24)
  have hB0 := Blk.new (w.alloc (.cells #[.int .u64 a.root, .int .i64 a.cost, .int .u64 a.bridge, .int .i64 a.port] 24)) 24 #[.int .u64 b.root, .int .i64 b.cost, .int .u64 b.bridge, .int .i64 b.port]
  simp only [World.size_alloc] at hB0
  have HA0 := Lib.hid hA0
  have HB0 := Lib.hid hB0
  clear hA0 hB0
  refine (through_ a c _).mono ?_
  rintro e w1 ⟨rfl, hb1⟩
  have q1 : w.heap.size + 1 < w1.heap.size := by have := hb1.size; simp at this; omega
  have q1' : w.heap.size < w1.heap.size := by omega
  have hw1 : Below w.heap.size w w1 := (((Below.refl _ _).alloc (Nat.le_refl _) _).alloc (by simp) _).trans (hb1.mono (by simp; omega))
  have hA1 := HA0.out.below hb1 (by simp; omega)
  have hB1 := HB0.out.below hb1 (by simp)
  clear hb1 HA0 HB0
  obtain ⟨b0, b1, b2, b3⟩ := vec4 hB1
  have HA1 := Lib.hid hA1
  have HB1 := Lib.hid hB1
  clear hA1 hB1
  go_wp2_with fail
  refine (through_ b c _).mono ?_
  rintro e w2 ⟨rfl, hb2⟩
  have q2 : w1.heap.size < w2.heap.size := by have := hb2.size; simp at this; omega
  have q2' : w.heap.size < w2.heap.size := by omega
  have q2'' : w.heap.size + 1 < w2.heap.size := by omega
  have hw2 : Below w.heap.size w w2 := (hw1.alloc (by omega) _).trans (hb2.mono (by simp; omega))
  have hA2 := (HA1.out.alloc (.cells #[.int .u64 (tv a c).root, .int .i64 (tv a c).cost, .int .u64 (tv a c).bridge, .int .i64 (tv a c).port] 24)).below hb2 (by simp; omega)
  have hB2 := (HB1.out.alloc (.cells #[.int .u64 (tv a c).root, .int .i64 (tv a c).cost, .int .u64 (tv a c).bridge, .int .i64 (tv a c).port] 24)).below hb2 (by simp; omega)
  have hX2 := (Blk.new w1 24 #[.int .u64 (tv a c).root, .int .i64 (tv a c).cost, .int .u64 (tv a c).bridge, .int .i64 (tv a c).port]).below hb2 (by simp)
  clear hb2 b0 b1 b2 b3 HA1 HB1
  obtain ⟨a0, a1, a2, a3⟩ := vec4 hA2
  obtain ⟨b0, b1, b2, b3⟩ := vec4 hB2
  have HA2 := Lib.hid (hA2.alloc (.cells #[.int .u64 (tv b c).root, .int .i64 (tv b c).cost, .int .u64 (tv b c).bridge, .int .i64 (tv b c).port] 24))
  have HB2 := Lib.hid (hB2.alloc (.cells #[.int .u64 (tv b c).root, .int .i64 (tv b c).cost, .int .u64 (tv b c).bridge, .int .i64 (tv b c).port] 24))
  have HX2 := Lib.hid (hX2.alloc (.cells #[.int .u64 (tv b c).root, .int .i64 (tv b c).cost, .int .u64 (tv b c).bridge, .int .i64 (tv b c).port] 24))
  have HY2 := Lib.hid (Blk.new w2 24 #[.int .u64 (tv b c).root, .int .i64 (tv b c).cost, .int .u64 (tv b c).bridge, .int .i64 (tv b c).port])
  clear hA2 hB2 hX2
  go_wp2_with fail
  refine (cmp a b _).mono ?_
  rintro e w3 ⟨rfl, hb3⟩
  have q3 : w2.heap.size < w3.heap.size := by have := hb3.size; simp at this; omega
  have hw3 : Below w.heap.size w w3 := (hw2.alloc (by omega) _).trans (hb3.mono (by simp; omega))
  have hA3 := HA2.out.below hb3 (by simp; omega)
  have hB3 := HB2.out.below hb3 (by simp; omega)
  have hX3 := HX2.out.below hb3 (by simp; omega)
  have hY3 := HY2.out.below hb3 (by simp)
  clear hb3 a0 a1 a2 a3 b0 b1 b2 b3 HA2 HB2 HX2 HY2
  obtain ⟨a0, a1, a2, a3⟩ := vec4 hA3
  obtain ⟨b0, b1, b2, b3⟩ := vec4 hB3
  obtain ⟨x0, x1, x2, x3⟩ := vec4 hX3
  obtain ⟨y0, y1, y2, y3⟩ := vec4 hY3
  clear hA3 hB3 hX3 hY3
  go_wp2_with fail
  refine (cmp (tv a c) (tv b c) _).mono ?_
  rintro e w4 ⟨rfl, hb4⟩
  have hw4 : Below w.heap.size w w4 := hw3.trans (hb4.mono hw3.size)
  clear hb4
  go_wp2_with fail
  refine (live_ _).mono ?_
  rintro e w5 ⟨rfl, hb5⟩
  go_wp2
  go_ret
  exact ⟨rfl, hw4.trans (hb5.mono (hw4.size))⟩
set_option maxHeartbeats 8000000 in
theorem rises_s3 (a b : Vec) (c : Int) (w : World) (h1 : te a c = 0) (h2 : te b c = 0) (hs : ¬ 0 < cmpV a b) (r : (a.root == b.root) = true) (s : (a.cost != b.cost) = true) (t : ((tv a c).cost == (tv b c).cost) = false) (u : cmpV (tv a c) (tv b c) ≤ 0) :
    Calls Try.prog 8 #[.agg #[.int .u64 a.root, .int .i64 a.cost, .int .u64 a.bridge, .int .i64 a.port], .agg #[.int .u64 b.root, .int .i64 b.cost, .int .u64 b.bridge, .int .i64 b.port], .int .i64 c] w fun e w' => e = .returned (.bool true) ∧ Below w.heap.size w w' := by
  go_enter Try.func8, Try.ntmps8
  go_wp2_with fail
  have hA0 := (Blk.new w 24 #[.int .u64 a.root, .int .i64 a.cost, .int .u64 a.bridge, .int .i64 a.port]).alloc (.cells #[.int .u64 b.root, .int .i64 b.cost, .int .u64 b.bridge, .int .i64 b.port] 24)
  have hB0 := Blk.new (w.alloc (.cells #[.int .u64 a.root, .int .i64 a.cost, .int .u64 a.bridge, .int .i64 a.port] 24)) 24 #[.int .u64 b.root, .int .i64 b.cost, .int .u64 b.bridge, .int .i64 b.port]
  simp only [World.size_alloc] at hB0
  have HA0 := Lib.hid hA0
  have HB0 := Lib.hid hB0
  clear hA0 hB0
  refine (through_ a c _).mono ?_
  rintro e w1 ⟨rfl, hb1⟩
  have q1 : w.heap.size + 1 < w1.heap.size := by have := hb1.size; simp at this; omega
  have q1' : w.heap.size < w1.heap.size := by omega
  have hw1 : Below w.heap.size w w1 := (((Below.refl _ _).alloc (Nat.le_refl _) _).alloc (by simp) _).trans (hb1.mono (by simp; omega))
  have hA1 := HA0.out.below hb1 (by simp; omega)
  have hB1 := HB0.out.below hb1 (by simp)
  clear hb1 HA0 HB0
  obtain ⟨b0, b1, b2, b3⟩ := vec4 hB1
  have HA1 := Lib.hid hA1
  have HB1 := Lib.hid hB1
  clear hA1 hB1
  go_wp2_with fail
  refine (through_ b c _).mono ?_
  rintro e w2 ⟨rfl, hb2⟩
  have q2 : w1.heap.size < w2.heap.size := by have := hb2.size; simp at this; omega
  have q2' : w.heap.size < w2.heap.size := by omega
  have q2'' : w.heap.size + 1 < w2.heap.size := by omega
  have hw2 : Below w.heap.size w w2 := (hw1.alloc (by omega) _).trans (hb2.mono (by simp; omega))
  have hA2 := (HA1.out.alloc (.cells #[.int .u64 (tv a c).root, .int .i64 (tv a c).cost, .int .u64 (tv a c).bridge, .int .i64 (tv a c).port] 24)).below hb2 (by simp; omega)
  have hB2 := (HB1.out.alloc (.cells #[.int .u64 (tv a c).root, .int .i64 (tv a c).cost, .int .u64 (tv a c).bridge, .int .i64 (tv a c).port] 24)).below hb2 (by simp; omega)
  have hX2 := (Blk.new w1 24 #[.int .u64 (tv a c).root, .int .i64 (tv a c).cost, .int .u64 (tv a c).bridge, .int .i64 (tv a c).port]).below hb2 (by simp)
  clear hb2 b0 b1 b2 b3 HA1 HB1
  obtain ⟨a0, a1, a2, a3⟩ := vec4 hA2
  obtain ⟨b0, b1, b2, b3⟩ := vec4 hB2
  have HA2 := Lib.hid (hA2.alloc (.cells #[.int .u64 (tv b c).root, .int .i64 (tv b c).cost, .int .u64 (tv b c).bridge, .int .i64 (tv b c).port] 24))
  have HB2 := Lib.hid (hB2.alloc (.cells #[.int .u64 (tv b c).root, .int .i64 (tv b c).cost, .int .u64 (tv b c).bridge, .int .i64 (tv b c).port] 24))
  have HX2 := Lib.hid (hX2.alloc (.cells #[.int .u64 (tv b c).root, .int .i64 (tv b c).cost, .int .u64 (tv b c).bridge, .int .i64 (tv b c).port] 24))
  have HY2 := Lib.hid (Blk.new w2 24 #[.int .u64 (tv b c).root, .int .i64 (tv b c).cost, .int .u64 (tv b c).bridge, .int .i64 (tv b c).port])
  clear hA2 hB2 hX2
  go_wp2_with fail
  refine (cmp a b _).mono ?_
  rintro e w3 ⟨rfl, hb3⟩
  have q3 : w2.heap.size < w3.heap.size := by have := hb3.size; simp at this; omega
  have hw3 : Below w.heap.size w w3 := (hw2.alloc (by omega) _).trans (hb3.mono (by simp; omega))
  have hA3 := HA2.out.below hb3 (by simp; omega)
  have hB3 := HB2.out.below hb3 (by simp; omega)
  have hX3 := HX2.out.below hb3 (by simp; omega)
  have hY3 := HY2.out.below hb3 (by simp)
  clear hb3 a0 a1 a2 a3 b0 b1 b2 b3 HA2 HB2 HX2 HY2
  obtain ⟨a0, a1, a2, a3⟩ := vec4 hA3
  obtain ⟨b0, b1, b2, b3⟩ := vec4 hB3
  obtain ⟨x0, x1, x2, x3⟩ := vec4 hX3
  obtain ⟨y0, y1, y2, y3⟩ := vec4 hY3
  clear hA3 hB3 hX3 hY3
  go_wp2_with fail
  refine (cmp (tv a c) (tv b c) _).mono ?_
  rintro e w4 ⟨rfl, hb4⟩
  have hw4 : Below w.heap.size w w4 := hw3.trans (hb4.mono hw3.size)
  clear hb4
  go_wp2_with fail
  refine (live_ _).mono ?_
  rintro e w5 ⟨rfl, hb5⟩
  go_wp2
  go_ret
  exact ⟨rfl, hw4.trans (hb5.mono (hw4.size))⟩
set_option maxHeartbeats 8000000 in
theorem rises_t0 (a b : Vec) (c : Int) (w : World) (h1 : te a c = 0) (h2 : te b c = 0) (hs : 0 < cmpV a b) (r : (b.root == a.root) = true) (s : (b.cost != a.cost) = true) (t : ((tv b c).cost == (tv a c).cost) = true) (u : (tv b c).cost = 4294967295) :
    Calls Try.prog 8 #[.agg #[.int .u64 a.root, .int .i64 a.cost, .int .u64 a.bridge, .int .i64 a.port], .agg #[.int .u64 b.root, .int .i64 b.cost, .int .u64 b.bridge, .int .i64 b.port], .int .i64 c] w fun e w' => e = .returned (.bool true) ∧ Below w.heap.size w w' := by
  have u' : ((tv b c).cost == 4294967295) = true := by simp [u]
  have U := Lib.hid u
  clear u
  go_enter Try.func8, Try.ntmps8
  go_wp2_with fail
  have hA0 := (Blk.new w 24 #[.int .u64 a.root, .int .i64 a.cost, .int .u64 a.bridge, .int .i64 a.port]).alloc (.cells #[.int .u64 b.root, .int .i64 b.cost, .int .u64 b.bridge, .int .i64 b.port] 24)
  have hB0 := Blk.new (w.alloc (.cells #[.int .u64 a.root, .int .i64 a.cost, .int .u64 a.bridge, .int .i64 a.port] 24)) 24 #[.int .u64 b.root, .int .i64 b.cost, .int .u64 b.bridge, .int .i64 b.port]
  simp only [World.size_alloc] at hB0
  have HA0 := Lib.hid hA0
  have HB0 := Lib.hid hB0
  clear hA0 hB0
  refine (through_ a c _).mono ?_
  rintro e w1 ⟨rfl, hb1⟩
  have q1 : w.heap.size + 1 < w1.heap.size := by have := hb1.size; simp at this; omega
  have q1' : w.heap.size < w1.heap.size := by omega
  have hw1 : Below w.heap.size w w1 := (((Below.refl _ _).alloc (Nat.le_refl _) _).alloc (by simp) _).trans (hb1.mono (by simp; omega))
  have hA1 := HA0.out.below hb1 (by simp; omega)
  have hB1 := HB0.out.below hb1 (by simp)
  clear hb1 HA0 HB0
  obtain ⟨b0, b1, b2, b3⟩ := vec4 hB1
  have HA1 := Lib.hid hA1
  have HB1 := Lib.hid hB1
  clear hA1 hB1
  go_wp2_with fail
  refine (through_ b c _).mono ?_
  rintro e w2 ⟨rfl, hb2⟩
  have q2 : w1.heap.size < w2.heap.size := by have := hb2.size; simp at this; omega
  have q2' : w.heap.size < w2.heap.size := by omega
  have q2'' : w.heap.size + 1 < w2.heap.size := by omega
  have hw2 : Below w.heap.size w w2 := (hw1.alloc (by omega) _).trans (hb2.mono (by simp; omega))
  have hA2 := (HA1.out.alloc (.cells #[.int .u64 (tv a c).root, .int .i64 (tv a c).cost, .int .u64 (tv a c).bridge, .int .i64 (tv a c).port] 24)).below hb2 (by simp; omega)
  have hB2 := (HB1.out.alloc (.cells #[.int .u64 (tv a c).root, .int .i64 (tv a c).cost, .int .u64 (tv a c).bridge, .int .i64 (tv a c).port] 24)).below hb2 (by simp; omega)
  have hX2 := (Blk.new w1 24 #[.int .u64 (tv a c).root, .int .i64 (tv a c).cost, .int .u64 (tv a c).bridge, .int .i64 (tv a c).port]).below hb2 (by simp)
  clear hb2 b0 b1 b2 b3 HA1 HB1
  obtain ⟨a0, a1, a2, a3⟩ := vec4 hA2
  obtain ⟨b0, b1, b2, b3⟩ := vec4 hB2
  have HA2 := Lib.hid (hA2.alloc (.cells #[.int .u64 (tv b c).root, .int .i64 (tv b c).cost, .int .u64 (tv b c).bridge, .int .i64 (tv b c).port] 24))
  have HB2 := Lib.hid (hB2.alloc (.cells #[.int .u64 (tv b c).root, .int .i64 (tv b c).cost, .int .u64 (tv b c).bridge, .int .i64 (tv b c).port] 24))
  have HX2 := Lib.hid (hX2.alloc (.cells #[.int .u64 (tv b c).root, .int .i64 (tv b c).cost, .int .u64 (tv b c).bridge, .int .i64 (tv b c).port] 24))
  have HY2 := Lib.hid (Blk.new w2 24 #[.int .u64 (tv b c).root, .int .i64 (tv b c).cost, .int .u64 (tv b c).bridge, .int .i64 (tv b c).port])
  clear hA2 hB2 hX2
  go_wp2_with fail
  refine (cmp a b _).mono ?_
  rintro e w3 ⟨rfl, hb3⟩
  have q3 : w2.heap.size < w3.heap.size := by have := hb3.size; simp at this; omega
  have hw3 : Below w.heap.size w w3 := (hw2.alloc (by omega) _).trans (hb3.mono (by simp; omega))
  have hA3 := HA2.out.below hb3 (by simp; omega)
  have hB3 := HB2.out.below hb3 (by simp; omega)
  have hX3 := HX2.out.below hb3 (by simp; omega)
  have hY3 := HY2.out.below hb3 (by simp)
  clear hb3 a0 a1 a2 a3 b0 b1 b2 b3 HA2 HB2 HX2 HY2
  obtain ⟨a0, a1, a2, a3, a4, a5, a6, a7⟩ := vec_cells hA3
  obtain ⟨b0, b1, b2, b3, b4, b5, b6, b7⟩ := vec_cells hB3
  obtain ⟨x0, x1, x2, x3, x4, x5, x6, x7⟩ := vec_cells hX3
  obtain ⟨y0, y1, y2, y3, y4, y5, y6, y7⟩ := vec_cells hY3
  have q4 : w1.heap.size < w3.heap.size := by omega
  have q5 : w.heap.size < w3.heap.size := by omega
  have q6 : w.heap.size + 1 < w3.heap.size := by omega
  have n1 : w1.heap.size ≠ w.heap.size := by omega
  have n2 : w1.heap.size ≠ w.heap.size + 1 := by omega
  have n3 : w2.heap.size ≠ w.heap.size := by omega
  have n4 : w2.heap.size ≠ w.heap.size + 1 := by omega
  have n5 : w2.heap.size ≠ w1.heap.size := by omega
  have m1 : w.heap.size ≠ w1.heap.size := by omega
  have m2 : w.heap.size + 1 ≠ w1.heap.size := by omega
  have m3 : w.heap.size ≠ w2.heap.size := by omega
  have m4 : w.heap.size + 1 ≠ w2.heap.size := by omega
  have m5 : w1.heap.size ≠ w2.heap.size := by omega
  have HA3 := Lib.hid hA3
  have HB3 := Lib.hid hB3
  have HX3 := Lib.hid hX3
  have HY3 := Lib.hid hY3
  have ab : w.heap.size ≠ w.heap.size + 1 := by omega
  have ba : w.heap.size + 1 ≠ w.heap.size := by omega
  clear hA3 hB3 hX3 hY3
  go_upto_region 9 with fail
  go_cut [] (fun wx => Blk wx w.heap.size 24 #[.int .u64 b.root, .int .i64 b.cost, .int .u64 b.bridge, .int .i64 b.port] ∧ Blk wx (w.heap.size + 1) 24 #[.int .u64 a.root, .int .i64 a.cost, .int .u64 a.bridge, .int .i64 a.port] ∧ Blk wx w1.heap.size 24 #[.int .u64 (tv b c).root, .int .i64 (tv b c).cost, .int .u64 (tv b c).bridge, .int .i64 (tv b c).port] ∧ Blk wx w2.heap.size 24 #[.int .u64 (tv a c).root, .int .i64 (tv a c).cost, .int .u64 (tv a c).bridge, .int .i64 (tv a c).port] ∧ Below w.heap.size w wx)
  case first =>
    go_wp2_with fail
    go_meet
    exact ⟨(far4 (set4 (far4 (far4 HA3.out m1 _ _ _ _) m3 _ _ _ _) _ _ _ _) ab _ _ _ _).alloc _, (set4 (far4 (far4 (far4 HB3.out m2 _ _ _ _) m4 _ _ _ _) ba _ _ _ _) _ _ _ _).alloc _,
      (far4 (far4 (far4 (set4 HX3.out _ _ _ _) m5 _ _ _ _) n1 _ _ _ _) n2 _ _ _ _).alloc _, (far4 (far4 (set4 (far4 HY3.out n5 _ _ _ _) _ _ _ _) n3 _ _ _ _) n4 _ _ _ _).alloc _,
      (below4 (below4 (below4 (below4 hw3 (by omega) _ _ _ _) (by omega) _ _ _ _) (Nat.le_refl _) _ _ _ _) (by omega) _ _ _ _).alloc (by simp [World.setCell]; omega) _⟩
  obtain ⟨kA, kB, kX, kY, hwc⟩ := hcut
  clear a0 a1 a2 a3 a4 a5 a6 a7 b0 b1 b2 b3 b4 b5 b6 b7 x0 x1 x2 x3 x4 x5 x6 x7 y0 y1 y2 y3 y4 y5 y6 y7 HA3 HB3 HX3 HY3
  obtain ⟨a0, a1, a2, a3⟩ := vec4 kA
  obtain ⟨b0, b1, b2, b3⟩ := vec4 kB
  obtain ⟨x0, x1, x2, x3⟩ := vec4 kX
  obtain ⟨y0, y1, y2, y3⟩ := vec4 kY
  clear kA kB kX kY
  go_wp2_with fail
  refine (live_ _).mono ?_
  rintro e w5 ⟨rfl, hb5⟩
  go_wp2
  go_ret
  exact ⟨rfl, hwc.trans (hb5.mono (hwc.size))⟩
set_option maxHeartbeats 8000000 in
theorem rises_t1 (a b : Vec) (c : Int) (w : World) (h1 : te a c = 0) (h2 : te b c = 0) (hs : 0 < cmpV a b) (r : (b.root == a.root) = false) (u : cmpV (tv b c) (tv a c) ≤ 0) :
    Calls Try.prog 8 #[.agg #[.int .u64 a.root, .int .i64 a.cost, .int .u64 a.bridge, .int .i64 a.port], .agg #[.int .u64 b.root, .int .i64 b.cost, .int .u64 b.bridge, .int .i64 b.port], .int .i64 c] w fun e w' => e = .returned (.bool true) ∧ Below w.heap.size w w' := by
  go_enter Try.func8, Try.ntmps8
  go_wp2_with fail
  have hA0 := (Blk.new w 24 #[.int .u64 a.root, .int .i64 a.cost, .int .u64 a.bridge, .int .i64 a.port]).alloc (.cells #[.int .u64 b.root, .int .i64 b.cost, .int .u64 b.bridge, .int .i64 b.port] 24)
  have hB0 := Blk.new (w.alloc (.cells #[.int .u64 a.root, .int .i64 a.cost, .int .u64 a.bridge, .int .i64 a.port] 24)) 24 #[.int .u64 b.root, .int .i64 b.cost, .int .u64 b.bridge, .int .i64 b.port]
  simp only [World.size_alloc] at hB0
  have HA0 := Lib.hid hA0
  have HB0 := Lib.hid hB0
  clear hA0 hB0
  refine (through_ a c _).mono ?_
  rintro e w1 ⟨rfl, hb1⟩
  have q1 : w.heap.size + 1 < w1.heap.size := by have := hb1.size; simp at this; omega
  have q1' : w.heap.size < w1.heap.size := by omega
  have hw1 : Below w.heap.size w w1 := (((Below.refl _ _).alloc (Nat.le_refl _) _).alloc (by simp) _).trans (hb1.mono (by simp; omega))
  have hA1 := HA0.out.below hb1 (by simp; omega)
  have hB1 := HB0.out.below hb1 (by simp)
  clear hb1 HA0 HB0
  obtain ⟨b0, b1, b2, b3⟩ := vec4 hB1
  have HA1 := Lib.hid hA1
  have HB1 := Lib.hid hB1
  clear hA1 hB1
  go_wp2_with fail
  refine (through_ b c _).mono ?_
  rintro e w2 ⟨rfl, hb2⟩
  have q2 : w1.heap.size < w2.heap.size := by have := hb2.size; simp at this; omega
  have q2' : w.heap.size < w2.heap.size := by omega
  have q2'' : w.heap.size + 1 < w2.heap.size := by omega
  have hw2 : Below w.heap.size w w2 := (hw1.alloc (by omega) _).trans (hb2.mono (by simp; omega))
  have hA2 := (HA1.out.alloc (.cells #[.int .u64 (tv a c).root, .int .i64 (tv a c).cost, .int .u64 (tv a c).bridge, .int .i64 (tv a c).port] 24)).below hb2 (by simp; omega)
  have hB2 := (HB1.out.alloc (.cells #[.int .u64 (tv a c).root, .int .i64 (tv a c).cost, .int .u64 (tv a c).bridge, .int .i64 (tv a c).port] 24)).below hb2 (by simp; omega)
  have hX2 := (Blk.new w1 24 #[.int .u64 (tv a c).root, .int .i64 (tv a c).cost, .int .u64 (tv a c).bridge, .int .i64 (tv a c).port]).below hb2 (by simp)
  clear hb2 b0 b1 b2 b3 HA1 HB1
  obtain ⟨a0, a1, a2, a3⟩ := vec4 hA2
  obtain ⟨b0, b1, b2, b3⟩ := vec4 hB2
  have HA2 := Lib.hid (hA2.alloc (.cells #[.int .u64 (tv b c).root, .int .i64 (tv b c).cost, .int .u64 (tv b c).bridge, .int .i64 (tv b c).port] 24))
  have HB2 := Lib.hid (hB2.alloc (.cells #[.int .u64 (tv b c).root, .int .i64 (tv b c).cost, .int .u64 (tv b c).bridge, .int .i64 (tv b c).port] 24))
  have HX2 := Lib.hid (hX2.alloc (.cells #[.int .u64 (tv b c).root, .int .i64 (tv b c).cost, .int .u64 (tv b c).bridge, .int .i64 (tv b c).port] 24))
  have HY2 := Lib.hid (Blk.new w2 24 #[.int .u64 (tv b c).root, .int .i64 (tv b c).cost, .int .u64 (tv b c).bridge, .int .i64 (tv b c).port])
  clear hA2 hB2 hX2
  go_wp2_with fail
  refine (cmp a b _).mono ?_
  rintro e w3 ⟨rfl, hb3⟩
  have q3 : w2.heap.size < w3.heap.size := by have := hb3.size; simp at this; omega
  have hw3 : Below w.heap.size w w3 := (hw2.alloc (by omega) _).trans (hb3.mono (by simp; omega))
  have hA3 := HA2.out.below hb3 (by simp; omega)
  have hB3 := HB2.out.below hb3 (by simp; omega)
  have hX3 := HX2.out.below hb3 (by simp; omega)
  have hY3 := HY2.out.below hb3 (by simp)
  clear hb3 a0 a1 a2 a3 b0 b1 b2 b3 HA2 HB2 HX2 HY2
  obtain ⟨a0, a1, a2, a3, a4, a5, a6, a7⟩ := vec_cells hA3
  obtain ⟨b0, b1, b2, b3, b4, b5, b6, b7⟩ := vec_cells hB3
  obtain ⟨x0, x1, x2, x3, x4, x5, x6, x7⟩ := vec_cells hX3
  obtain ⟨y0, y1, y2, y3, y4, y5, y6, y7⟩ := vec_cells hY3
  have q4 : w1.heap.size < w3.heap.size := by omega
  have q5 : w.heap.size < w3.heap.size := by omega
  have q6 : w.heap.size + 1 < w3.heap.size := by omega
  have n1 : w1.heap.size ≠ w.heap.size := by omega
  have n2 : w1.heap.size ≠ w.heap.size + 1 := by omega
  have n3 : w2.heap.size ≠ w.heap.size := by omega
  have n4 : w2.heap.size ≠ w.heap.size + 1 := by omega
  have n5 : w2.heap.size ≠ w1.heap.size := by omega
  have m1 : w.heap.size ≠ w1.heap.size := by omega
  have m2 : w.heap.size + 1 ≠ w1.heap.size := by omega
  have m3 : w.heap.size ≠ w2.heap.size := by omega
  have m4 : w.heap.size + 1 ≠ w2.heap.size := by omega
  have m5 : w1.heap.size ≠ w2.heap.size := by omega
  have HA3 := Lib.hid hA3
  have HB3 := Lib.hid hB3
  have HX3 := Lib.hid hX3
  have HY3 := Lib.hid hY3
  have ab : w.heap.size ≠ w.heap.size + 1 := by omega
  have ba : w.heap.size + 1 ≠ w.heap.size := by omega
  clear hA3 hB3 hX3 hY3
  go_upto_region 9 with fail
  go_cut [] (fun wx => Blk wx w.heap.size 24 #[.int .u64 b.root, .int .i64 b.cost, .int .u64 b.bridge, .int .i64 b.port] ∧ Blk wx (w.heap.size + 1) 24 #[.int .u64 a.root, .int .i64 a.cost, .int .u64 a.bridge, .int .i64 a.port] ∧ Blk wx w1.heap.size 24 #[.int .u64 (tv b c).root, .int .i64 (tv b c).cost, .int .u64 (tv b c).bridge, .int .i64 (tv b c).port] ∧ Blk wx w2.heap.size 24 #[.int .u64 (tv a c).root, .int .i64 (tv a c).cost, .int .u64 (tv a c).bridge, .int .i64 (tv a c).port] ∧ Below w.heap.size w wx)
  case first =>
    go_wp2_with fail
    go_meet
    exact ⟨(far4 (set4 (far4 (far4 HA3.out m1 _ _ _ _) m3 _ _ _ _) _ _ _ _) ab _ _ _ _).alloc _, (set4 (far4 (far4 (far4 HB3.out m2 _ _ _ _) m4 _ _ _ _) ba _ _ _ _) _ _ _ _).alloc _,
      (far4 (far4 (far4 (set4 HX3.out _ _ _ _) m5 _ _ _ _) n1 _ _ _ _) n2 _ _ _ _).alloc _, (far4 (far4 (set4 (far4 HY3.out n5 _ _ _ _) _ _ _ _) n3 _ _ _ _) n4 _ _ _ _).alloc _,
      (below4 (below4 (below4 (below4 hw3 (by omega) _ _ _ _) (by omega) _ _ _ _) (Nat.le_refl _) _ _ _ _) (by omega) _ _ _ _).alloc (by simp [World.setCell]; omega) _⟩
  obtain ⟨kA, kB, kX, kY, hwc⟩ := hcut
  clear a0 a1 a2 a3 a4 a5 a6 a7 b0 b1 b2 b3 b4 b5 b6 b7 x0 x1 x2 x3 x4 x5 x6 x7 y0 y1 y2 y3 y4 y5 y6 y7 HA3 HB3 HX3 HY3
  obtain ⟨a0, a1, a2, a3⟩ := vec4 kA
  obtain ⟨b0, b1, b2, b3⟩ := vec4 kB
  obtain ⟨x0, x1, x2, x3⟩ := vec4 kX
  obtain ⟨y0, y1, y2, y3⟩ := vec4 kY
  clear kA kB kX kY
  go_wp2_with fail
  refine (cmp (tv b c) (tv a c) _).mono ?_
  rintro e w4 ⟨rfl, hb4⟩
  have hw4 : Below w.heap.size w w4 := hwc.trans (hb4.mono hwc.size)
  clear hb4
  go_wp2_with fail
  refine (live_ _).mono ?_
  rintro e w5 ⟨rfl, hb5⟩
  go_wp2
  go_ret
  exact ⟨rfl, hw4.trans (hb5.mono (hw4.size))⟩
set_option maxHeartbeats 8000000 in
theorem rises_t2 (a b : Vec) (c : Int) (w : World) (h1 : te a c = 0) (h2 : te b c = 0) (hs : 0 < cmpV a b) (r : (b.root == a.root) = true) (s : (b.cost != a.cost) = false) (u : cmpV (tv b c) (tv a c) ≤ 0) :
    Calls Try.prog 8 #[.agg #[.int .u64 a.root, .int .i64 a.cost, .int .u64 a.bridge, .int .i64 a.port], .agg #[.int .u64 b.root, .int .i64 b.cost, .int .u64 b.bridge, .int .i64 b.port], .int .i64 c] w fun e w' => e = .returned (.bool true) ∧ Below w.heap.size w w' := by
  go_enter Try.func8, Try.ntmps8
  go_wp2_with fail
  have hA0 := (Blk.new w 24 #[.int .u64 a.root, .int .i64 a.cost, .int .u64 a.bridge, .int .i64 a.port]).alloc (.cells #[.int .u64 b.root, .int .i64 b.cost, .int .u64 b.bridge, .int .i64 b.port] 24)
  have hB0 := Blk.new (w.alloc (.cells #[.int .u64 a.root, .int .i64 a.cost, .int .u64 a.bridge, .int .i64 a.port] 24)) 24 #[.int .u64 b.root, .int .i64 b.cost, .int .u64 b.bridge, .int .i64 b.port]
  simp only [World.size_alloc] at hB0
  have HA0 := Lib.hid hA0
  have HB0 := Lib.hid hB0
  clear hA0 hB0
  refine (through_ a c _).mono ?_
  rintro e w1 ⟨rfl, hb1⟩
  have q1 : w.heap.size + 1 < w1.heap.size := by have := hb1.size; simp at this; omega
  have q1' : w.heap.size < w1.heap.size := by omega
  have hw1 : Below w.heap.size w w1 := (((Below.refl _ _).alloc (Nat.le_refl _) _).alloc (by simp) _).trans (hb1.mono (by simp; omega))
  have hA1 := HA0.out.below hb1 (by simp; omega)
  have hB1 := HB0.out.below hb1 (by simp)
  clear hb1 HA0 HB0
  obtain ⟨b0, b1, b2, b3⟩ := vec4 hB1
  have HA1 := Lib.hid hA1
  have HB1 := Lib.hid hB1
  clear hA1 hB1
  go_wp2_with fail
  refine (through_ b c _).mono ?_
  rintro e w2 ⟨rfl, hb2⟩
  have q2 : w1.heap.size < w2.heap.size := by have := hb2.size; simp at this; omega
  have q2' : w.heap.size < w2.heap.size := by omega
  have q2'' : w.heap.size + 1 < w2.heap.size := by omega
  have hw2 : Below w.heap.size w w2 := (hw1.alloc (by omega) _).trans (hb2.mono (by simp; omega))
  have hA2 := (HA1.out.alloc (.cells #[.int .u64 (tv a c).root, .int .i64 (tv a c).cost, .int .u64 (tv a c).bridge, .int .i64 (tv a c).port] 24)).below hb2 (by simp; omega)
  have hB2 := (HB1.out.alloc (.cells #[.int .u64 (tv a c).root, .int .i64 (tv a c).cost, .int .u64 (tv a c).bridge, .int .i64 (tv a c).port] 24)).below hb2 (by simp; omega)
  have hX2 := (Blk.new w1 24 #[.int .u64 (tv a c).root, .int .i64 (tv a c).cost, .int .u64 (tv a c).bridge, .int .i64 (tv a c).port]).below hb2 (by simp)
  clear hb2 b0 b1 b2 b3 HA1 HB1
  obtain ⟨a0, a1, a2, a3⟩ := vec4 hA2
  obtain ⟨b0, b1, b2, b3⟩ := vec4 hB2
  have HA2 := Lib.hid (hA2.alloc (.cells #[.int .u64 (tv b c).root, .int .i64 (tv b c).cost, .int .u64 (tv b c).bridge, .int .i64 (tv b c).port] 24))
  have HB2 := Lib.hid (hB2.alloc (.cells #[.int .u64 (tv b c).root, .int .i64 (tv b c).cost, .int .u64 (tv b c).bridge, .int .i64 (tv b c).port] 24))
  have HX2 := Lib.hid (hX2.alloc (.cells #[.int .u64 (tv b c).root, .int .i64 (tv b c).cost, .int .u64 (tv b c).bridge, .int .i64 (tv b c).port] 24))
  have HY2 := Lib.hid (Blk.new w2 24 #[.int .u64 (tv b c).root, .int .i64 (tv b c).cost, .int .u64 (tv b c).bridge, .int .i64 (tv b c).port])
  clear hA2 hB2 hX2
  go_wp2_with fail
  refine (cmp a b _).mono ?_
  rintro e w3 ⟨rfl, hb3⟩
  have q3 : w2.heap.size < w3.heap.size := by have := hb3.size; simp at this; omega
  have hw3 : Below w.heap.size w w3 := (hw2.alloc (by omega) _).trans (hb3.mono (by simp; omega))
  have hA3 := HA2.out.below hb3 (by simp; omega)
  have hB3 := HB2.out.below hb3 (by simp; omega)
  have hX3 := HX2.out.below hb3 (by simp; omega)
  have hY3 := HY2.out.below hb3 (by simp)
  clear hb3 a0 a1 a2 a3 b0 b1 b2 b3 HA2 HB2 HX2 HY2
  obtain ⟨a0, a1, a2, a3, a4, a5, a6, a7⟩ := vec_cells hA3
  obtain ⟨b0, b1, b2, b3, b4, b5, b6, b7⟩ := vec_cells hB3
  obtain ⟨x0, x1, x2, x3, x4, x5, x6, x7⟩ := vec_cells hX3
  obtain ⟨y0, y1, y2, y3, y4, y5, y6, y7⟩ := vec_cells hY3
  have q4 : w1.heap.size < w3.heap.size := by omega
  have q5 : w.heap.size < w3.heap.size := by omega
  have q6 : w.heap.size + 1 < w3.heap.size := by omega
  have n1 : w1.heap.size ≠ w.heap.size := by omega
  have n2 : w1.heap.size ≠ w.heap.size + 1 := by omega
  have n3 : w2.heap.size ≠ w.heap.size := by omega
  have n4 : w2.heap.size ≠ w.heap.size + 1 := by omega
  have n5 : w2.heap.size ≠ w1.heap.size := by omega
  have m1 : w.heap.size ≠ w1.heap.size := by omega
  have m2 : w.heap.size + 1 ≠ w1.heap.size := by omega
  have m3 : w.heap.size ≠ w2.heap.size := by omega
  have m4 : w.heap.size + 1 ≠ w2.heap.size := by omega
  have m5 : w1.heap.size ≠ w2.heap.size := by omega
  have HA3 := Lib.hid hA3
  have HB3 := Lib.hid hB3
  have HX3 := Lib.hid hX3
  have HY3 := Lib.hid hY3
  have ab : w.heap.size ≠ w.heap.size + 1 := by omega
  have ba : w.heap.size + 1 ≠ w.heap.size := by omega
  clear hA3 hB3 hX3 hY3
  go_upto_region 9 with fail
  go_cut [] (fun wx => Blk wx w.heap.size 24 #[.int .u64 b.root, .int .i64 b.cost, .int .u64 b.bridge, .int .i64 b.port] ∧ Blk wx (w.heap.size + 1) 24 #[.int .u64 a.root, .int .i64 a.cost, .int .u64 a.bridge, .int .i64 a.port] ∧ Blk wx w1.heap.size 24 #[.int .u64 (tv b c).root, .int .i64 (tv b c).cost, .int .u64 (tv b c).bridge, .int .i64 (tv b c).port] ∧ Blk wx w2.heap.size 24 #[.int .u64 (tv a c).root, .int .i64 (tv a c).cost, .int .u64 (tv a c).bridge, .int .i64 (tv a c).port] ∧ Below w.heap.size w wx)
  case first =>
    go_wp2_with fail
    go_meet
    exact ⟨(far4 (set4 (far4 (far4 HA3.out m1 _ _ _ _) m3 _ _ _ _) _ _ _ _) ab _ _ _ _).alloc _, (set4 (far4 (far4 (far4 HB3.out m2 _ _ _ _) m4 _ _ _ _) ba _ _ _ _) _ _ _ _).alloc _,
      (far4 (far4 (far4 (set4 HX3.out _ _ _ _) m5 _ _ _ _) n1 _ _ _ _) n2 _ _ _ _).alloc _, (far4 (far4 (set4 (far4 HY3.out n5 _ _ _ _) _ _ _ _) n3 _ _ _ _) n4 _ _ _ _).alloc _,
      (below4 (below4 (below4 (below4 hw3 (by omega) _ _ _ _) (by omega) _ _ _ _) (Nat.le_refl _) _ _ _ _) (by omega) _ _ _ _).alloc (by simp [World.setCell]; omega) _⟩
  obtain ⟨kA, kB, kX, kY, hwc⟩ := hcut
  clear a0 a1 a2 a3 a4 a5 a6 a7 b0 b1 b2 b3 b4 b5 b6 b7 x0 x1 x2 x3 x4 x5 x6 x7 y0 y1 y2 y3 y4 y5 y6 y7 HA3 HB3 HX3 HY3
  obtain ⟨a0, a1, a2, a3⟩ := vec4 kA
  obtain ⟨b0, b1, b2, b3⟩ := vec4 kB
  obtain ⟨x0, x1, x2, x3⟩ := vec4 kX
  obtain ⟨y0, y1, y2, y3⟩ := vec4 kY
  clear kA kB kX kY
  go_wp2_with fail
  refine (cmp (tv b c) (tv a c) _).mono ?_
  rintro e w4 ⟨rfl, hb4⟩
  have hw4 : Below w.heap.size w w4 := hwc.trans (hb4.mono hwc.size)
  clear hb4
  go_wp2_with fail
  refine (live_ _).mono ?_
  rintro e w5 ⟨rfl, hb5⟩
  go_wp2
  go_ret
  exact ⟨rfl, hw4.trans (hb5.mono (hw4.size))⟩
set_option maxHeartbeats 8000000 in
theorem rises_t3 (a b : Vec) (c : Int) (w : World) (h1 : te a c = 0) (h2 : te b c = 0) (hs : 0 < cmpV a b) (r : (b.root == a.root) = true) (s : (b.cost != a.cost) = true) (t : ((tv b c).cost == (tv a c).cost) = false) (u : cmpV (tv b c) (tv a c) ≤ 0) :
    Calls Try.prog 8 #[.agg #[.int .u64 a.root, .int .i64 a.cost, .int .u64 a.bridge, .int .i64 a.port], .agg #[.int .u64 b.root, .int .i64 b.cost, .int .u64 b.bridge, .int .i64 b.port], .int .i64 c] w fun e w' => e = .returned (.bool true) ∧ Below w.heap.size w w' := by
  go_enter Try.func8, Try.ntmps8
  go_wp2_with fail
  have hA0 := (Blk.new w 24 #[.int .u64 a.root, .int .i64 a.cost, .int .u64 a.bridge, .int .i64 a.port]).alloc (.cells #[.int .u64 b.root, .int .i64 b.cost, .int .u64 b.bridge, .int .i64 b.port] 24)
  have hB0 := Blk.new (w.alloc (.cells #[.int .u64 a.root, .int .i64 a.cost, .int .u64 a.bridge, .int .i64 a.port] 24)) 24 #[.int .u64 b.root, .int .i64 b.cost, .int .u64 b.bridge, .int .i64 b.port]
  simp only [World.size_alloc] at hB0
  have HA0 := Lib.hid hA0
  have HB0 := Lib.hid hB0
  clear hA0 hB0
  refine (through_ a c _).mono ?_
  rintro e w1 ⟨rfl, hb1⟩
  have q1 : w.heap.size + 1 < w1.heap.size := by have := hb1.size; simp at this; omega
  have q1' : w.heap.size < w1.heap.size := by omega
  have hw1 : Below w.heap.size w w1 := (((Below.refl _ _).alloc (Nat.le_refl _) _).alloc (by simp) _).trans (hb1.mono (by simp; omega))
  have hA1 := HA0.out.below hb1 (by simp; omega)
  have hB1 := HB0.out.below hb1 (by simp)
  clear hb1 HA0 HB0
  obtain ⟨b0, b1, b2, b3⟩ := vec4 hB1
  have HA1 := Lib.hid hA1
  have HB1 := Lib.hid hB1
  clear hA1 hB1
  go_wp2_with fail
  refine (through_ b c _).mono ?_
  rintro e w2 ⟨rfl, hb2⟩
  have q2 : w1.heap.size < w2.heap.size := by have := hb2.size; simp at this; omega
  have q2' : w.heap.size < w2.heap.size := by omega
  have q2'' : w.heap.size + 1 < w2.heap.size := by omega
  have hw2 : Below w.heap.size w w2 := (hw1.alloc (by omega) _).trans (hb2.mono (by simp; omega))
  have hA2 := (HA1.out.alloc (.cells #[.int .u64 (tv a c).root, .int .i64 (tv a c).cost, .int .u64 (tv a c).bridge, .int .i64 (tv a c).port] 24)).below hb2 (by simp; omega)
  have hB2 := (HB1.out.alloc (.cells #[.int .u64 (tv a c).root, .int .i64 (tv a c).cost, .int .u64 (tv a c).bridge, .int .i64 (tv a c).port] 24)).below hb2 (by simp; omega)
  have hX2 := (Blk.new w1 24 #[.int .u64 (tv a c).root, .int .i64 (tv a c).cost, .int .u64 (tv a c).bridge, .int .i64 (tv a c).port]).below hb2 (by simp)
  clear hb2 b0 b1 b2 b3 HA1 HB1
  obtain ⟨a0, a1, a2, a3⟩ := vec4 hA2
  obtain ⟨b0, b1, b2, b3⟩ := vec4 hB2
  have HA2 := Lib.hid (hA2.alloc (.cells #[.int .u64 (tv b c).root, .int .i64 (tv b c).cost, .int .u64 (tv b c).bridge, .int .i64 (tv b c).port] 24))
  have HB2 := Lib.hid (hB2.alloc (.cells #[.int .u64 (tv b c).root, .int .i64 (tv b c).cost, .int .u64 (tv b c).bridge, .int .i64 (tv b c).port] 24))
  have HX2 := Lib.hid (hX2.alloc (.cells #[.int .u64 (tv b c).root, .int .i64 (tv b c).cost, .int .u64 (tv b c).bridge, .int .i64 (tv b c).port] 24))
  have HY2 := Lib.hid (Blk.new w2 24 #[.int .u64 (tv b c).root, .int .i64 (tv b c).cost, .int .u64 (tv b c).bridge, .int .i64 (tv b c).port])
  clear hA2 hB2 hX2
  go_wp2_with fail
  refine (cmp a b _).mono ?_
  rintro e w3 ⟨rfl, hb3⟩
  have q3 : w2.heap.size < w3.heap.size := by have := hb3.size; simp at this; omega
  have hw3 : Below w.heap.size w w3 := (hw2.alloc (by omega) _).trans (hb3.mono (by simp; omega))
  have hA3 := HA2.out.below hb3 (by simp; omega)
  have hB3 := HB2.out.below hb3 (by simp; omega)
  have hX3 := HX2.out.below hb3 (by simp; omega)
  have hY3 := HY2.out.below hb3 (by simp)
  clear hb3 a0 a1 a2 a3 b0 b1 b2 b3 HA2 HB2 HX2 HY2
  obtain ⟨a0, a1, a2, a3, a4, a5, a6, a7⟩ := vec_cells hA3
  obtain ⟨b0, b1, b2, b3, b4, b5, b6, b7⟩ := vec_cells hB3
  obtain ⟨x0, x1, x2, x3, x4, x5, x6, x7⟩ := vec_cells hX3
  obtain ⟨y0, y1, y2, y3, y4, y5, y6, y7⟩ := vec_cells hY3
  have q4 : w1.heap.size < w3.heap.size := by omega
  have q5 : w.heap.size < w3.heap.size := by omega
  have q6 : w.heap.size + 1 < w3.heap.size := by omega
  have n1 : w1.heap.size ≠ w.heap.size := by omega
  have n2 : w1.heap.size ≠ w.heap.size + 1 := by omega
  have n3 : w2.heap.size ≠ w.heap.size := by omega
  have n4 : w2.heap.size ≠ w.heap.size + 1 := by omega
  have n5 : w2.heap.size ≠ w1.heap.size := by omega
  have m1 : w.heap.size ≠ w1.heap.size := by omega
  have m2 : w.heap.size + 1 ≠ w1.heap.size := by omega
  have m3 : w.heap.size ≠ w2.heap.size := by omega
  have m4 : w.heap.size + 1 ≠ w2.heap.size := by omega
  have m5 : w1.heap.size ≠ w2.heap.size := by omega
  have HA3 := Lib.hid hA3
  have HB3 := Lib.hid hB3
  have HX3 := Lib.hid hX3
  have HY3 := Lib.hid hY3
  have ab : w.heap.size ≠ w.heap.size + 1 := by omega
  have ba : w.heap.size + 1 ≠ w.heap.size := by omega
  clear hA3 hB3 hX3 hY3
  go_upto_region 9 with fail
  go_cut [] (fun wx => Blk wx w.heap.size 24 #[.int .u64 b.root, .int .i64 b.cost, .int .u64 b.bridge, .int .i64 b.port] ∧ Blk wx (w.heap.size + 1) 24 #[.int .u64 a.root, .int .i64 a.cost, .int .u64 a.bridge, .int .i64 a.port] ∧ Blk wx w1.heap.size 24 #[.int .u64 (tv b c).root, .int .i64 (tv b c).cost, .int .u64 (tv b c).bridge, .int .i64 (tv b c).port] ∧ Blk wx w2.heap.size 24 #[.int .u64 (tv a c).root, .int .i64 (tv a c).cost, .int .u64 (tv a c).bridge, .int .i64 (tv a c).port] ∧ Below w.heap.size w wx)
  case first =>
    go_wp2_with fail
    go_meet
    exact ⟨(far4 (set4 (far4 (far4 HA3.out m1 _ _ _ _) m3 _ _ _ _) _ _ _ _) ab _ _ _ _).alloc _, (set4 (far4 (far4 (far4 HB3.out m2 _ _ _ _) m4 _ _ _ _) ba _ _ _ _) _ _ _ _).alloc _,
      (far4 (far4 (far4 (set4 HX3.out _ _ _ _) m5 _ _ _ _) n1 _ _ _ _) n2 _ _ _ _).alloc _, (far4 (far4 (set4 (far4 HY3.out n5 _ _ _ _) _ _ _ _) n3 _ _ _ _) n4 _ _ _ _).alloc _,
      (below4 (below4 (below4 (below4 hw3 (by omega) _ _ _ _) (by omega) _ _ _ _) (Nat.le_refl _) _ _ _ _) (by omega) _ _ _ _).alloc (by simp [World.setCell]; omega) _⟩
  obtain ⟨kA, kB, kX, kY, hwc⟩ := hcut
  clear a0 a1 a2 a3 a4 a5 a6 a7 b0 b1 b2 b3 b4 b5 b6 b7 x0 x1 x2 x3 x4 x5 x6 x7 y0 y1 y2 y3 y4 y5 y6 y7 HA3 HB3 HX3 HY3
  obtain ⟨a0, a1, a2, a3⟩ := vec4 kA
  obtain ⟨b0, b1, b2, b3⟩ := vec4 kB
  obtain ⟨x0, x1, x2, x3⟩ := vec4 kX
  obtain ⟨y0, y1, y2, y3⟩ := vec4 kY
  clear kA kB kX kY
  go_wp2_with fail
  refine (cmp (tv b c) (tv a c) _).mono ?_
  rintro e w4 ⟨rfl, hb4⟩
  have hw4 : Below w.heap.size w w4 := hwc.trans (hb4.mono hwc.size)
  clear hb4
  go_wp2_with fail
  refine (live_ _).mono ?_
  rintro e w5 ⟨rfl, hb5⟩
  go_wp2
  go_ret
  exact ⟨rfl, hw4.trans (hb5.mono (hw4.size))⟩
end Prio
end Go.Proofs.Ytjklleoeganmhaa
