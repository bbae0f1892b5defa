/-
  The walk of PrioCompares: for any two vectors.
-/
import Derived.Test.YtjklleoeganmhaaPrioLaws3
import Derived.Deep.RegionHeld3
namespace Go.Proofs.Ytjklleoeganmhaa
open Go.RowKit
namespace Prio
set_option maxHeartbeats 4000000 in
theorem law_compares (a b : Vec) (w : World) :
    Calls Try.prog 3 #[.agg #[.int .u64 a.root, .int .i64 a.cost, .int .u64 a.bridge, .int .i64 a.port], .agg #[.int .u64 b.root, .int .i64 b.cost, .int .u64 b.bridge, .int .i64 b.port]] w fun e w' => e = .returned (.bool true) ∧ Below w.heap.size w w' := by
  have heq := eql_yes ⟨a.root, 0, a.root, 0⟩
  go_enter Try.func3, Try.ntmps3
  go_wp2_with fail
  have hA0 := (Blk.new w 24 #[.int .u64 a.root, .int .i64 a.cost, .int .u64 a.bridge, .int .i64 a.port]).alloc (.cells #[.int .u64 b.root, .int .i64 b.cost, .int .u64 b.bridge, .int .i64 b.port] 24)
  have hB0 := Blk.new (w.alloc (.cells #[.int .u64 a.root, .int .i64 a.cost, .int .u64 a.bridge, .int .i64 a.port] 24)) 24 #[.int .u64 b.root, .int .i64 b.cost, .int .u64 b.bridge, .int .i64 b.port]
  have hw0 : Below w.heap.size w ((w.alloc (.cells #[.int .u64 a.root, .int .i64 a.cost, .int .u64 a.bridge, .int .i64 a.port] 24)).alloc (.cells #[.int .u64 b.root, .int .i64 b.cost, .int .u64 b.bridge, .int .i64 b.port] 24)) := by repeat (first | exact Below.refl _ _ | apply Below.drew | (refine Below.alloc ?_ (by simp <;> omega) _) | (refine Below.setCell ?_ (by simp <;> omega) _))
  simp only [World.size_alloc] at hB0
  generalize (w.alloc (.cells #[.int .u64 a.root, .int .i64 a.cost, .int .u64 a.bridge, .int .i64 a.port] 24)).alloc (.cells #[.int .u64 b.root, .int .i64 b.cost, .int .u64 b.bridge, .int .i64 b.port] 24) = W0 at *
  obtain ⟨a00, a01, a02, a03⟩ := vec4 hA0
  obtain ⟨b00, b01, b02, b03⟩ := vec4 hB0
  have HA0 := Lib.hid hA0
  have HB0 := Lib.hid hB0
  clear hA0 hB0
  go_region_held3 (fun w' => w'.cell? ⟨w.heap.size, 0, none⟩ = some (.int .u64 a.root) ∧ w'.cell? ⟨w.heap.size, 1, none⟩ = some (.int .i64 a.cost) ∧ w'.cell? ⟨w.heap.size, 2, none⟩ = some (.int .u64 a.bridge) ∧ w'.cell? ⟨w.heap.size, 3, none⟩ = some (.int .i64 a.port) ∧ w'.cell? ⟨w.heap.size + 1, 0, none⟩ = some (.int .u64 b.root) ∧ w'.cell? ⟨w.heap.size + 1, 1, none⟩ = some (.int .i64 b.cost) ∧ w'.cell? ⟨w.heap.size + 1, 2, none⟩ = some (.int .u64 b.bridge) ∧ w'.cell? ⟨w.heap.size + 1, 3, none⟩ = some (.int .i64 b.port))
    (first
      | (simp [a00, a01, a02, a03, b00, b01, b02, b03]; done)
      | (simp [a10, a11, a12, a13, b10, b11, b12, b13]; done)
      | (simp [a20, a21, a22, a23, b20, b21, b22, b23]; done)
      | (simp [a30, a31, a32, a33, b30, b31, b32, b33]; done)
      | (simp [a40, a41, a42, a43, b40, b41, b42, b43]; done)
      | (simp [a50, a51, a52, a53, b50, b51, b52, b53]; done))
    (first
      | (go_at_call 9; refine (cmp a b _).mono ?_; rintro e w1 ⟨rfl, hb1⟩; have hA1 := HA0.out.drew.below hb1 HA0.out.lt; have hB1 := HB0.out.drew.below hb1 HB0.out.lt; have HA1 := Lib.hid hA1; have HB1 := Lib.hid hB1; obtain ⟨a10, a11, a12, a13⟩ := vec4 hA1; obtain ⟨b10, b11, b12, b13⟩ := vec4 hB1; clear hA1 hB1)
      | (go_at_call 10; refine (rcmp_ a b _).mono ?_; rintro e w2 ⟨rfl, hb2⟩; have hA2 := HA1.out.below hb2 HA1.out.lt; have hB2 := HB1.out.below hb2 HB1.out.lt; have HA2 := Lib.hid hA2; have HB2 := Lib.hid hB2; obtain ⟨a20, a21, a22, a23⟩ := vec4 hA2; obtain ⟨b20, b21, b22, b23⟩ := vec4 hB2; clear hA2 hB2)
      | (go_at_call 11; refine (own_ a.root _).mono ?_; rintro e w3 ⟨rfl, hb3⟩; have hA3 := HA2.out.below hb3 HA2.out.lt; have hB3 := HB2.out.below hb3 HB2.out.lt; have HA3 := Lib.hid hA3; have HB3 := Lib.hid hB3; obtain ⟨a30, a31, a32, a33⟩ := vec4 hA3; obtain ⟨b30, b31, b32, b33⟩ := vec4 hB3; clear hA3 hB3)
      | (go_at_call 12; refine (rown_ a.root _).mono ?_; rintro e w4 ⟨rfl, hb4⟩; have hA4 := HA3.out.below hb4 HA3.out.lt; have hB4 := HB3.out.below hb4 HB3.out.lt; have HA4 := Lib.hid hA4; have HB4 := Lib.hid hB4; obtain ⟨a40, a41, a42, a43⟩ := vec4 hA4; obtain ⟨b40, b41, b42, b43⟩ := vec4 hB4; clear hA4 hB4)
      | (go_at_call 13; refine (live_ _).mono ?_; rintro e w5 ⟨rfl, hb5⟩; have hA5 := HA4.out.below hb5 HA4.out.lt; have hB5 := HB4.out.below hb5 HB4.out.lt; have HA5 := Lib.hid hA5; have HB5 := Lib.hid hB5; obtain ⟨a50, a51, a52, a53⟩ := vec4 hA5; obtain ⟨b50, b51, b52, b53⟩ := vec4 hB5; clear hA5 hB5))
  go_wp2
  go_ret
  have e1 := hw0.drew.trans (hb1.mono hw0.size)
  have e2 := e1.trans (hb2.mono e1.size)
  have e3 := e2.trans (hb3.mono e2.size)
  have e4 := e3.trans (hb4.mono e3.size)
  exact ⟨rfl, e4.trans (hb5.mono e4.size)⟩
end Prio
end Go.Proofs.Ytjklleoeganmhaa
