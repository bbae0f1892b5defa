/-
  The walk of PrioRoles: of anything that was heard.
-/
import Derived.Test.YtjklleoeganmhaaPrioLaws3
namespace Go.Proofs.Ytjklleoeganmhaa
open Go.RowKit
namespace Prio
theorem law_roles_long (b : Int) (A : Option Addr) (n c : Nat) (w : World) (hn : 40 < n) :
    Calls Try.prog 5 #[.int .u64 b, .slice A n c] w fun e w' => e = .returned (.bool true) ∧ Below w.heap.size w w' := by
  have hn' : (40 : Int) < (n : Int) := by omega
  go_enter Try.func5, Try.ntmps5
  go_wp2_with fail
  refine (live_ _).mono ?_
  rintro e w1 ⟨rfl, hb1⟩
  go_wp2
  go_ret
  exact ⟨rfl, hb1⟩
set_option maxHeartbeats 4000000 in
theorem law_roles (b : Int) (A : Option Addr) (n c : Nat) (hs : List Heard) (w : World) (hn : n ≤ 40) (hr : Reads w w.heap.size 6 A n (hs.flatMap cellsH)) :
    Calls Try.prog 5 #[.int .u64 b, .slice A n c] w fun e w' => e = .returned (.bool true) ∧ Below w.heap.size w w' := by
  have hn' : ¬ (40 : Int) < (n : Int) := by omega
  have heq := eql_yes (bestOf b hs).2
  have hl : (rolesOf b hs).length = n := by
    have h := hr.1
    rw [cellsH_len] at h
    rw [rolesOf, rolesTo_length _ _ _ _ (Nat.le_refl _)]
    omega
  go_enter Try.func5, Try.ntmps5
  go_wp2_with fail
  refine (told_ A n c hs _ hn hr).mono ?_
  rintro e w1 ⟨⟨A1, c1, rfl, hr1⟩, hb1⟩
  go_wp2_with fail
  refine (best_ b A1 n c1 hs _ hn hr1).mono ?_
  rintro e w2 ⟨rfl, hb2⟩
  have hw2 : Below w.heap.size w w2 := hb1.trans (hb2.mono hb1.size)
  clear hb1 hb2 hr1
  go_wp2_with fail
  refine (rbest_ b A n c hs _ hn (((hr.below hw2).alloc hw2.size _).more (by have := hw2.size; simp; omega))).mono ?_
  rintro e w3 ⟨rfl, hb3⟩
  have hx3 := (Blk.new w2 24 #[.int .u64 ((bestOf b hs).2).root, .int .i64 ((bestOf b hs).2).cost, .int .u64 ((bestOf b hs).2).bridge, .int .i64 ((bestOf b hs).2).port]).below hb3 (by simp)
  have hw3 : Below w.heap.size w w3 := (hw2.alloc hw2.size _).trans (hb3.mono (by have := hw2.size; simp; omega))
  have q3 : w2.heap.size < w3.heap.size := by have := hb3.size; simp at this; omega
  clear hb3
  have HX3 := Lib.hid hx3
  clear hx3
  go_wp2_with fail
  refine (told_ A n c hs _ hn (((hr.below hw3).alloc hw3.size _).more (by have := hw3.size; simp; omega))).mono ?_
  rintro e w4 ⟨⟨A4, c4, rfl, hr4⟩, hb4⟩
  have hw4 : Below w.heap.size w w4 := (hw3.alloc hw3.size _).trans (hb4.mono (by have := hw3.size; simp; omega))
  have hx4 := (HX3.out.alloc _).below hb4 (by simp; omega)
  have hy4 := (Blk.new w3 24 #[.int .u64 ((bestOf b hs).2).root, .int .i64 ((bestOf b hs).2).cost, .int .u64 ((bestOf b hs).2).bridge, .int .i64 ((bestOf b hs).2).port]).below hb4 (by simp)
  clear hb4 HX3
  go_wp2_with fail
  refine (roles_ b A4 n c4 hs _ hn hr4).mono ?_
  rintro e w5 ⟨⟨A5, c5, rfl, hr5⟩, hb5⟩
  have hw5 : Below w.heap.size w w5 := hw4.trans (hb5.mono hw4.size)
  have hx5 := hx4.below hb5 hx4.lt
  have hy5 := hy4.below hb5 hy4.lt
  obtain ⟨x0, x1, x2, x3⟩ := vec4 hx5
  obtain ⟨y0, y1, y2, y3⟩ := vec4 hy5
  clear hb5 hr4 hx4 hy4 hx5 hy5
  go_wp2_with fail
  refine (rroles_ b A n c hs _ hn ((hr.below hw5).more hw5.size)).mono ?_
  rintro e w6 ⟨⟨A6, c6, rfl, hr6⟩, hb6⟩
  have hw6 : Below w.heap.size w w6 := hw5.trans (hb6.mono hw5.size)
  have hr5' := (hr5.below hb6).more hb6.size
  clear x0 x1 x2 x3 y0 y1 y2 y3 hb6 hr5
  go_wp2_with fail
  refine (sameInts_ A5 A6 n c5 c6 (rolesOf b hs) _ (by omega) hr5' hr6).mono ?_
  rintro e w7 ⟨rfl, hb7⟩
  have hw7 : Below w.heap.size w w7 := hw6.trans (hb7.mono hw6.size)
  clear hb7 hr5' hr6
  go_wp2_with fail
  refine (live_ _).mono ?_
  rintro e w8 ⟨rfl, hb8⟩
  go_wp2
  go_ret
  exact ⟨rfl, hw7.trans (hb8.mono hw7.size)⟩
end Prio
end Go.Proofs.Ytjklleoeganmhaa
