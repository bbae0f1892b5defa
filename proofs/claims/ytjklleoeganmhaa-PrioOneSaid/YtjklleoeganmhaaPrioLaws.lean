/-
  The walks of the laws of layer 14.
-/
import Derived.Test.YtjklleoeganmhaaPrioRoles
namespace Go.Proofs.Ytjklleoeganmhaa
open Go.RowKit
namespace Prio
theorem sameInts_ (A A' : Option Addr) (n c c' : Nat) (xs : List Int) (w : World) (hn : n ≤ 4096) (hr : Reads w w.heap.size 1 A n (xs.map (Value.int .i64))) (hr' : Reads w w.heap.size 1 A' n (xs.map (Value.int .i64))) :
    Calls Try.prog 20 #[.slice A n c, .slice A' n c'] w fun e w' => e = .returned (.bool true) ∧ Below w.heap.size w w' := by
  have hlen : xs.length = n := by simpa using hr.1
  have HL := Lib.hid hlen
  clear hlen
  go_enter Try.func20, Try.ntmps20
  go_wp2
  go_loopw [5] (fun i wr => ∃ k : Nat, k ≤ n ∧ i = .int .i64 k ∧ Below w.heap.size w wr) (fun i _ => n - (intOf i).toNat)
  case atStart => exact ⟨0, Nat.zero_le _, rfl, Below.refl _ _⟩
  case round =>
    obtain ⟨k, hk, rfl, hbel⟩ := hrel
    by_cases hlt : k < n
    · have hlt' : (k : Int) < (n : Int) := by omega
      obtain ⟨b, off, rfl, hb, hc⟩ := (hr.below hbel).flat (by omega) (by simp [HL.out]; omega)
      obtain ⟨b', off', rfl, hb', hc'⟩ := (hr'.below hbel).flat (by omega) (by simp [HL.out]; omega)
      have hx : (xs.map (Value.int .i64))[k]? = some (.int .i64 (xs[k]'(by rw [HL.out]; exact hlt))) := by simp
      have c0 := hc k _ hx
      have c1 := hc' k _ hx
      generalize xs[k]'(by rw [HL.out]; exact hlt) = x at *
      clear hc hc' hx
      go_wp2
      go_quiet (fail)
      go_wp2
      go_roundw
      case rel => exact ⟨k + 1, by omega, by go_num, below_drewN hbel _⟩
      case measure => simp [intOf]; omega
    · have hke : k = n := by omega
      have HK := Lib.hid hke
      clear hke
      go_wp2
      go_ret
      exact ⟨rfl, hbel⟩
theorem reads_new (w : World) (l : List Value) (t : TypeId) (size n : Nat) (hl : l.length = n * size) : Reads (w.alloc (.cells l.toArray t)) (w.heap.size + 1) size (some ⟨w.heap.size, 0, none⟩) n l :=
  ⟨hl, fun _ => ⟨⟨w.heap.size, 0, none⟩, rfl, Nat.lt_succ_self _, new_cells w l t⟩⟩
def liveL : List Heard := [⟨true, ⟨1, 0, 1, 2⟩, 10⟩]
theorem live_best : bestOf 5 liveL = (0, ⟨1, 10, 1, 2⟩) := by decide
theorem live_roles : rolesOf 5 liveL = [1] := by decide
set_option maxHeartbeats 4000000 in
theorem live_ (w : World) : Calls Try.prog 13 #[] w fun e w' => e = .returned (.bool true) ∧ Below w.heap.size w w' := by
  have hte : te ⟨1, 10, 1, 2⟩ 0 = 1 := by decide
  have hcm : cmpV ⟨1, 10, 1, 2⟩ ⟨5, 0, 5, 0⟩ = -1 := by decide
  go_enter Try.func13, Try.ntmps13
  go_wp2_with fail
  have hr0 := reads_new w (liveL.flatMap cellsH) 46 6 1 rfl
  refine (best_ 5 (some ⟨w.heap.size, 0, none⟩) 1 1 liveL _ (by omega) (hr0.more (by simp))).mono ?_
  rw [live_best]
  rintro e w1 ⟨rfl, hb1⟩
  have hz1 := hb1.size
  simp only [World.size_alloc] at hz1
  have hr1 := (hr0.more (B' := (w.alloc (.cells (liveL.flatMap cellsH).toArray 46)).heap.size) (by simp)).below hb1
  have hw1 : Below w.heap.size w w1 := ((Below.refl _ _).alloc (Nat.le_refl _) _).trans (hb1.mono (by simp))
  have HR0 := Lib.hid hr1
  clear hr0 hr1 hb1
  go_wp2_with fail
  refine (roles_ 5 (some ⟨w.heap.size, 0, none⟩) 1 1 liveL _ (by omega) ((HR0.out.alloc (by simpa using hz1) _).more (by simp; omega))).mono ?_
  rw [live_roles]
  rintro e w2 ⟨⟨A2, c2, rfl, hr2⟩, hb2⟩
  have hz2 := hb2.size
  simp only [World.size_alloc] at hz2
  have hV2 := (Blk.new w1 24 #[.int .u64 1, .int .i64 10, .int .u64 1, .int .i64 2]).below hb2 (by simp)
  have hw2 : Below w.heap.size w w2 := (hw1.alloc (by omega) _).trans (hb2.mono (by simp; omega))
  obtain ⟨v0, v1, v2, v3, f0, f1, f2, f3⟩ := vec_cells (v := ⟨1, 10, 1, 2⟩) hV2
  have HR2 := Lib.hid hr2
  clear hr2 hV2
  go_wp2_with (go_at_call 14; refine (through_ ⟨1, 10, 1, 2⟩ 0 _).mono ?_; rintro e w3 ⟨rfl, hb3⟩)
  obtain ⟨hc3, _⟩ := bcell hb3
  have hz3 := hb3.size
  have a0 : w3.cell? ⟨w1.heap.size, 0, none⟩ = some (.int .u64 1) := by rw [hc3 _ _ (by omega)]; exact v0
  have a1 : w3.cell? ⟨w1.heap.size, 1, none⟩ = some (.int .i64 10) := by rw [hc3 _ _ (by omega)]; exact v1
  have a2 : w3.cell? ⟨w1.heap.size, 2, none⟩ = some (.int .u64 1) := by rw [hc3 _ _ (by omega)]; exact v2
  have a3 : w3.cell? ⟨w1.heap.size, 3, none⟩ = some (.int .i64 2) := by rw [hc3 _ _ (by omega)]; exact v3
  have HR3 := Lib.hid ((HR2.out.below hb3).more hz3)
  have hw3 : Below w.heap.size w w3 := hw2.trans (hb3.mono (by omega))
  clear v0 v1 v2 v3 f0 f1 f2 f3 hc3
  have R1 : ∀ O1 O2 : Obj, Reads ((w3.alloc O1).alloc O2).drew ((w3.alloc O1).alloc O2).drew.heap.size 1 A2 1 ([1].map (Value.int .i64)) := fun O1 O2 =>
    (((HR3.out.alloc (Nat.le_refl _) O1).alloc (by simp) O2).more (B' := ((w3.alloc O1).alloc O2).heap.size) (by simp; omega))
  have R2 : ∀ O1 : Obj, Reads ((w3.alloc O1).alloc (.cells #[.int .i64 1] 3)).drew ((w3.alloc O1).alloc (.cells #[.int .i64 1] 3)).drew.heap.size 1 (some ⟨w3.heap.size + 1, 0, none⟩) 1 ([1].map (Value.int .i64)) := fun O1 => by
    have h := (reads_new (w3.alloc O1) [.int .i64 1] 3 1 1 rfl).more (B' := ((w3.alloc O1).alloc (.cells #[.int .i64 1] 3)).heap.size) (by simp)
    rw [show (w3.alloc O1).heap.size = w3.heap.size + 1 by simp] at h
    exact h
  go_region_held3 (fun w' => w'.cell? ⟨w1.heap.size, 0, none⟩ = some (.int .u64 1) ∧ w'.cell? ⟨w1.heap.size, 1, none⟩ = some (.int .i64 10) ∧ w'.cell? ⟨w1.heap.size, 2, none⟩ = some (.int .u64 1) ∧ w'.cell? ⟨w1.heap.size, 3, none⟩ = some (.int .i64 2))
    (first
      | (simp [World.cell?_alloc_some, a0, a1, a2, a3]; done)
      | (simp [b0, b1, b2, b3]; done)
      | (simp [c0, c1, c2', c3]; done)
      | (simp [d0, d1, d2, d3]; done))
    (first
      | (go_at_call 20; refine (sameInts_ A2 _ 1 c2 1 [1] _ (by omega) (R1 _ _) (R2 _)).mono ?_; rintro e w4 ⟨rfl, hb4⟩; obtain ⟨hc4, _⟩ := bcell hb4; have hz4 : w3.heap.size ≤ w4.heap.size := (by have := hb4.size; simp at this; omega); have b0 : w4.cell? ⟨w1.heap.size, 0, none⟩ = some (.int .u64 1) := (by rw [hc4 _ _ (by simp; omega)]; simp [World.cell?_alloc_some, a0]); have b1 : w4.cell? ⟨w1.heap.size, 1, none⟩ = some (.int .i64 10) := (by rw [hc4 _ _ (by simp; omega)]; simp [World.cell?_alloc_some, a1]); have b2 : w4.cell? ⟨w1.heap.size, 2, none⟩ = some (.int .u64 1) := (by rw [hc4 _ _ (by simp; omega)]; simp [World.cell?_alloc_some, a2]); have b3 : w4.cell? ⟨w1.heap.size, 3, none⟩ = some (.int .i64 2) := (by rw [hc4 _ _ (by simp; omega)]; simp [World.cell?_alloc_some, a3]))
      | (go_at_call 11; refine (own_ 5 _).mono ?_; rintro e w5 ⟨rfl, hb5⟩; obtain ⟨hc5, _⟩ := bcell hb5; have hz5 : w4.heap.size ≤ w5.heap.size := (by have := hb5.size; omega); have c0 : w5.cell? ⟨w1.heap.size, 0, none⟩ = some (.int .u64 1) := (by rw [hc5 _ _ (by omega)]; simp [b0]); have c1 : w5.cell? ⟨w1.heap.size, 1, none⟩ = some (.int .i64 10) := (by rw [hc5 _ _ (by omega)]; simp [b1]); have c2' : w5.cell? ⟨w1.heap.size, 2, none⟩ = some (.int .u64 1) := (by rw [hc5 _ _ (by omega)]; simp [b2]); have c3 : w5.cell? ⟨w1.heap.size, 3, none⟩ = some (.int .i64 2) := (by rw [hc5 _ _ (by omega)]; simp [b3]))
      | (go_at_call 9; refine (cmp ⟨1, 10, 1, 2⟩ ⟨5, 0, 5, 0⟩ _).mono ?_; rintro e w6 ⟨rfl, hb6⟩; obtain ⟨hc6, _⟩ := bcell hb6; have d0 : w6.cell? ⟨w1.heap.size, 0, none⟩ = some (.int .u64 1) := (by rw [hc6 _ _ (by omega)]; simp [c0]); have d1 : w6.cell? ⟨w1.heap.size, 1, none⟩ = some (.int .i64 10) := (by rw [hc6 _ _ (by omega)]; simp [c1]); have d2 : w6.cell? ⟨w1.heap.size, 2, none⟩ = some (.int .u64 1) := (by rw [hc6 _ _ (by omega)]; simp [c2']); have d3 : w6.cell? ⟨w1.heap.size, 3, none⟩ = some (.int .i64 2) := (by rw [hc6 _ _ (by omega)]; simp [c3])))
  go_wp2
  go_ret
  have hw4 : Below w.heap.size w w4 := ((hw3.alloc (by omega) _).alloc (by simp; omega) _).drew.trans (hb4.mono (by simp; omega))
  exact ⟨rfl, (hw4.trans (hb5.mono (by omega))).trans (hb6.mono (by omega))⟩
end Prio
end Go.Proofs.Ytjklleoeganmhaa
