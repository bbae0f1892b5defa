/-
  Wheel[string]: a wheel that is none; Same; live; and the walk of WheelNil.
-/
import Derived.Test.YtifhjbboddfbcaaWhlAI
import Derived.Test.YtifhjbboddfbcaaWhlAS
import Derived.Test.YtifhjbboddfbcaaWhlRef2
namespace Go.Proofs.Ytifhjbboddfbcaa
set_option linter.unusedVariables false
set_option linter.unusedSimpArgs false
open Go.RowKit Go.Maps
namespace WhlL
open Whl WhlC WhlS
theorem len_nil (w : World) : Calls Try.prog 19 #[.pointer none] w fun e w' => e = .returned (.int .i64 0) ∧ w = w' := by
  go_enter Try.func19, Try.ntmps19
  go_wp2
  go_ret
  exact ⟨rfl, rfl⟩
theorem at_nil (w : World) (k : ByteArray) : Calls Try.prog 20 #[.pointer none, .string k] w fun e w' => e = .returned (.tuple #[.int .i64 0, .bool false]) ∧ w' = w := by
  go_enter Try.func20, Try.ntmps20
  go_wp2
  go_ret2
  exact ⟨rfl, rfl⟩
theorem next_nil (w : World) : Calls Try.prog 21 #[.pointer none] w fun e w' => e = .returned (.tuple #[.int .i64 0, .bool false]) ∧ Below w.heap.size w w' := by
  go_enter Try.func21, Try.ntmps21
  go_wp2_with (first
    | (go_at_call 19; refine (len_nil _).mono ?_; rintro _ _ ⟨rfl, rfl⟩)
    | go_in)
  go_ret2
  exact ⟨rfl, by repeat (first | exact Below.refl _ _ | apply Below.drew | (refine Below.alloc ?_ (by simp <;> omega) _) | (refine Below.setCell ?_ (by simp <;> omega) _))⟩
theorem arm_nil (w : World) (k : ByteArray) (t : Int) : Calls Try.prog 22 #[.pointer none, .string k, .int .i64 t] w fun e w' => e = .returned (.int .i64 5) ∧ w' = w := by
  go_enter Try.func22, Try.ntmps22
  go_wp2
  go_ret
  exact ⟨rfl, rfl⟩
theorem cancel_nil (w : World) (k : ByteArray) : Calls Try.prog 23 #[.pointer none, .string k] w fun e w' => e = .returned (.bool false) ∧ w' = w := by
  go_enter Try.func23, Try.ntmps23
  go_wp2
  go_ret
  exact ⟨rfl, rfl⟩
theorem due_nil (w : World) (t : Int) : Calls Try.prog 24 #[.pointer none, .int .i64 t] w fun e w' => e = .returned (.slice none 0 0) ∧ Below w.heap.size w w' := by
  go_enter Try.func24, Try.ntmps24
  go_wp2
  go_ret
  exact ⟨rfl, by repeat (first | exact Below.refl _ _ | apply Below.drew | (refine Below.alloc ?_ (by simp <;> omega) _) | (refine Below.setCell ?_ (by simp <;> omega) _))⟩
set_option maxRecDepth 20000 in
theorem same_ (w : World) (A1 A2 : Option Addr) (c1 c2 n : Nat) (l : List ByteArray) (h1 : Reads w w.heap.size 1 A1 n (l.map Value.string)) (h2 : Reads w w.heap.size 1 A2 n (l.map Value.string)) (hn : n ≤ 5000) :
    Calls Try.prog 25 #[.slice A1 n c1, .slice A2 n c2] w fun e w' => e = .returned (.bool true) ∧ ∃ m, w' = w.drewN m := by
  have hl : l.length = n := by have := h1.1; simpa using this
  go_enter Try.func25, Try.ntmps25
  go_wp2
  go_loopw [5] (fun i wr => ∃ (k m : Nat), k ≤ n ∧ i = .int .i64 k ∧ wr = w.drewN m) (fun i _ => n - (intOf i).toNat)
  case atStart => exact ⟨0, 0, Nat.zero_le _, rfl, rfl⟩
  case round =>
    obtain ⟨k, m, hk, rfl, rfl⟩ := hrel
    by_cases hlt : k < n
    · have hlt' : (k : Int) < (n : Int) := by omega
      obtain ⟨b1, o1, rfl, hb1, hc1⟩ := h1.flat (by omega) (by simp; omega)
      obtain ⟨b2, o2, rfl, hb2, hc2⟩ := h2.flat (by omega) (by simp; omega)
      obtain ⟨x, hx⟩ : ∃ x, l[k]? = some x := ⟨_, List.getElem?_eq_getElem (by omega)⟩
      have d1 : w.cell? ⟨b1, o1 + k, none⟩ = some (.string x) := hc1 k _ (by rw [List.getElem?_map, hx]; rfl)
      have d2 : w.cell? ⟨b2, o2 + k, none⟩ = some (.string x) := hc2 k _ (by rw [List.getElem?_map, hx]; rfl)
      clear hc1 hc2 h1 h2 hx
      go_wp2
      go_quiet (fail)
      go_wp2
      exact ⟨⟨k + 1, m + nq, by omega, by go_num, rfl⟩, by simp [intOf]; omega⟩
    · have e : k = n := by omega
      subst e
      go_wp2
      go_ret
      exact ⟨rfl, m, rfl⟩
def sA : ByteArray := ⟨#[97]⟩
def sB : ByteArray := ⟨#[98]⟩
def sC : ByteArray := ⟨#[99]⟩
theorem reads_own {w : World} {base n : Nat} {l : List Tm} {v : Value} (h : w.ownsRow base 9 1 v n (l.map fun x => kv x.1)) : ∃ A c, v = .slice A n c ∧ Reads w w.heap.size 1 A n ((l.map (·.1)).map Value.string) := by
  obtain ⟨A, c, hv, hr⟩ := own_form h
  refine ⟨A, c, hv, ?_⟩
  rw [List.map_map]
  exact hr
theorem reads_new (w : World) (l : List ByteArray) (hl : 0 < l.length) : Reads (w.alloc (.cells (l.map Value.string).toArray 9)) (w.alloc (.cells (l.map Value.string).toArray 9)).heap.size 1 (some ⟨w.heap.size, 0, none⟩) l.length (l.map Value.string) :=
  ⟨by simp, fun _ => ⟨_, rfl, by simp, new_cells w (l.map Value.string) 9⟩⟩
set_option maxHeartbeats 4000000 in
set_option maxRecDepth 20000 in
theorem live_ (w : World) : Calls Try.prog 9 #[] w fun e w' => e = .returned (.bool true) ∧ Below w.heap.size w w' := by
  go_enter Try.func9, Try.ntmps9
  go_wp2_with fail
  refine (newO w 9 (by omega) (by omega)).mono ?_
  rintro e w1 ⟨rfl, hb1, on1⟩
  have z1 := hb1.size
  go_wp2_with fail
  refine (WhlI.new_bad _ 0 (by omega)).mono ?_
  rintro e w2 ⟨rfl, m2, rfl⟩
  go_wp2_with fail
  have on2 : On (w1.drewN m2) (w.heap.size + 1) w.heap.size 9 0 [] := on1.keep ((Keep.refl [] w1).drewN m2) (by simp) (by simp)
  refine (arm_ on2 (k := sA) (by decide) 5 (by simp) (by omega) (by omega)).mono ?_
  rintro e w3 ⟨rfl, k3, on3⟩
  go_wp2_with fail
  refine (arm_ on3 (k := sB) (by decide) 3 (by decide) (by decide) (by decide)).mono ?_
  rintro e w4 ⟨rfl, k4, on4⟩
  go_wp2_with fail
  refine (arm_ on4 (k := sC) (by decide) 5 (by decide) (by decide) (by decide)).mono ?_
  rintro e w5 ⟨rfl, k5, on5⟩
  go_wp2_with fail
  refine (arm_ on5 (k := sA) (by decide) 5 (by decide) (by decide) (by decide)).mono ?_
  rintro e w6 ⟨rfl, k6, on6⟩
  go_wp2_with fail
  have on6 : On w6 (w.heap.size + 1) w.heap.size 9 4 [(sB, 3, 2), (sC, 5, 3), (sA, 5, 4)] := on6
  refine (dueO on6 (by decide) 4).mono ?_
  rintro e w7 ⟨l7, v7, d7, rfl, own7, k7, on7⟩
  have e7 : l7 = [(sB, 3, 2)] := due_one on6.good d7 ⟨List.Perm.refl _, by decide⟩
  subst e7
  have on7 : On w7 (w.heap.size + 1) w.heap.size 9 4 [(sC, 5, 3), (sA, 5, 4)] := on7
  go_wp2_with fail
  refine (dueO on7 (by decide) 9).mono ?_
  rintro e w8 ⟨l8, v8, d8, rfl, own8, k8, on8⟩
  have e8 : l8 = [(sC, 5, 3), (sA, 5, 4)] := due_one on7.good d8 ⟨List.Perm.refl _, by decide⟩
  subst e8
  have on8 : On w8 (w.heap.size + 1) w.heap.size 9 4 [] := on8
  have z6 := on6.lt.2
  have own78 := WhlR.own_keep own7 k8 (by simpa using z6)
  obtain ⟨A7, c7, rfl, r7⟩ := reads_own own78
  obtain ⟨A8, c8, rfl, r8⟩ := reads_own own8
  go_wp2_with fail
  have r7n : Reads (w8.alloc (.cells #[.string ⟨#[98]⟩] 9)) (w8.alloc (.cells #[.string ⟨#[98]⟩] 9)).heap.size 1 A7 1 ([sB].map Value.string) := (r7.alloc (Nat.le_refl _) _).more (by simp)
  have r7m : Reads (w8.alloc (.cells #[.string ⟨#[98]⟩] 9)) (w8.alloc (.cells #[.string ⟨#[98]⟩] 9)).heap.size 1 (some ⟨w8.heap.size, 0, none⟩) 1 ([sB].map Value.string) := reads_new w8 [sB] (by decide)
  have s1 := same_ (w8.alloc (.cells #[.string ⟨#[98]⟩] 9)) A7 _ c7 1 1 [sB] r7n r7m (by omega)
  refine s1.mono ?_
  clear s1 r7m r7n
  rintro e w9 ⟨rfl, m9, rfl⟩
  have k9 : Keep [] w8 ((w8.alloc (.cells #[.string ⟨#[98]⟩] 9)).drewN m9) := ((Keep.refl [] w8).alloc _).drewN m9
  have z9 := k9.size
  have r9 := (k9.reads r8 (Nat.le_refl _) (by simp))
  generalize (w8.alloc (.cells #[.string ⟨#[98]⟩] 9)).drewN m9 = w9 at *
  go_wp2_with fail
  have r8n : Reads (w9.alloc (.cells #[.string ⟨#[99]⟩, .string ⟨#[97]⟩] 9)) (w9.alloc (.cells #[.string ⟨#[99]⟩, .string ⟨#[97]⟩] 9)).heap.size 1 A8 2 ([sC, sA].map Value.string) := (r9.alloc z9 _).more (by simp; omega)
  have r8m : Reads (w9.alloc (.cells #[.string ⟨#[99]⟩, .string ⟨#[97]⟩] 9)) (w9.alloc (.cells #[.string ⟨#[99]⟩, .string ⟨#[97]⟩] 9)).heap.size 1 (some ⟨w9.heap.size, 0, none⟩) 2 ([sC, sA].map Value.string) := reads_new w9 [sC, sA] (by decide)
  have s2 := same_ (w9.alloc (.cells #[.string ⟨#[99]⟩, .string ⟨#[97]⟩] 9)) A8 _ c8 2 2 [sC, sA] r8n r8m (by omega)
  refine s2.mono ?_
  clear s2 r8m r8n
  rintro e w10 ⟨rfl, m10, rfl⟩
  have k10 : Keep [] w9 ((w9.alloc (.cells #[.string ⟨#[99]⟩, .string ⟨#[97]⟩] 9)).drewN m10) := ((Keep.refl [] w9).alloc _).drewN m10
  generalize (w9.alloc (.cells #[.string ⟨#[99]⟩, .string ⟨#[97]⟩] 9)).drewN m10 = w10 at *
  have on10 := on8.keep (k9.trans k10) (by simp) (by simp)
  go_wp2_with fail
  refine (len_ _ _ _ _ _ _ on10.at_).mono ?_
  rintro e w11 ⟨rfl, rfl⟩
  go_wp2
  go_ret
  refine ⟨rfl, ?_⟩
  have hz3 : ∀ x ∈ [w.heap.size + 1, w.heap.size], w.heap.size ≤ x := by simp
  have hz4 : ∀ x ∈ [w.heap.size], w.heap.size ≤ x := by simp
  have hz5 : ∀ x ∈ ([] : List Nat), w.heap.size ≤ x := by simp
  have y2 : w.heap.size ≤ (w1.drewN m2).heap.size := z1
  have y3 := Nat.le_trans y2 k3.size
  have y4 := Nat.le_trans y3 k4.size
  have y5 := Nat.le_trans y4 k5.size
  have y6 := Nat.le_trans y5 k6.size
  have y7 := Nat.le_trans y6 k7.size
  have y8 := Nat.le_trans y7 k8.size
  exact (((((((below_drewN hb1 m2).trans (k3.below y2 hz3)).trans (k4.below y3 hz3)).trans (k5.below y4 hz3)).trans (k6.below y5 hz3)).trans (k7.below y6 hz4)).trans (k8.below y7 hz4)).trans ((k9.trans k10).below y8 hz5)
end WhlL
end Go.Proofs.Ytifhjbboddfbcaa
