/-
  The walk of WheelApart.
-/
import Derived.Test.YtifhjbboddfbcaaWheelMath
import Derived.Test.YtifhjbboddfbcaaWhlLive
import Derived.Test.YtifhjbboddfbcaaWhlOpen
namespace Go.Proofs.Ytifhjbboddfbcaa
set_option linter.unusedVariables false
set_option linter.unusedSimpArgs false
open Go.RowKit Go.Maps
namespace WhlL
open Whl WhlC WhlI
theorem armS_len (room tu : Int) (ts : List Tm) (k t : Int) : (armS room tu ts k t).2.2.length ≤ ts.length + 1 ∧ tu ≤ (armS room tu ts k t).2.1 ∧ (armS room tu ts k t).2.1 ≤ tu + 1 := by
  unfold armS
  have hf := List.length_filter_le (fun x => !keyIs k x) ts
  split
  · exact ⟨Nat.le_succ _, Int.le_refl _, by simp only; omega⟩
  · split
    · exact ⟨Nat.le_succ _, Int.le_refl _, by simp only; omega⟩
    · refine ⟨?_, by simp only; omega, Int.le_refl _⟩
      simp only [List.length_append, List.length_singleton]
      exact Nat.succ_le_succ hf
set_option maxHeartbeats 4000000 in
set_option maxRecDepth 20000 in
theorem apart_law (A : Option Addr) (n c : Nat) (l : List Int) (A2 : Option Addr) (n2 cc2 : Nat) (l2 : List Int) (w : World) (hr : Reads w w.heap.size 1 A n (l.map (Value.int .i64))) (hr2 : Reads w w.heap.size 1 A2 n2 (l2.map (Value.int .i64))) :
    Calls Try.prog 6 #[.slice A n c, .slice A2 n2 cc2] w fun e w' => e = .returned (.bool true) ∧ Below w.heap.size w w' := by
  have hl : l.length = n := by have := hr.1; simpa using this
  have hl2 : l2.length = n2 := by have := hr2.1; simpa using this
  by_cases h60 : 60 < n ∨ (¬ 60 < n ∧ 60 < n2)
  · rcases h60 with h | ⟨h, h'⟩
    · have h60' : (n : Int) > 60 := by omega
      go_enter Try.func6, Try.ntmps6
      go_wp2_with fail
      refine (live_ _).mono ?_
      rintro e w1 ⟨rfl, b1⟩
      go_wp2
      go_ret
      exact ⟨rfl, b1⟩
    · have h60' : ¬ (n : Int) > 60 := by omega
      have h61' : (n2 : Int) > 60 := by omega
      go_enter Try.func6, Try.ntmps6
      go_wp2_with fail
      refine (live_ _).mono ?_
      rintro e w1 ⟨rfl, b1⟩
      go_wp2
      go_ret
      exact ⟨rfl, b1⟩
  · have h60' : ¬ (n : Int) > 60 := by omega
    have h61' : ¬ (n2 : Int) > 60 := by omega
    go_enter Try.func6, Try.ntmps6
    go_wp2_with fail
    refine (newO w 60 (by omega) (by omega)).mono ?_
    rintro e w1 ⟨rfl, b1, on1⟩
    have z1 := b1.size
    have y1 := on1.lt
    go_wp2_with fail
    refine (newO w1 60 (by omega) (by omega)).mono ?_
    rintro e w2 ⟨rfl, b2, on2⟩
    have z2 := b2.size
    have y2 := on2.lt
    have on12 := on1.below b2
    have B2 := Lib.hid (b1.trans (b2.mono z1))
    have ON2 := Lib.hid on2
    have hdis : ∀ q ∈ [w1.heap.size + 1, w1.heap.size], w.heap.size + 1 ≠ q ∧ w.heap.size ≠ q := by simp; omega
    have H1 := Lib.hid (show w.heap.size + 1 ∉ [w1.heap.size + 1, w1.heap.size] ∧ w.heap.size ∉ [w1.heap.size + 1, w1.heap.size] by simp; omega)
    have H2 := Lib.hid (show w1.heap.size + 1 ∉ [w.heap.size + 1, w.heap.size] ∧ w1.heap.size ∉ [w.heap.size + 1, w.heap.size] by simp; omega)
    clear b1 b2 on1 on2 hdis
    go_wp2
    go_loopw [9] (fun i wr => ∃ (k : Nat), k ≤ n ∧ i = .int .i64 k ∧ On wr (w.heap.size + 1) w.heap.size 60 ((T l k).length : Int) (T l k) ∧ On wr (w1.heap.size + 1) w1.heap.size 60 0 [] ∧ Below w.heap.size w wr) (fun i _ => n - (intOf i).toNat)
    case atStart => exact ⟨0, Nat.zero_le _, rfl, on12, ON2.out, B2.out⟩
    case round =>
      obtain ⟨k, hk, rfl, hon, hon2, hbel⟩ := hrel
      have hbz := hbel.size
      have hTl := T_len l k
      by_cases hlt : k < n
      · have hlt' : (k : Int) < (n : Int) := by omega
        obtain ⟨bb, off, rfl, hbb, hcc⟩ := hr.flat (by omega) (by simp; omega)
        obtain ⟨a, ha⟩ : ∃ a, l[k]? = some a := ⟨_, List.getElem?_eq_getElem (by omega)⟩
        have e0 := hcc k (.int .i64 a) (by rw [List.getElem?_map, ha]; rfl)
        have d0 : wr.cell? ⟨bb, off + k, none⟩ = some (.int .i64 a) := (hbel.cell (p := ⟨bb, off + k, none⟩) hbb).trans e0
        have HA := Lib.hid ha
        have HE := Lib.hid hbel
        have HO2 := Lib.hid hon2
        clear hcc hr ha hbel hr2 hon2
        go_wp2_with fail
        refine (arm_ hon (wf_small (by omega) (by omega)) a (by omega) (by omega) (by omega)).mono ?_
        rintro e w3 ⟨rfl, k3, on3⟩
        rw [armS_T (by omega) HA.out] at on3
        simp only at on3
        have hz : ∀ x ∈ [w.heap.size + 1, w.heap.size], w.heap.size ≤ x := by simp
        have HE2 := Lib.hid (HE.out.trans (k3.below hbz hz))
        have HON := Lib.hid on3
        have HON2 := Lib.hid (HO2.out.keep k3 H2.out.1 H2.out.2)
        clear hon k3 d0 e0 on3
        go_wp2
        exact ⟨⟨k + 1, by omega, by go_num, HON.out, HON2.out, HE2.out⟩, by simp [intOf]; omega⟩
      · have e : k = n := by omega
        subst e
        have HE := Lib.hid hbel
        have HO2 := Lib.hid hon2
        clear hbel hr hon2
        go_wp2_with fail
        refine (WhlI.len_ _ _ _ _ _ _ hon.at_).mono ?_
        rintro e w3 ⟨rfl, rfl⟩
        go_wp2_with fail
        refine (nextO hon (by omega)).mono ?_
        rintro e w4 ⟨⟨m, is, hnv, rfl⟩, b4⟩
        have z4 := b4.size
        have hon4 := Lib.hid (hon.below b4)
        have HO4 := Lib.hid (HO2.out.below b4)
        have HE4 := Lib.hid (HE.out.trans (b4.mono hbz))
        have HNV := Lib.hid hnv
        clear hon b4 hnv
        go_wp2
        go_loopw [13] (fun i wr => ∃ (j : Nat) (tu : Int) (ts : List Tm), j ≤ n2 ∧ i = .int .i64 j ∧ On wr (w.heap.size + 1) w.heap.size 60 ((T l k).length : Int) (T l k) ∧ On wr (w1.heap.size + 1) w1.heap.size 60 tu ts ∧ ts.length ≤ j ∧ 0 ≤ tu ∧ tu ≤ j ∧ Below w.heap.size w wr) (fun i _ => n2 - (intOf i).toNat)
        case atStart => exact ⟨0, 0, [], Nat.zero_le _, rfl, hon4.out, HO4.out, Nat.le_refl _, Int.le_refl _, Int.le_refl _, HE4.out⟩
        case round =>
          obtain ⟨j, tu, ts, hj, rfl, hon, hon2, htl, ht0, htj, hbel⟩ := hrel
          have hbz5 := hbel.size
          by_cases hlt : j < n2
          · have hlt' : (j : Int) < (n2 : Int) := by omega
            obtain ⟨bb, off, rfl, hbb, hcc⟩ := hr2.flat (by omega) (by simp; omega)
            obtain ⟨a, ha⟩ : ∃ a, l2[j]? = some a := ⟨_, List.getElem?_eq_getElem (by omega)⟩
            have e0 := hcc j (.int .i64 a) (by rw [List.getElem?_map, ha]; rfl)
            have d0 : wr.cell? ⟨bb, off + j, none⟩ = some (.int .i64 a) := (hbel.cell (p := ⟨bb, off + j, none⟩) hbb).trans e0
            have HE := Lib.hid hbel
            have HO1 := Lib.hid hon
            clear hcc hr2 ha hbel hon
            go_wp2_with fail
            refine (arm_ hon2 (wf_small (by omega) (by omega)) a (by omega) (by omega) (by omega)).mono ?_
            rintro e w5 ⟨rfl, k5, on5⟩
            obtain ⟨q1, q2, q3⟩ := armS_len 60 tu ts (j : Int) a
            have hz : ∀ x ∈ [w1.heap.size + 1, w1.heap.size], w.heap.size ≤ x := by simp; omega
            have hz2 : ∀ x ∈ [w1.heap.size], w.heap.size ≤ x := by simp; omega
            have HE2 := Lib.hid (HE.out.trans (k5.below hbz5 hz))
            have HON := Lib.hid (HO1.out.keep k5 H1.out.1 H1.out.2)
            have z5 := Nat.le_trans hbz5 k5.size
            have d5 : w5.cell? ⟨bb, off + j, none⟩ = some (.int .i64 a) := (k5.cells bb (off + j) (by omega) (by simp; omega)).trans d0
            generalize (armS 60 tu ts (j : Int) a).1 = ev
            generalize (armS 60 tu ts (j : Int) a).2.1 = tu' at *
            generalize (armS 60 tu ts (j : Int) a).2.2 = ts' at *
            clear k5 d0 e0 hon2
            go_wp2_with fail
            refine (cancelO on5 (wf_small (k := (j : Int) + 1) (by omega) (by omega))).mono ?_
            rintro e w6 ⟨rfl, k6, on6⟩
            have HE6 := Lib.hid (HE2.out.trans (k6.below z5 hz2))
            have HON6 := Lib.hid (HON.out.keep k6 (by simp; omega) (by simp; omega))
            have z6 := Nat.le_trans z5 k6.size
            have d6 : w6.cell? ⟨bb, off + j, none⟩ = some (.int .i64 a) := (k6.cells bb (off + j) (by omega) (by simp; omega)).trans d5
            have q4 := List.length_filter_le (fun x => !keyIs ((j : Int) + 1) x) ts'
            clear k6 d5
            go_wp2_with fail
            refine (dueO on6 (Nat.le_trans q4 (by omega)) a).mono ?_
            rintro e w7 ⟨ld, v7, d7, rfl, own7, k7, on7⟩
            have HE7 := Lib.hid (HE6.out.trans (k7.below z6 hz2))
            have HON7 := Lib.hid (HON6.out.keep k7 (by simp; omega) (by simp; omega))
            have HON8 := Lib.hid on7
            have q5 := List.length_filter_le (fun x => !isDue a x) (ts'.filter fun x => !keyIs ((j : Int) + 1) x)
            have Q5 := Lib.hid (Nat.le_trans q5 (Nat.le_trans q4 q1))
            obtain ⟨A7, c7, rfl, _⟩ := own_form own7
            clear k7 d6 q4 q5 own7 on7
            go_wp2
            exact ⟨⟨j + 1, tu', _, by omega, by go_num, HON7.out, HON8.out, Nat.le_trans Q5.out (by omega), by omega, by omega, HE7.out⟩, by simp [intOf]; omega⟩
          · have e : j = n2 := by omega
            subst e
            have HE := Lib.hid hbel
            clear hbel hon2
            go_wp2_with fail
            refine (nextO hon (by omega)).mono ?_
            rintro e w5 ⟨⟨m5, is5, hnv5, rfl⟩, b5⟩
            obtain ⟨rfl, rfl⟩ := next_one hnv5 HNV.out
            have z5 := b5.size
            have hon5 := hon.below b5
            go_wp2_with fail
            refine (WhlI.len_ _ _ _ _ _ _ hon5.at_).mono ?_
            rintro e w6 ⟨rfl, rfl⟩
            go_wp2_with fail
            refine (live_ _).mono ?_
            rintro e w7 ⟨rfl, b7⟩
            go_wp2
            go_ret
            exact ⟨rfl, (HE.out.trans (b5.mono hbz5)).trans (b7.mono (by omega))⟩
end WhlL
end Go.Proofs.Ytifhjbboddfbcaa
