/-
  The walk of WheelParts.
-/
import Derived.Test.YtifhjbboddfbcaaWheelMath
import Derived.Test.YtifhjbboddfbcaaWhlLive
import Derived.Test.YtifhjbboddfbcaaWhlOpen
namespace Go.Proofs.Ytifhjbboddfbcaa
set_option linter.unusedVariables false
set_option linter.unusedSimpArgs false
open Go.RowKit Go.Maps
namespace WhlL
open Whl WhlC WhlI
theorem parts_due {tu : Int} {ts : List Tm} (h : WhlI.Good tu ts) {one two : Int} (h12 : one ≤ two) {la lb lc : List Tm} (ha : DueIs ts one la) (hb : DueIs (ts.filter fun x => !isDue one x) two lb) (hc : DueIs ts two lc) : lc = la ++ lb := by
  refine due_one h hc ?_
  obtain ⟨pa, sa⟩ := ha
  obtain ⟨pb, sb⟩ := hb
  refine ⟨?_, ?_⟩
  · have e1 : (ts.filter (isDue two)).filter (isDue one) = ts.filter (isDue one) := by
      rw [List.filter_filter]
      refine List.filter_congr fun x _ => ?_
      simp only [isDue]
      by_cases h1 : x.2.1 ≤ one
      · simp [h1]; omega
      · simp [h1]
    have e2 : (ts.filter (isDue two)).filter (fun x => !isDue one x) = (ts.filter fun x => !isDue one x).filter (isDue two) := by
      rw [List.filter_filter, List.filter_filter]
      refine List.filter_congr fun x _ => by simp [Bool.and_comm]
    have p := List.filter_append_perm (isDue one) (ts.filter (isDue two))
    rw [e1, e2] at p
    exact (pa.append pb).trans p
  · rw [List.pairwise_append]
    refine ⟨sa, sb, fun x hx y hy => ?_⟩
    have q1 := (List.mem_filter.1 (pa.mem_iff.1 hx)).2
    have q2 := (List.mem_filter.1 (List.mem_filter.1 (pb.mem_iff.1 hy)).1).2
    simp [isDue] at q1 q2
    rw [cmpT_neg]
    omega
theorem parts_left (ts : List Tm) {one two : Int} (h12 : one ≤ two) : (ts.filter fun x => !isDue one x).filter (fun x => !isDue two x) = ts.filter fun x => !isDue two x := by
  rw [List.filter_filter]
  refine List.filter_congr fun x _ => ?_
  simp only [isDue]
  by_cases h1 : x.2.1 ≤ one
  · have : x.2.1 ≤ two := by omega
    simp [h1, this]
  · simp [h1]
theorem dec_no {p : Prop} (h : ¬ p) : ∀ d : Decidable p, @decide p d = false := fun d => decide_eq_false h
theorem meas {j n : Nat} (h : j < n) : n - (intOf (.int .i64 ((j : Int) + 1))).toNat < n - (intOf (.int .i64 (j : Int))).toNat := by
  simp [intOf]; omega
theorem reads_ownI {w : World} {base n : Nat} {l : List Tm} {v : Value} (h : w.ownsRow base 3 1 v n (l.map fun x => kv x.1)) : ∃ A c, v = .slice A n c ∧ Reads w w.heap.size 1 A n ((l.map (·.1)).map (Value.int .i64)) := by
  obtain ⟨A, c, hv, hr⟩ := own_form h
  refine ⟨A, c, hv, ?_⟩
  rw [List.map_map]
  exact hr
theorem own_keepI {ys : List Nat} {w w' : World} {base n : Nat} {e : TypeId} {size : Nat} {v : Value} {xs : List Value} (h : w.ownsRow base e size v n xs) (hk : Keep ys w w') (hy : ∀ y ∈ ys, y < base) : w'.ownsRow base e size v n xs := WhlR.own_keep h hk hy
set_option maxHeartbeats 4000000 in
set_option maxRecDepth 20000 in
theorem parts_law (A : Option Addr) (n c : Nat) (l : List Int) (one two : Int) (w : World) (hr : Reads w w.heap.size 1 A n (l.map (Value.int .i64))) :
    Calls Try.prog 4 #[.slice A n c, .int .i64 one, .int .i64 two] w fun e w' => e = .returned (.bool true) ∧ Below w.heap.size w w' := by
  have hl : l.length = n := by have := hr.1; simpa using this
  by_cases h60 : 60 < n ∨ (¬ 60 < n ∧ two < one)
  · rcases h60 with h | ⟨h, h'⟩
    · have h60' : (n : Int) > 60 := by omega
      go_enter Try.func4, Try.ntmps4
      go_wp2_with fail
      refine (live_ _).mono ?_
      rintro e w1 ⟨rfl, b1⟩
      go_wp2
      go_ret
      exact ⟨rfl, b1⟩
    · have h60' : ¬ (n : Int) > 60 := by omega
      have h61' : one > two := by omega
      go_enter Try.func4, Try.ntmps4
      go_wp2_with fail
      refine (live_ _).mono ?_
      rintro e w1 ⟨rfl, b1⟩
      go_wp2
      go_ret
      exact ⟨rfl, b1⟩
  · have h60' : ¬ (n : Int) > 60 := by omega
    have h61' : ¬ one > two := by omega
    go_enter Try.func4, Try.ntmps4
    go_wp2_with fail
    refine (newO w 60 (by omega) (by omega)).mono ?_
    rintro e w1 ⟨rfl, b1, on1⟩
    have z1 := b1.size
    have y1 := on1.lt
    go_wp2_with fail
    refine (newO w1 60 (by omega) (by omega)).mono ?_
    rintro e w2 ⟨rfl, b2, on2⟩
    have z2 := b2.size
    have y2 := on2.lt
    have on12 := on1.below b2
    have B2 := Lib.hid (b1.trans (b2.mono z1))
    have ON2 := Lib.hid on2
    have H1 := Lib.hid (show w.heap.size + 1 ∉ [w1.heap.size + 1, w1.heap.size] ∧ w.heap.size ∉ [w1.heap.size + 1, w1.heap.size] by simp; omega)
    have H2 := Lib.hid (show w1.heap.size + 1 ∉ [w.heap.size + 1, w.heap.size] ∧ w1.heap.size ∉ [w.heap.size + 1, w.heap.size] by simp; omega)
    clear b1 b2 on1 on2
    go_wp2
    go_loopw [11] (fun i wr => ∃ (k : Nat), k ≤ n ∧ i = .int .i64 k ∧ On wr (w.heap.size + 1) w.heap.size 60 ((T l k).length : Int) (T l k) ∧ On wr (w1.heap.size + 1) w1.heap.size 60 ((T l k).length : Int) (T l k) ∧ Below w.heap.size w wr) (fun i _ => n - (intOf i).toNat)
    case atStart => exact ⟨0, Nat.zero_le _, rfl, on12, ON2.out, B2.out⟩
    case round =>
      obtain ⟨k, hk, rfl, hon, hon2, hbel⟩ := hrel
      have hbz := hbel.size
      have hTl := T_len l k
      by_cases hlt : k < n
      · have hlt' : (k : Int) < (n : Int) := by omega
        obtain ⟨bb, off, rfl, hbb, hcc⟩ := hr.flat (by omega) (by simp; omega)
        obtain ⟨a, ha⟩ : ∃ a, l[k]? = some a := ⟨_, List.getElem?_eq_getElem (by omega)⟩
        have e0 := hcc k (.int .i64 a) (by rw [List.getElem?_map, ha]; rfl)
        have d0 : wr.cell? ⟨bb, off + k, none⟩ = some (.int .i64 a) := (hbel.cell (p := ⟨bb, off + k, none⟩) hbb).trans e0
        have HA := Lib.hid ha
        have HE := Lib.hid hbel
        have HO2 := Lib.hid hon2
        clear hcc hr ha hbel hon2
        go_wp2_with fail
        refine (arm_ hon (wf_small (by omega) (by omega)) a (by omega) (by omega) (by omega)).mono ?_
        rintro e w3 ⟨rfl, k3, on3⟩
        rw [armS_T (by omega) HA.out] at on3
        simp only at on3
        have hz : ∀ x ∈ [w.heap.size + 1, w.heap.size], w.heap.size ≤ x := by simp
        have hz1 : ∀ x ∈ [w1.heap.size + 1, w1.heap.size], w.heap.size ≤ x := by simp; omega
        have HE2 := Lib.hid (HE.out.trans (k3.below hbz hz))
        have HON := Lib.hid on3
        have hon2 := (HO2.out.keep k3 H2.out.1 H2.out.2)
        have z3 := Nat.le_trans hbz k3.size
        have d3 : w3.cell? ⟨bb, off + k, none⟩ = some (.int .i64 a) := (k3.cells bb (off + k) (by omega) (by simp; omega)).trans d0
        generalize (armS 60 (↑(T l k).length) (T l k) (↑k) a).1 = ev
        clear hon k3 d0 e0 on3
        go_wp2_with fail
        refine (arm_ hon2 (wf_small (by omega) (by omega)) a (by omega) (by omega) (by omega)).mono ?_
        rintro e w4 ⟨rfl, k4, on4⟩
        rw [armS_T (by omega) HA.out] at on4
        simp only at on4
        have HE3 := Lib.hid (HE2.out.trans (k4.below z3 hz1))
        have HON2 := Lib.hid on4
        have HON1 := Lib.hid (HON.out.keep k4 H1.out.1 H1.out.2)
        generalize (armS 60 (↑(T l k).length) (T l k) (↑k) a).1 = ev
        clear hon2 k4 d3 on4
        go_wp2
        exact ⟨⟨k + 1, by omega, by go_num, HON1.out, HON2.out, HE3.out⟩, by simp [intOf]; omega⟩
      · have e : k = n := by omega
        subst e
        have HE := Lib.hid hbel
        have HO2 := Lib.hid hon2
        have G1 := hon.good
        have y3 := hon.lt
        have y4 := hon2.lt
        clear hbel hr hon2
        go_wp2_with fail
        refine (dueO hon (by omega) one).mono ?_
        rintro e w3 ⟨la, va, da, rfl, owna, k3, on3⟩
        have z3 := Nat.le_trans hbz k3.size
        have hz2 : ∀ x ∈ [w.heap.size], w.heap.size ≤ x := by simp
        have hz3 : ∀ x ∈ [w1.heap.size], w.heap.size ≤ x := by simp; omega
        have on23 := HO2.out.keep k3 (by simp; omega) (by simp; omega)
        have HE3 := HE.out.trans (k3.below hbz hz2)
        have q3 := List.length_filter_le (fun x => !isDue one x) (T l k)
        have k3z := k3.size
        obtain ⟨Aa, ca, rfl, _⟩ := reads_ownI owna
        have hla : la.length ≤ (T l k).length := by have := da.1.length_eq; have := List.length_filter_le (isDue one) (T l k); omega
        go_wp2_with fail
        refine (dueO on3 (Nat.le_trans q3 (by omega)) two).mono ?_
        rintro e w4 ⟨lb, vb, db, rfl, ownb, k4, on4⟩
        have z4 := Nat.le_trans z3 k4.size
        have on24 := on23.keep k4 (by simp; omega) (by simp; omega)
        have HE4 := HE3.trans (k4.below z3 hz2)
        have owna4 := own_keepI owna k4 (by simp; omega)
        have k4z := k4.size
        obtain ⟨Ab, cb, rfl, _⟩ := reads_ownI ownb
        go_wp2_with fail
        refine (dueO on24 (by omega) two).mono ?_
        rintro e w5 ⟨lc, vc, dc, rfl, ownc, k5, on5⟩
        have z5 := Nat.le_trans z4 k5.size
        have on15 := on4.keep k5 (by simp; omega) (by simp; omega)
        have HE5 := HE4.trans (k5.below z4 hz3)
        have owna5 := own_keepI owna4 k5 (by simp; omega)
        have ownb5 := own_keepI ownb k5 (by simp; omega)
        have el := parts_due G1 (by omega) da db dc
        rw [parts_left (T l k) (by omega)] at on15
        obtain ⟨Ac, cc, rfl, rc⟩ := reads_ownI ownc
        obtain ⟨Aa', ca', hva, ra⟩ := reads_ownI owna5
        cases hva
        obtain ⟨Ab', cb', hvb, rb⟩ := reads_ownI ownb5
        cases hvb
        have hlc : lc.length = la.length + lb.length := by rw [el, List.length_append]
        have hcI : (la.length : Int) + (lb.length : Int) = (lc.length : Int) := by omega
        have H60C := Lib.hid (show lc.length ≤ 60 by have := dc.1.length_eq; have := List.length_filter_le (isDue two) (T l k); omega)
        have hw64 : wrap64 (lc.length : Int) = (lc.length : Int) := by
          have : lc.length ≤ 60 := by have := dc.1.length_eq; have := List.length_filter_le (isDue two) (T l k); omega
          simp [wrap64]; omega
        have EL := Lib.hid el
        have RA := Lib.hid ra
        have RB := Lib.hid rb
        have RC := Lib.hid rc
        have HE9 := Lib.hid HE5
        clear owna owna4 owna5 ownb ownb5 ownc da db dc el hlc ra rb rc HE3 HE4 HE5 k3 k4 k5 on3 on4 on23 on24 hon
        go_wp2_with fail
        refine (WhlI.len_ _ _ _ _ _ _ on15.at_).mono ?_
        rintro e w6 ⟨rfl, rfl⟩
        go_wp2_with fail
        refine (WhlI.len_ _ _ _ _ _ _ on5.at_).mono ?_
        rintro e w7 ⟨rfl, rfl⟩
        clear on15 on5 hcI hw64
        go_wp2
        go_loopw [15] (fun i wr => ∃ (j m : Nat), j ≤ lc.length ∧ i = .int .i64 j ∧ wr = w5.drewN m) (fun i _ => lc.length - (intOf i).toNat)
        case atStart => exact ⟨0, 0, Nat.zero_le _, rfl, rfl⟩
        case round =>
          obtain ⟨j, m, hj, rfl, rfl⟩ := hrel
          have hlc : lc.length = la.length + lb.length := by rw [EL.out, List.length_append]
          by_cases hlt : j < lc.length
          · have hlt' : (j : Int) < (lc.length : Int) := by omega
            have HLT := Lib.hid hlt
            obtain ⟨b3, o3, rfl, hb3, hc3⟩ := RC.out.flat (by omega) (by simp; omega)
            by_cases hja : j < la.length
            · have hja' : (j : Int) < (la.length : Int) := by omega
              have hjb' : ¬ (j : Int) ≥ (la.length : Int) := by omega
              have HJD := Lib.hid (dec_no (show ¬ la.length ≤ j by omega))
              obtain ⟨b1, o1, rfl, hb1, hc1⟩ := RA.out.flat (by omega) (by simp; omega)
              obtain ⟨x, hx⟩ : ∃ x, la[j]? = some x := ⟨_, List.getElem?_eq_getElem hja⟩
              have hx3 : lc[j]? = some x := by rw [EL.out, List.getElem?_append_left hja]; exact hx
              have d1 : w5.cell? ⟨b1, o1 + j, none⟩ = some (.int .i64 x.1) := hc1 j _ (by simp [hx])
              have d3 : w5.cell? ⟨b3, o3 + j, none⟩ = some (.int .i64 x.1) := hc3 j _ (by simp [hx3])
              clear hc1 hc3 hx hx3 hlc
              go_wp2
              go_quiet (fail)
              go_wp2
              refine region_tail 17 (by kernel_rfl) (by kernel_rfl) ?_
              simp only [List.take_succ_cons, List.take_zero, List.drop_succ_cons, List.drop_zero]
              refine SW.un ?_
              (refine SW.want (by kernel_rfl) (fun K hK => ?_); have HK := Lib.hid hK; clear hK; go_simp; refine SW.on HK ?_; clear HK K)
              (refine SW.want (by kernel_rfl) (fun K hK => ?_); have HK := Lib.hid hK; clear hK; go_simp; refine SW.on HK ?_; clear HK K)
              (refine SW.want (by kernel_rfl) (fun K hK => ?_); have HK := Lib.hid hK; clear hK; go_simp; refine SW.on HK ?_; clear HK K)
              (refine SW.want (by kernel_rfl) (fun K hK => ?_); have HK := Lib.hid hK; clear hK; go_simp; refine SW.on HK ?_; clear HK K)
              (refine SW.want (by kernel_rfl) (fun K hK => ?_); have HK := Lib.hid hK; clear hK; go_simp; refine SW.on HK ?_; clear HK K)
              have e9 : ∀ (d : Decidable (la.length ≤ j)), @decide (la.length ≤ j) d = false := HJD.out
              rw [e9]
              clear e9
              (refine SW.skip (by kernel_rfl) (fun K hK => ?_); have HK := Lib.hid hK; clear hK; go_simp; refine SW.on HK ?_; clear HK K)
              (refine SW.skip (by kernel_rfl) (fun K hK => ?_); have HK := Lib.hid hK; clear hK; go_simp; refine SW.on HK ?_; clear HK K)
              (refine SW.skip (by kernel_rfl) (fun K hK => ?_); have HK := Lib.hid hK; clear hK; go_simp; refine SW.on HK ?_; clear HK K)
              (refine SW.skip (by kernel_rfl) (fun K hK => ?_); have HK := Lib.hid hK; clear hK; go_simp; refine SW.on HK ?_; clear HK K)
              (refine SW.skip (by kernel_rfl) (fun K hK => ?_); have HK := Lib.hid hK; clear hK; go_simp; refine SW.on HK ?_; clear HK K)
              (refine SW.skip (by kernel_rfl) (fun K hK => ?_); have HK := Lib.hid hK; clear hK; go_simp; refine SW.on HK ?_; clear HK K)
              (refine SW.skip (by kernel_rfl) (fun K hK => ?_); have HK := Lib.hid hK; clear hK; go_simp; refine SW.on HK ?_; clear HK K)
              (refine SW.skip (by kernel_rfl) (fun K hK => ?_); have HK := Lib.hid hK; clear hK; go_simp; refine SW.on HK ?_; clear HK K)
              (refine SW.skip (by kernel_rfl) (fun K hK => ?_); have HK := Lib.hid hK; clear hK; go_simp; refine SW.on HK ?_; clear HK K)
              (refine SW.skip (by kernel_rfl) (fun K hK => ?_); have HK := Lib.hid hK; clear hK; go_simp; refine SW.on HK ?_; clear HK K)
              (refine SW.skip (by kernel_rfl) (fun K hK => ?_); have HK := Lib.hid hK; clear hK; go_simp; refine SW.on HK ?_; clear HK K)
              (refine SW.skip (by kernel_rfl) (fun K hK => ?_); have HK := Lib.hid hK; clear hK; go_simp; refine SW.on HK ?_; clear HK K)
              refine SW.nil ?_
              go_wp2
              exact ⟨⟨j + 1, _, HLT.out, by go_num, rfl⟩, meas HLT.out⟩
            · obtain ⟨d, hd⟩ : ∃ d, j = la.length + d := ⟨j - la.length, by omega⟩
              have hge : la.length ≤ j := by omega
              have HJD := Lib.hid (dec_no hja)
              have hdl : d < lb.length := by omega
              have hdl' : (d : Int) < (lb.length : Int) := by omega
              obtain ⟨b1, o1, rfl, hb1, hc1⟩ := RB.out.flat (by omega) (by simp; omega)
              obtain ⟨x, hx⟩ : ∃ x, lb[d]? = some x := ⟨_, List.getElem?_eq_getElem (by omega)⟩
              have hx3 : lc[j]? = some x := by rw [EL.out, hd, List.getElem?_append_right (by omega)]; simpa using hx
              have d1 : w5.cell? ⟨b1, o1 + d, none⟩ = some (.int .i64 x.1) := hc1 d _ (by simp [hx])
              have d3 : w5.cell? ⟨b3, o3 + j, none⟩ = some (.int .i64 x.1) := hc3 j _ (by simp [hx3])
              have HWJ := Lib.hid (show wrap64 ((j : Int) + 1) = (j : Int) + 1 by
                have := H60C.out
                simp [wrap64]; omega)
              have hs : wrap64 ((j : Int) - (la.length : Int)) = (d : Int) := by
                have : (j : Int) - (la.length : Int) = (d : Int) := by omega
                have := H60C.out
                rw [show (j : Int) - (la.length : Int) = (d : Int) by omega]
                simp [wrap64]; omega
              clear hc1 hc3 hx hx3 hlc hd hja
              go_wp2
              refine region_tail 14 (by kernel_rfl) (by kernel_rfl) ?_
              simp only [List.take_succ_cons, List.take_zero, List.drop_succ_cons, List.drop_zero]
              refine SW.un ?_
              (refine SW.want (by kernel_rfl) (fun K hK => ?_); have HK := Lib.hid hK; clear hK; go_simp; refine SW.on HK ?_; clear HK K)
              (refine SW.want (by kernel_rfl) (fun K hK => ?_); have HK := Lib.hid hK; clear hK; go_simp; refine SW.on HK ?_; clear HK K)
              (refine SW.want (by kernel_rfl) (fun K hK => ?_); have HK := Lib.hid hK; clear hK; go_simp; refine SW.on HK ?_; clear HK K)
              (refine SW.want (by kernel_rfl) (fun K hK => ?_); have HK := Lib.hid hK; clear hK; go_simp; refine SW.on HK ?_; clear HK K)
              (refine SW.want (by kernel_rfl) (fun K hK => ?_); have HK := Lib.hid hK; clear hK; go_simp; refine SW.on HK ?_; clear HK K)
              have e9 : ∀ (d : Decidable (j < la.length)), @decide (j < la.length) d = false := HJD.out
              rw [e9]
              clear e9
              (refine SW.skip (by kernel_rfl) (fun K hK => ?_); have HK := Lib.hid hK; clear hK; go_simp; refine SW.on HK ?_; clear HK K)
              (refine SW.skip (by kernel_rfl) (fun K hK => ?_); have HK := Lib.hid hK; clear hK; go_simp; refine SW.on HK ?_; clear HK K)
              (refine SW.skip (by kernel_rfl) (fun K hK => ?_); have HK := Lib.hid hK; clear hK; go_simp; refine SW.on HK ?_; clear HK K)
              (refine SW.skip (by kernel_rfl) (fun K hK => ?_); have HK := Lib.hid hK; clear hK; go_simp; refine SW.on HK ?_; clear HK K)
              (refine SW.skip (by kernel_rfl) (fun K hK => ?_); have HK := Lib.hid hK; clear hK; go_simp; refine SW.on HK ?_; clear HK K)
              (refine SW.skip (by kernel_rfl) (fun K hK => ?_); have HK := Lib.hid hK; clear hK; go_simp; refine SW.on HK ?_; clear HK K)
              (refine SW.skip (by kernel_rfl) (fun K hK => ?_); have HK := Lib.hid hK; clear hK; go_simp; refine SW.on HK ?_; clear HK K)
              (refine SW.skip (by kernel_rfl) (fun K hK => ?_); have HK := Lib.hid hK; clear hK; go_simp; refine SW.on HK ?_; clear HK K)
              (refine SW.skip (by kernel_rfl) (fun K hK => ?_); have HK := Lib.hid hK; clear hK; go_simp; refine SW.on HK ?_; clear HK K)
              refine SW.nil ?_
              go_wp2
              go_quiet (fail)
              go_wp2
              clear hs
              rw [HWJ.out]
              exact ⟨⟨j + 1, _, HLT.out, by go_num, rfl⟩, meas HLT.out⟩
          · have e : j = lc.length := by omega
            subst e
            clear hlc
            go_wp2_with fail
            refine (live_ _).mono ?_
            rintro e w8 ⟨rfl, b8⟩
            go_wp2
            go_ret
            exact ⟨rfl, (below_drewN HE9.out m).trans (b8.mono z5)⟩
end WhlL
end Go.Proofs.Ytifhjbboddfbcaa
