/-
  The document's wheel (siphonref10.Wheel): a list of timers in memory, and the walks of its methods At, first, Next, Cancel, Arm.
-/
import Derived.Test.YtifhjbboddfbcaaWhlNS
namespace Go.Proofs.Ytifhjbboddfbcaa
set_option linter.unusedVariables false
set_option linter.unusedSimpArgs false
open Go.RowKit Go.Maps
namespace WhlR
open Whl WhlC WhlS
def cellsR (x : Tm) : List Value := [.string x.1, .int .i64 x.2.1]
theorem lenR (x : Tm) : (cellsR x).length = 2 := rfl
theorem oneR (x : Tm) : ∀ u ∈ cellsR x, u.oneCell' = true := by
  intro u hu
  simp [cellsR] at hu
  rcases hu with rfl | rfl <;> rfl
theorem oneRs (xs : List Tm) : ∀ u ∈ xs.flatMap cellsR, u.oneCell' = true := by
  intro u hu
  obtain ⟨x, _, hx⟩ := List.mem_flatMap.1 hu
  exact oneR x u hx
theorem own_keep {ys : List Nat} {w w' : World} {base n : Nat} {e : TypeId} {size : Nat} {v : Value} {xs : List Value} (h : w.ownsRow base e size v n xs) (hk : Keep ys w w') (hy : ∀ y ∈ ys, y < base) : w'.ownsRow base e size v n xs := by
  obtain ⟨h1, h2⟩ := h
  refine ⟨h1, ?_⟩
  rcases h2 with h2 | ⟨g, cap, cur, rfl, hg, hh, hr⟩
  · exact .inl h2
  · exact .inr ⟨g, cap, cur, rfl, hg, (hk.block g (Array.getElem?_eq_some_iff.1 hh).1 (fun hm => by have := hy g hm; omega)).trans hh, hr⟩
def RAt (w : World) (g : Nat) (room : Int) (ts : List Tm) : Prop :=
  ∃ v, Blk w g 45 #[.int .i64 room, v] ∧ w.ownsRow (g + 1) 78 2 v ts.length (ts.flatMap cellsR)
theorem RAt.keep {ys : List Nat} {w w' : World} {g : Nat} {room : Int} {ts : List Tm} (h : RAt w g room ts) (hk : Keep ys w w') (hy : ∀ y ∈ ys, y < g) : RAt w' g room ts := by
  obtain ⟨v, h1, h2⟩ := h
  exact ⟨v, Keep.blk hk h1 (fun hm => by have := hy g hm; omega), own_keep h2 hk (fun y hm => by have := hy y hm; omega)⟩
theorem RAt.lt {w : World} {g : Nat} {room : Int} {ts : List Tm} (h : RAt w g room ts) : g < w.heap.size := by
  obtain ⟨v, h1, _⟩ := h
  exact h1.lt
theorem infoR : (Try.prog.info? 78).map (fun i => (i.zero, i.size, i.bytes)) = some (some (.agg #[.string ByteArray.empty, .int .i64 0]), 2, 24) := by kernel_rfl
theorem look_at {ts : List Tm} {k : ByteArray} {j : Nat} {x : Tm} (h : ts[j]? = some x) (hk : x.1 = k) (hb : ∀ y ∈ ts.take j, y.1 ≠ k) : Whl.look ts k = x.2 ∧ ts.any (keyIs k) = true := by
  constructor
  · unfold Whl.look
    have : ts.find? (keyIs k) = some x := by
      rw [List.find?_eq_some_iff_getElem]
      obtain ⟨hj, e⟩ := List.getElem?_eq_some_iff.1 h
      refine ⟨by simp [keyIs, hk], j, hj, e, fun i hi => ?_⟩
      have := hb ts[i] (List.mem_take_iff_getElem.2 ⟨i, by omega, rfl⟩)
      simpa [keyIs] using this
    rw [this]
  · exact List.any_eq_true.2 ⟨x, List.mem_of_getElem? h, by simp [keyIs, hk]⟩
theorem take_ne {ts : List Tm} {k : ByteArray} {j : Nat} {x : Tm} (h : ts[j]? = some x) (hk : x.1 ≠ k) (hb : ∀ y ∈ ts.take j, y.1 ≠ k) : ∀ y ∈ ts.take (j + 1), y.1 ≠ k := by
  rw [List.take_add_one, h]
  intro y hy
  rcases List.mem_append.1 hy with hy | hy
  · exact hb y hy
  · simp at hy; subst hy; exact hk
theorem any_no {ts : List Tm} {k : ByteArray} (hb : ∀ y ∈ ts, y.1 ≠ k) : ts.any (keyIs k) = false := by
  rw [List.any_eq_false]
  intro y hy
  simpa [keyIs] using hb y hy
theorem bytes_ne {x k : ByteArray} (h : ¬ x = k) : (x.toList == k.toList) = false := by
  rw [beq_eq_false_iff_ne]
  intro e
  rw [ByteArray.toList_eq, ByteArray.toList_eq] at e
  apply h
  have := Array.toList_inj.1 e
  cases x; cases k; cases this; rfl
theorem rat_ (w : World) (g : Nat) (room : Int) (ts : List Tm) (h : RAt w g room ts) (hn : ts.length ≤ 5000) (k : ByteArray) :
    Calls Try.prog 32 #[.pointer (some ⟨g, 0, none⟩), .string k] w fun e w' => e = .returned (.tuple #[.int .i64 (Whl.look ts k).1, .bool (ts.any (keyIs k))]) ∧ w' = w := by
  obtain ⟨v, hblk, hown⟩ := h
  obtain ⟨A, c, rfl, hrd⟩ := own_form hown
  have c1 : w.cell? ⟨g, 1, none⟩ = some (.slice A ts.length c) := hblk.cell 1
  go_enter Try.func32, Try.ntmps32
  go_wp2
  go_loop [6] (fun i => ∃ j : Nat, j ≤ ts.length ∧ i = .int .i64 j ∧ ∀ y ∈ ts.take j, y.1 ≠ k) (fun i => ts.length - (intOf i).toNat)
  case atStart => exact ⟨0, Nat.zero_le _, rfl, by simp⟩
  case round =>
    obtain ⟨j, hj, rfl, hb⟩ := hrel
    by_cases hlt : j < ts.length
    · obtain ⟨bb, off, x, rfl, hbb, hx, hcc⟩ := hrd.chunk cellsR 2 (by omega) lenR hlt
      have d0 : w.cell? ⟨bb, off + j * 2, none⟩ = some (.string x.1) := hcc 0 _ rfl
      have d1 : w.cell? ⟨bb, off + j * 2 + 1, none⟩ = some (.int .i64 x.2.1) := hcc 1 _ rfl
      have hlt' : (j : Int) < (ts.length : Int) := by omega
      by_cases hk : x.1 = k
      · have HL := Lib.hid (look_at hx hk hb)
        clear hcc hb hx
        go_wp2
        go_ret2
        rw [HL.out.1, HL.out.2]
        exact ⟨rfl, rfl⟩
      · have HB := Lib.hid (take_ne hx hk hb)
        have hk' := bytes_ne hk
        clear hcc hb hx
        go_wp2
        exact ⟨⟨j + 1, by omega, by go_num, HB.out⟩, by simp [intOf]; omega⟩
    · have e : j = ts.length := by omega
      subst e
      rw [List.take_length] at hb
      have HB := Lib.hid (any_no hb)
      clear hb
      go_wp2
      go_ret2
      rw [HB.out, look_none HB.out]
      exact ⟨rfl, rfl⟩
/-- the first one that is due: -1 if there is none -/
def FirstIs (ts : List Tm) (i : Int) : Prop := (ts = [] ∧ i = -1) ∨ ∃ (j : Nat) (x : Tm), i = j ∧ ts[j]? = some x ∧ (∀ y ∈ ts, x.2.1 ≤ y.2.1) ∧ ∀ y ∈ ts.take j, x.2.1 < y.2.1
theorem first_new {ts : List Tm} {k : Nat} {y : Tm} (hy : ts[k]? = some y) (h : (k = 0) ∨ ∃ (j : Nat) (x : Tm), ts[j]? = some x ∧ (∀ z ∈ ts.take k, x.2.1 ≤ z.2.1) ∧ y.2.1 < x.2.1) : FirstIs (ts.take (k + 1)) k := by
  have hk := (List.getElem?_eq_some_iff.1 hy).1
  have e1 : ts.take (k + 1) = ts.take k ++ [y] := by rw [List.take_add_one, hy]; rfl
  have e2 : (ts.take (k + 1)).take k = ts.take k := by rw [List.take_take]; congr 1; omega
  have hlt : ∀ z ∈ ts.take k, y.2.1 < z.2.1 := by
    rcases h with rfl | ⟨j, x, _, h1, h2⟩
    · simp
    · intro z hz; have := h1 z hz; omega
  refine Or.inr ⟨k, y, rfl, by rw [List.getElem?_take_of_lt (by omega)]; exact hy, ?_, by rw [e2]; exact hlt⟩
  intro z hz
  rw [e1] at hz
  rcases List.mem_append.1 hz with hz | hz
  · have := hlt z hz; omega
  · simp at hz; subst hz; exact Int.le_refl _
theorem first_old {ts : List Tm} {k j : Nat} {x y : Tm} (hy : ts[k]? = some y) (hx : (ts.take k)[j]? = some x) (h1 : ∀ z ∈ ts.take k, x.2.1 ≤ z.2.1) (h2 : ∀ z ∈ (ts.take k).take j, x.2.1 < z.2.1) (hn : ¬ y.2.1 < x.2.1) : FirstIs (ts.take (k + 1)) j := by
  have hj := (List.getElem?_eq_some_iff.1 hx).1
  rw [List.length_take] at hj
  have e1 : ts.take (k + 1) = ts.take k ++ [y] := by rw [List.take_add_one, hy]; rfl
  refine Or.inr ⟨j, x, rfl, ?_, ?_, ?_⟩
  · rw [e1, List.getElem?_append_left (by rw [List.length_take]; omega)]; exact hx
  · intro z hz
    rw [e1] at hz
    rcases List.mem_append.1 hz with hz | hz
    · exact h1 z hz
    · simp at hz; subst hz; omega
  · intro z hz
    rw [List.take_take] at hz h2
    rw [show min j (k + 1) = min j k from by omega] at hz
    exact h2 z hz
set_option maxRecDepth 20000 in
theorem rfirst_ (w : World) (g : Nat) (room : Int) (ts : List Tm) (h : RAt w g room ts) (hn : ts.length ≤ 5000) :
    Calls Try.prog 41 #[.pointer (some ⟨g, 0, none⟩)] w fun e w' => (∃ i, FirstIs ts i ∧ e = .returned (.int .i64 i)) ∧ ∃ n, w' = w.drewN n := by
  obtain ⟨v, hblk, hown⟩ := h
  obtain ⟨A, c, rfl, hrd⟩ := own_form hown
  have c1 : w.cell? ⟨g, 1, none⟩ = some (.slice A ts.length c) := hblk.cell 1
  go_enter Try.func41, Try.ntmps41
  go_wp2
  go_loopw [3, 4] (fun f i wr => ∃ (k : Nat) (b : Int) (n : Nat), k ≤ ts.length ∧ i = .int .i64 k ∧ f = .int .i64 b ∧ FirstIs (ts.take k) b ∧ wr = w.drewN n) (fun _ i _ => ts.length - (intOf i).toNat)
  case atStart => exact ⟨0, -1, 0, Nat.zero_le _, rfl, rfl, Or.inl ⟨rfl, rfl⟩, rfl⟩
  case round =>
    obtain ⟨k, b, n, hk, rfl, rfl, hf, rfl⟩ := hrel
    by_cases hlt : k < ts.length
    · obtain ⟨bb, off, y, rfl, hbb, hy, hcc⟩ := hrd.chunk cellsR 2 (by omega) lenR hlt
      have d1 : w.cell? ⟨bb, off + k * 2 + 1, none⟩ = some (.int .i64 y.2.1) := hcc 1 _ rfl
      have hlt' : (k : Int) < (ts.length : Int) := by omega
      have hlt2 : k < ts.length := hlt
      rcases hf with ⟨h0, rfl⟩ | ⟨j, x, rfl, hx, h1, h2⟩
      · have hk0 : k = 0 := by
          have := congrArg List.length h0
          rw [List.length_take] at this
          simp at this
          rcases this with h | h
          · exact h
          · rw [h] at hlt; simp at hlt
        have HF := Lib.hid (first_new hy (Or.inl hk0))
        clear h0 hk0 hcc hy
        go_wp2
        go_quiet (fail)
        go_wp2
        exact ⟨⟨k + 1, k, n + nq, by omega, by go_num, rfl, HF.out, by simp⟩, by simp [intOf]; omega⟩
      · have hjl := (List.getElem?_eq_some_iff.1 hx).1
        rw [List.length_take] at hjl
        have hxt : ts[j]? = some x := by rw [List.getElem?_take_of_lt (by omega)] at hx; exact hx
        obtain ⟨bb', off', x', hA, _, hx', hcc'⟩ := hrd.chunk cellsR 2 (by omega) lenR (show j < ts.length by omega)
        cases hA
        rw [hxt] at hx'
        cases hx'
        have e1 : w.cell? ⟨bb, off + j * 2 + 1, none⟩ = some (.int .i64 x.2.1) := hcc' 1 _ rfl
        have hj0 : ¬ (j : Int) < 0 := by omega
        have hj1 : j < ts.length := by omega
        by_cases hc : y.2.1 < x.2.1
        · have HF := Lib.hid (first_new hy (Or.inr ⟨j, x, hxt, h1, hc⟩))
          clear h1 h2 hx hxt hcc hcc' hy hjl
          go_wp2
          go_quiet (fail)
          go_wp2
          exact ⟨⟨k + 1, k, n + nq, by omega, by go_num, rfl, HF.out, by simp⟩, by simp [intOf]; omega⟩
        · have HF := Lib.hid (first_old hy hx h1 h2 hc)
          clear h1 h2 hx hxt hcc hcc' hy hjl
          go_wp2
          go_quiet (fail)
          go_wp2
          exact ⟨⟨k + 1, j, n + nq, by omega, by go_num, rfl, HF.out, by simp⟩, by simp [intOf]; omega⟩
    · have e : k = ts.length := by omega
      subst e
      rw [List.take_length] at hf
      go_wp2
      go_ret
      exact ⟨⟨b, hf, rfl⟩, n, rfl⟩
theorem rnext_ (w : World) (g : Nat) (room : Int) (ts : List Tm) (h : RAt w g room ts) (hn : ts.length ≤ 5000) :
    Calls Try.prog 33 #[.pointer (some ⟨g, 0, none⟩)] w fun e w' => ((ts = [] ∧ e = .returned (.tuple #[.int .i64 0, .bool false])) ∨ ∃ m, NextIs ts m ∧ e = .returned (.tuple #[.int .i64 m, .bool true])) ∧ ∃ n, w' = w.drewN n := by
  have HA := Lib.hid h
  obtain ⟨v, hblk, hown⟩ := h
  obtain ⟨A, c, rfl, hrd⟩ := own_form hown
  have c1 : w.cell? ⟨g, 1, none⟩ = some (.slice A ts.length c) := hblk.cell 1
  go_enter Try.func33, Try.ntmps33
  go_wp2_with fail
  refine (rfirst_ _ g room ts HA.out hn).mono ?_
  rintro e w1 ⟨⟨i, hf, rfl⟩, n, rfl⟩
  rcases hf with ⟨h0, rfl⟩ | ⟨j, x, rfl, hx, h1, h2⟩
  · have H0 := Lib.hid h0
    clear h0
    go_wp2
    go_ret2
    exact ⟨Or.inl ⟨H0.out, rfl⟩, n, rfl⟩
  · have hj1 := (List.getElem?_eq_some_iff.1 hx).1
    obtain ⟨bb, off, x', rfl, _, hx', hcc'⟩ := hrd.chunk cellsR 2 (by omega) lenR hj1
    rw [hx] at hx'
    cases hx'
    have e1 : w.cell? ⟨bb, off + j * 2 + 1, none⟩ = some (.int .i64 x.2.1) := hcc' 1 _ rfl
    have HN := Lib.hid (show NextIs ts x.2.1 from ⟨⟨x, List.mem_of_getElem? hx, rfl⟩, h1⟩)
    have hj0 : ¬ (j : Int) < 0 := by omega
    clear hcc' hx h1 h2
    go_wp2
    go_ret2
    exact ⟨Or.inr ⟨_, HN.out, rfl⟩, n, rfl⟩
theorem Reads_take {w : World} {B n c : Nat} {A : Option Addr} {ts : List Tm} (h : Reads w B 2 A n (ts.flatMap cellsR)) {j : Nat} (hj : j < n) (hl : ts.length = n) : Reads w B 2 A j ((ts.take j).flatMap cellsR) := by
  refine ⟨by rw [flat_len cellsR 2 lenR, List.length_take]; congr 1; omega, fun h0 => ?_⟩
  obtain ⟨ad, e, hb, hc⟩ := h.2 (by omega)
  refine ⟨ad, e, hb, fun i u hu => hc i u ?_⟩
  rw [← List.take_append_drop j ts, List.flatMap_append, List.getElem?_append_left (List.getElem?_eq_some_iff.1 hu).1]
  exact hu
theorem Reads_drop {w : World} {B n c : Nat} {A : Option Addr} {ts : List Tm} (h : Reads w B 2 A n (ts.flatMap cellsR)) {j : Nat} (hj : j ≤ n) (hc : n ≤ c) (hl : ts.length = n) : Reads w B 2 (if c = j then A else A.map (·.add (j * 2))) (n - j) ((ts.drop j).flatMap cellsR) := by
  have h1 := h.cut hj hc
  have e : (ts.flatMap cellsR).drop (j * 2) = (ts.drop j).flatMap cellsR := by
    have e1 : ts.flatMap cellsR = (ts.take j).flatMap cellsR ++ (ts.drop j).flatMap cellsR := by rw [← List.flatMap_append, List.take_append_drop]
    have e2 : ((ts.take j).flatMap cellsR).length = j * 2 := by rw [flat_len cellsR 2 lenR, List.length_take]; congr 1; omega
    rw [e1, ← e2, List.drop_left]
  rw [e] at h1
  exact h1
theorem take_drop {ts : List Tm} (hd : ts.Pairwise fun x y => x.1 ≠ y.1) {j : Nat} {x : Tm} (hx : ts[j]? = some x) : ts.take j ++ ts.drop (j + 1) = ts.filter fun y => !keyIs x.1 y := by
  obtain ⟨hj, e⟩ := List.getElem?_eq_some_iff.1 hx
  have e1 : ts = ts.take j ++ x :: ts.drop (j + 1) := by
    rw [← e, ← List.drop_eq_getElem_cons hj, List.take_append_drop]
  have hd2 := hd
  rw [e1, List.pairwise_append] at hd2
  obtain ⟨p1, p2, p3⟩ := hd2
  rw [List.pairwise_cons] at p2
  conv => rhs; rw [e1]
  rw [List.filter_append, List.filter_cons]
  have q1 : (ts.take j).filter (fun y => !keyIs x.1 y) = ts.take j := List.filter_eq_self.2 fun y hy => by
    have := p3 y hy x (by simp)
    simp [keyIs, this]
  have q2 : (ts.drop (j + 1)).filter (fun y => !keyIs x.1 y) = ts.drop (j + 1) := List.filter_eq_self.2 fun y hy => by
    have := p2.1 y hy
    simp [keyIs, Ne.symm this]
  rw [q1, q2]
  simp [keyIs]
theorem filter_no {ts : List Tm} {k : ByteArray} (hb : ∀ y ∈ ts, y.1 ≠ k) : ts.filter (fun y => !keyIs k y) = ts := List.filter_eq_self.2 fun y hy => by simp [keyIs, hb y hy]
set_option maxHeartbeats 4000000 in
set_option maxRecDepth 20000 in
theorem rcancel_ (w : World) (g : Nat) (room : Int) (ts : List Tm) (h : RAt w g room ts) (hd : ts.Pairwise fun x y => x.1 ≠ y.1) (hn : ts.length ≤ 5000) (k : ByteArray) :
    Calls Try.prog 31 #[.pointer (some ⟨g, 0, none⟩), .string k] w fun e w' => e = .returned (.bool (ts.any (keyIs k))) ∧ Keep [g] w w' ∧ RAt w' g room (ts.filter fun x => !keyIs k x) := by
  have HA := Lib.hid h
  have hg := h.lt
  obtain ⟨v, hblk, hown⟩ := h
  obtain ⟨A, c, rfl, hrd⟩ := own_form hown
  have c1 : w.cell? ⟨g, 1, none⟩ = some (.slice A ts.length c) := hblk.cell 1
  obtain ⟨i0, hi, hz0, hz1, hz2⟩ := info_parts infoR
  go_enter Try.func31, Try.ntmps31
  go_wp2
  go_loop [5] (fun i => ∃ j : Nat, j ≤ ts.length ∧ i = .int .i64 j ∧ ∀ y ∈ ts.take j, y.1 ≠ k) (fun i => ts.length - (intOf i).toNat)
  case atStart => exact ⟨0, Nat.zero_le _, rfl, by simp⟩
  case round =>
    obtain ⟨j, hj, rfl, hb⟩ := hrel
    by_cases hlt : j < ts.length
    · obtain ⟨bb, off, x, rfl, hbb, hx, hcc⟩ := hrd.chunk cellsR 2 (by omega) lenR hlt
      have d0 : w.cell? ⟨bb, off + j * 2, none⟩ = some (.string x.1) := hcc 0 _ rfl
      have hlt' : (j : Int) < (ts.length : Int) := by omega
      by_cases hk : x.1 = k
      · have HL := Lib.hid (look_at hx hk hb)
        have HT := Lib.hid (take_drop hd hx)
        have HK := Lib.hid hk
        have hk' : (x.1.toList == k.toList) = true := by rw [hk]; simp
        obtain ⟨gq, cap, hv, _, hcap, hcm, _⟩ := Row.of_own hown (by omega)
        cases hv
        have hjc : j ≤ c := by omega
        have hjc' : (j : Int) ≤ (c : Int) := by omega
        have hrt := Reads_take (c := c) hrd hlt rfl
        have hrdp := Reads_drop (c := c) hrd (show j + 1 ≤ ts.length by omega) hcap rfl
        have HR := Lib.hid hrd
        have HBLK := Lib.hid hblk
        have hlen : j + (ts.length - (j + 1)) = (ts.filter fun y => !keyIs x.1 y).length := by rw [← HT.out, List.length_append, List.length_take, List.length_drop]; omega
        have HLEN := Lib.hid hlen
        simp only [Nat.zero_add] at d0
        clear hcc hb hx hrd hk hblk hlen
        by_cases hcj : c = j + 1
        · rw [if_pos hcj] at hrdp
          subst hcj
          have hm0 : ts.length - (j + 1) = 0 := by omega
          rw [hm0] at hrdp HLEN
          clear hm0
          go_wp2_with (first
            | (at_builtin; refine wpList_append_any _ rfl (.tmp 26) (.tmp 32) 43 rfl (g + 1) 78 i0 _ 2 24 Try.underlying43 hi hz0 hz1 hz2 rfl (by omega) (.slice none 0 0) 0 [] rfl ⟨rfl, .inl ⟨rfl, rfl⟩⟩ w.heap.size _ j _ _ rfl hrt (oneRs _) (by unfold maxLen; omega) (by omega) (by omega) ?_; intro v1 w1 hown1 hg1 hnew1; rw [Nat.zero_add, List.nil_append] at hown1; have hb1 := HBLK.out.grown hg1 (by simp [Value.ownBlock]); have d1 : w1.cell? ⟨g, 1, none⟩ = some (.slice (some ⟨bb, 0, none⟩) ts.length (j + 1)) := hb1.cell 1; have hrd1 := hrdp.grown hg1 (Nat.le_refl _) (by simp [Value.ownBlock]); have hz1' := hg1.size; have HB1 := Lib.hid hb1; clear hb1)
            | (at_builtin; refine wpList_append_any _ rfl (.tmp 35) (.tmp 42) 43 rfl (g + 1) 78 i0 _ 2 24 Try.underlying43 hi hz0 hz1 hz2 rfl (by omega) v1 j _ rfl hown1 w.heap.size _ 0 _ _ rfl hrd1 (oneRs _) (by unfold maxLen; omega) (by omega) (by omega) ?_; intro v2 w2 hown2 hg2 _; obtain ⟨A', c', rfl, _⟩ := own_form hown2; have hb2 := HB1.out.grown hg2 (fun e => own_ne hown1 (Nat.lt_succ_self g) e.symm); have f2 := hb2.frozen 1; have e2 : w2.cell? ⟨g, 1, none⟩ = some (.slice (some ⟨bb, 0, none⟩) ts.length (j + 1)) := hb2.cell 1; have HB2 := Lib.hid hb2; clear hb2)
            | go_in)
          go_ret
          rw [HK.out] at HT HLEN
          rw [HL.out.2]
          refine ⟨rfl, ?_, _, HB2.out.set_ 1 _, ?_⟩
          · have q1 : Keep [] w w1 := Keep.of_grown hg1 (by simp [Value.ownBlock])
            have q2 : Keep [] w w2 := q1.then (Keep.of_grown (xs := v1.ownBlock.toList) hg2 (fun q hq => by rw [hq]; simp)) (fun q hq => Or.inr (by
              have hq' : v1.ownBlock = some q := by simpa using hq
              rcases hnew1 with h | h
              · rw [h] at hq'; simp [Value.ownBlock] at hq'
              · rw [h] at hq'; injection hq' with hq'; omega))
            exact (q2.mono (by simp)).set_ (Or.inl (by simp)) _
          · have := own_keep hown2 (((Keep.refl [g] w2).set_ (p := ⟨g, 1, none⟩) (Or.inl (by simp)) (.slice A' (j + 0) c'))) (by simp)
            rw [← HLEN.out, ← HT.out, List.flatMap_append]
            simpa using this
        · rw [if_neg hcj] at hrdp
          have hcj' : ¬ (c : Int) = (j : Int) + 1 := by omega
          simp only [Option.map_some, Addr.add] at hrdp
          rw [if_neg (by omega)] at hrdp
          simp only [Nat.zero_add] at hrdp
          go_wp2_with (first
            | (at_builtin; refine wpList_append_any _ rfl (.tmp 26) (.tmp 32) 43 rfl (g + 1) 78 i0 _ 2 24 Try.underlying43 hi hz0 hz1 hz2 rfl (by omega) (.slice none 0 0) 0 [] rfl ⟨rfl, .inl ⟨rfl, rfl⟩⟩ w.heap.size _ j _ _ rfl hrt (oneRs _) (by unfold maxLen; omega) (by omega) (by omega) ?_; intro v1 w1 hown1 hg1 hnew1; rw [Nat.zero_add, List.nil_append] at hown1; have hb1 := HBLK.out.grown hg1 (by simp [Value.ownBlock]); have d1 : w1.cell? ⟨g, 1, none⟩ = some (.slice (some ⟨bb, 0, none⟩) ts.length c) := hb1.cell 1; have hrd1 := hrdp.grown hg1 (Nat.le_refl _) (by simp [Value.ownBlock]); have hz1' := hg1.size; have HB1 := Lib.hid hb1; clear hb1)
            | (at_builtin; refine wpList_append_any _ rfl (.tmp 35) (.tmp 42) 43 rfl (g + 1) 78 i0 _ 2 24 Try.underlying43 hi hz0 hz1 hz2 rfl (by omega) v1 j _ rfl hown1 w.heap.size _ (ts.length - (j + 1)) _ _ rfl hrd1 (oneRs _) (by unfold maxLen; omega) (by omega) (by omega) ?_; intro v2 w2 hown2 hg2 _; obtain ⟨A', c', rfl, _⟩ := own_form hown2; have hb2 := HB1.out.grown hg2 (fun e => own_ne hown1 (Nat.lt_succ_self g) e.symm); have f2 := hb2.frozen 1; have e2 : w2.cell? ⟨g, 1, none⟩ = some (.slice (some ⟨bb, 0, none⟩) ts.length c) := hb2.cell 1; have HB2 := Lib.hid hb2; clear hb2)
            | go_in)
          go_ret
          rw [HK.out] at HT HLEN
          rw [HL.out.2]
          refine ⟨rfl, ?_, _, HB2.out.set_ 1 _, ?_⟩
          · have q1 : Keep [] w w1 := Keep.of_grown hg1 (by simp [Value.ownBlock])
            have q2 : Keep [] w w2 := q1.then (Keep.of_grown (xs := v1.ownBlock.toList) hg2 (fun q hq => by rw [hq]; simp)) (fun q hq => Or.inr (by
              have hq' : v1.ownBlock = some q := by simpa using hq
              rcases hnew1 with h | h
              · rw [h] at hq'; simp [Value.ownBlock] at hq'
              · rw [h] at hq'; injection hq' with hq'; omega))
            exact (q2.mono (by simp)).set_ (Or.inl (by simp)) _
          · have := own_keep hown2 (((Keep.refl [g] w2).set_ (p := ⟨g, 1, none⟩) (Or.inl (by simp)) (.slice A' (j + (ts.length - (j + 1))) c'))) (by simp)
            rw [← HLEN.out, ← HT.out, List.flatMap_append]
            simpa using this
      · have HB := Lib.hid (take_ne hx hk hb)
        have hk' := bytes_ne hk
        clear hcc hb hx
        go_wp2
        exact ⟨⟨j + 1, by omega, by go_num, HB.out⟩, by simp [intOf]; omega⟩
    · have e : j = ts.length := by omega
      subst e
      rw [List.take_length] at hb
      have HB := Lib.hid hb
      clear hb
      go_wp2
      go_ret
      rw [any_no HB.out, filter_no HB.out]
      exact ⟨rfl, Keep.refl _ _, HA.out⟩
end WhlR
end Go.Proofs.Ytifhjbboddfbcaa
