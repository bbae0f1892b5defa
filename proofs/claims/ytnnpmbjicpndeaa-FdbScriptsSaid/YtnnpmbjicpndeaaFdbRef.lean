/-
  The document's table (siphonref13.Table): a sorted list of entries in memory, and the walks of time, ahead, without, oldest, Look, Flush, Expire.
-/
import Derived.Test.YtnnpmbjicpndeaaFdbOps
namespace Go.Proofs.Ytnnpmbjicpndeaa
set_option linter.unusedVariables false
set_option linter.unusedSimpArgs false
open Go.RowKit Go.Maps
namespace FdbR
open Mp FdbC Fdb
def cE (x : En) : List Value := cellsE (er x)
theorem lenC (x : En) : (cE x).length = 4 := rfl
theorem oneC (x : En) : ∀ u ∈ cE x, u.oneCell' = true := oneE (er x)
theorem oneCs (xs : List En) : ∀ u ∈ xs.flatMap cE, u.oneCell' = true := by
  intro u hu
  obtain ⟨x, _, hx⟩ := List.mem_flatMap.1 hu
  exact oneC x u hx
theorem own_keep {ys : List Nat} {w w' : World} {base n : Nat} {e : TypeId} {size : Nat} {v : Value} {xs : List Value} (h : w.ownsRow base e size v n xs) (hk : Keep ys w w') (hy : ∀ y ∈ ys, y < base) : w'.ownsRow base e size v n xs := by
  obtain ⟨h1, h2⟩ := h
  refine ⟨h1, ?_⟩
  rcases h2 with h2 | ⟨g, cap, cur, rfl, hg, hh, hr⟩
  · exact .inl h2
  · exact .inr ⟨g, cap, cur, rfl, hg, (hk.block g (Array.getElem?_eq_some_iff.1 hh).1 (fun hm => by have := hy g hm; omega)).trans hh, hr⟩
def RAt (w : World) (q : Nat) (room age : Int) (L : List En) : Prop :=
  ∃ v, Blk w q 41 #[.int .i64 room, .int .i64 age, v] ∧ w.ownsRow (q + 1) 59 4 v L.length (L.flatMap cE)
theorem RAt.keep {ys : List Nat} {w w' : World} {q : Nat} {room age : Int} {L : List En} (h : RAt w q room age L) (hk : Keep ys w w') (hy : ∀ y ∈ ys, y < q) : RAt w' q room age L := by
  obtain ⟨v, h1, h2⟩ := h
  exact ⟨v, Keep.blk hk h1 (fun hm => by have := hy q hm; omega), own_keep h2 hk (fun y hm => by have := hy y hm; omega)⟩
theorem RAt.drewN {w : World} {q : Nat} {room age : Int} {L : List En} (h : RAt w q room age L) (n : Nat) : RAt (w.drewN n) q room age L := h
theorem RAt.lt {w : World} {q : Nat} {room age : Int} {L : List En} (h : RAt w q room age L) : q < w.heap.size := by
  obtain ⟨v, h1, _⟩ := h
  exact h1.lt
theorem infoR : (Try.prog.info? 59).map (fun i => (i.zero, i.size, i.bytes)) = some (some (.agg #[.int .i64 0, .string ByteArray.empty, .int .i64 0, .int .i64 0]), 4, 40) := by kernel_rfl
theorem Reads_take {w : World} {B n : Nat} {A : Option Addr} {ts : List En} (h : Reads w B 4 A n (ts.flatMap cE)) {j : Nat} (hj : j ≤ n) (hl : ts.length = n) : Reads w B 4 A j ((ts.take j).flatMap cE) := by
  refine ⟨by rw [flat_len cE 4 lenC, List.length_take]; congr 1; omega, fun h0 => ?_⟩
  obtain ⟨ad, e, hb, hc⟩ := h.2 (by omega)
  refine ⟨ad, e, hb, fun i u hu => hc i u ?_⟩
  rw [← List.take_append_drop j ts, List.flatMap_append, List.getElem?_append_left (List.getElem?_eq_some_iff.1 hu).1]
  exact hu
theorem Reads_drop {w : World} {B n c : Nat} {A : Option Addr} {ts : List En} (h : Reads w B 4 A n (ts.flatMap cE)) {j : Nat} (hj : j ≤ n) (hc : n ≤ c) (hl : ts.length = n) : Reads w B 4 (if c = j then A else A.map (·.add (j * 4))) (n - j) ((ts.drop j).flatMap cE) := by
  have h1 := h.cut hj hc
  have e : (ts.flatMap cE).drop (j * 4) = (ts.drop j).flatMap cE := by
    have e1 : ts.flatMap cE = (ts.take j).flatMap cE ++ (ts.drop j).flatMap cE := by rw [← List.flatMap_append, List.take_append_drop]
    have e2 : ((ts.take j).flatMap cE).length = j * 4 := by rw [flat_len cE 4 lenC, List.length_take]; congr 1; omega
    rw [e1, ← e2, List.drop_left]
  rw [e] at h1
  exact h1
theorem rtime_ (now : Int) (w : World) : Calls Try.prog 38 #[.int .i64 now] w fun e w' => e = .returned (.bool (decide (0 ≤ now ∧ now ≤ 1099511627776))) ∧ w = w' := by
  by_cases h1 : 0 ≤ now
  · by_cases h2 : now ≤ 1099511627776
    · go_enter Try.func38, Try.ntmps38
      go_wp2
      go_ret
      exact ⟨by simp [h1, h2], rfl⟩
    · go_enter Try.func38, Try.ntmps38
      go_wp2
      go_ret
      exact ⟨by simp [h1, h2], rfl⟩
  · go_enter Try.func38, Try.ntmps38
    go_wp2
    go_ret
    exact ⟨by simp; omega, rfl⟩
theorem bytes_ne {x k : ByteArray} (h : ¬ x = k) : (x.toList == k.toList) = false := by
  rw [beq_eq_false_iff_ne]
  exact fun e => h (toList_inj e)
/-- does an entry stand ahead of a VLAN and an address? -/
def before (x : En) (v : Int) (m : ByteArray) : Bool := decide (x.1.1.1 < v) || (decide (x.1.1.1 = v) && Op.bytesLess x.1.1.2.toList m.toList)
set_option maxRecDepth 20000 in
theorem rahead_ (x : En) (v : Int) (m : ByteArray) (w : World) : Calls Try.prog 41 #[valE (er x), .int .i64 v, .string m] w fun e w' => e = .returned (.bool (before x v m)) ∧ Below w.heap.size w w' := by
  obtain ⟨⟨⟨u, mc⟩, ok⟩, p, at_⟩ := x
  simp only [valE, er, before]
  by_cases h1 : u < v
  · go_enter Try.func41, Try.ntmps41
    go_wp2
    go_ret
    exact ⟨by simp [h1], by repeat (first | exact Below.refl _ _ | apply Below.drew | (refine Below.alloc ?_ (by simp <;> omega) _) | (refine Below.setCell ?_ (by simp <;> omega) _))⟩
  · by_cases h2 : u = v
    · go_enter Try.func41, Try.ntmps41
      go_wp2
      go_ret
      exact ⟨by simp [h2], by repeat (first | exact Below.refl _ _ | apply Below.drew | (refine Below.alloc ?_ (by simp <;> omega) _) | (refine Below.setCell ?_ (by simp <;> omega) _))⟩
    · go_enter Try.func41, Try.ntmps41
      go_wp2
      go_ret
      exact ⟨by simp [h1, h2], by repeat (first | exact Below.refl _ _ | apply Below.drew | (refine Below.alloc ?_ (by simp <;> omega) _) | (refine Below.setCell ?_ (by simp <;> omega) _))⟩
/-- the index of the oldest -/
def BestIs (L : List En) (k i : Nat) : Prop := ∃ x, L[i]? = some x ∧ i < k ∧ (∀ y ∈ L.take i, x.2.2 < y.2.2) ∧ ∀ y ∈ L.take k, x.2.2 ≤ y.2.2
theorem best_start {L : List En} (h : 0 < L.length) : BestIs L 1 0 := by
  cases L with
  | nil => simp at h
  | cons a r => exact ⟨a, rfl, by omega, by simp, by simp⟩
theorem best_new {L : List En} {k i : Nat} {x y : En} (hb : BestIs L k i) (hx : L[i]? = some x) (hy : L[k]? = some y) (hc : y.2.2 < x.2.2) : BestIs L (k + 1) k := by
  obtain ⟨x', hx', hi, h1, h2⟩ := hb
  rw [hx] at hx'; cases hx'
  refine ⟨y, hy, by omega, fun z hz => by have := h2 z hz; omega, ?_⟩
  rw [List.take_add_one, hy]
  intro z hz
  rcases List.mem_append.1 hz with hz | hz
  · have := h2 z hz; omega
  · simp at hz; subst hz; exact Int.le_refl _
theorem best_old {L : List En} {k i : Nat} {x y : En} (hb : BestIs L k i) (hx : L[i]? = some x) (hy : L[k]? = some y) (hc : ¬ y.2.2 < x.2.2) : BestIs L (k + 1) i := by
  obtain ⟨x', hx', hi, h1, h2⟩ := hb
  rw [hx] at hx'; cases hx'
  refine ⟨x, hx, by omega, h1, ?_⟩
  rw [List.take_add_one, hy]
  intro z hz
  rcases List.mem_append.1 hz with hz | hz
  · exact h2 z hz
  · simp at hz; subst hz; omega
theorem best_is {L : List En} (hs : Sorted L) {i : Nat} (h : BestIs L L.length i) : ∃ x, L[i]? = some x ∧ OldIs L x := by
  obtain ⟨x, hx, hi, h1, h2⟩ := h
  rw [List.take_length] at h2
  refine ⟨x, hx, List.mem_of_getElem? hx, fun y hy hc => ?_⟩
  rw [cmpA_neg] at hc
  have hle := h2 y hy
  rcases hc with hc | ⟨hc, hk⟩
  · omega
  · obtain ⟨j, hj, e⟩ := List.getElem_of_mem hy
    obtain ⟨hi', e'⟩ := List.getElem?_eq_some_iff.1 hx
    rcases Nat.lt_trichotomy j i with hji | hji | hji
    · have := h1 y (List.mem_take_iff_getElem.2 ⟨j, by omega, e⟩)
      omega
    · subst hji
      rw [← e, e'] at hk
      exact ltK_irrefl _ hk
    · have := List.pairwise_iff_getElem.1 hs i j hi' hj hji
      rw [e, e'] at this
      exact ltK_irrefl _ (ltK_trans hk this)
set_option maxRecDepth 20000 in
theorem roldest_ (w : World) (q : Nat) (room age : Int) (L : List En) (h : RAt w q room age L) (hn : L.length ≤ 5000) (h0 : 0 < L.length) :
    Calls Try.prog 40 #[.pointer (some ⟨q, 0, none⟩)] w fun e w' => (∃ i : Nat, BestIs L L.length i ∧ e = .returned (.int .i64 i)) ∧ ∃ n, w' = w.drewN n := by
  obtain ⟨v, hblk, hown⟩ := h
  obtain ⟨A, c, rfl, hrd⟩ := own_form hown
  have c2 : w.cell? ⟨q, 2, none⟩ = some (.slice A L.length c) := hblk.cell 2
  go_enter Try.func40, Try.ntmps40
  go_wp2
  go_loopw [3, 4] (fun f i wr => ∃ (k b n : Nat), 1 ≤ k ∧ k ≤ L.length ∧ i = .int .i64 k ∧ f = .int .i64 b ∧ BestIs L k b ∧ wr = w.drewN n) (fun _ i _ => L.length - (intOf i).toNat)
  case atStart => exact ⟨1, 0, 0, by omega, by omega, rfl, rfl, best_start h0, rfl⟩
  case round =>
    obtain ⟨k, b, n, hk1, hk, rfl, rfl, hf, rfl⟩ := hrel
    by_cases hlt : k < L.length
    · obtain ⟨bb, off, y, rfl, hbb, hy, hcc⟩ := hrd.chunk cE 4 (by omega) lenC hlt
      have d1 : w.cell? ⟨bb, off + k * 4 + 3, none⟩ = some (.int .i64 y.2.2) := hcc 3 _ rfl
      have hlt' : (k : Int) < (L.length : Int) := by omega
      have hlt2 : k < L.length := hlt
      obtain ⟨x, hx, hbk, _, _⟩ := id hf
      have hjl := (List.getElem?_eq_some_iff.1 hx).1
      obtain ⟨bb', off', x', hA, _, hx', hcc'⟩ := hrd.chunk cE 4 (by omega) lenC hjl
      cases hA
      rw [hx] at hx'
      cases hx'
      have e1 : w.cell? ⟨bb, off + b * 4 + 3, none⟩ = some (.int .i64 x.2.2) := hcc' 3 _ rfl
      by_cases hc : y.2.2 < x.2.2
      · have HF := Lib.hid (best_new hf hx hy hc)
        clear hf hx hcc hcc' hy
        go_wp2
        go_quiet (fail)
        go_wp2
        exact ⟨⟨k + 1, k, n + nq, by omega, by omega, by go_num, rfl, HF.out, by simp⟩, by simp [intOf]; omega⟩
      · have HF := Lib.hid (best_old hf hx hy hc)
        clear hf hx hcc hcc' hy
        go_wp2
        go_quiet (fail)
        go_wp2
        exact ⟨⟨k + 1, b, n + nq, by omega, by omega, by go_num, rfl, HF.out, by simp⟩, by simp [intOf]; omega⟩
    · have e : k = L.length := by omega
      subst e
      go_wp2
      go_ret
      exact ⟨⟨b, hf, rfl⟩, n, rfl⟩
def cut (L : List En) (i : Nat) : List En := L.take i ++ L.drop (i + 1)
theorem cut_len {L : List En} {i : Nat} (h : i < L.length) : (cut L i).length + 1 = L.length := by
  unfold cut
  rw [List.length_append, List.length_take, List.length_drop]
  omega
theorem cut_strike {L : List En} (hd : Apart E L) {j : Nat} {x : En} (hx : L[j]? = some x) : cut L j = strike L x.1 := by
  obtain ⟨hj, e⟩ := List.getElem?_eq_some_iff.1 hx
  have e1 : L = L.take j ++ x :: L.drop (j + 1) := by
    rw [← e, ← List.drop_eq_getElem_cons hj, List.take_append_drop]
  have hd2 := hd
  unfold Apart at hd2
  rw [e1, List.pairwise_append] at hd2
  obtain ⟨p1, p2, p3⟩ := hd2
  rw [List.pairwise_cons] at p2
  unfold strike
  conv => rhs; rw [e1]
  rw [List.filter_append, List.filter_cons]
  have q1 : (L.take j).filter (fun y => !keyIs E x.1 y) = L.take j := List.filter_eq_self.2 fun y hy => by
    have := p3 y hy x (by simp)
    simp only [keyE] at this; simp [keyIs, keyE, this]
  have q2 : (L.drop (j + 1)).filter (fun y => !keyIs E x.1 y) = L.drop (j + 1) := List.filter_eq_self.2 fun y hy => by
    have := p2.1 y hy
    simp only [keyE] at this; simp [keyIs, keyE, Ne.symm this]
  rw [q1, q2]
  simp [keyIs, keyE, cut]
set_option maxHeartbeats 4000000 in
set_option maxRecDepth 20000 in
theorem rwithout_ (w : World) (g : Nat) (room age : Int) (ts : List En) (h : RAt w g room age ts) (hn : ts.length ≤ 5000) (j : Nat) (hlt : j < ts.length) :
    Calls Try.prog 39 #[.pointer (some ⟨g, 0, none⟩), .int .i64 j] w fun e w' => e = .returned (.tuple #[]) ∧ Keep [g] w w' ∧ RAt w' g room age (cut ts j) := by
  have hg := h.lt
  obtain ⟨v, hblk, hown⟩ := h
  obtain ⟨A, c, rfl, hrd⟩ := own_form hown
  have c1 : w.cell? ⟨g, 2, none⟩ = some (.slice A ts.length c) := hblk.cell 2
  obtain ⟨i0, hi, hz0, hz1, hz2⟩ := info_parts infoR
  obtain ⟨gq, cap, hv, _, hcap, hcm, _⟩ := Row.of_own hown (by omega)
  cases hv
  have hlt' : (j : Int) < (ts.length : Int) := by omega
  have hjc : j ≤ c := by omega
  have hjc' : (j : Int) ≤ (c : Int) := by omega
  have hrt := Reads_take hrd (show j ≤ ts.length by omega) rfl
  have hrdp := Reads_drop hrd (show j + 1 ≤ ts.length by omega) hcap rfl
  have HBLK := Lib.hid hblk
  have hlen : j + (ts.length - (j + 1)) = (cut ts j).length := by unfold cut; rw [List.length_append, List.length_take, List.length_drop]; omega
  have HLEN := Lib.hid hlen
  clear hrd hblk hlen
  by_cases hcj : c = j + 1
  · rw [if_pos hcj] at hrdp
    subst hcj
    have hm0 : ts.length - (j + 1) = 0 := by omega
    rw [hm0] at hrdp HLEN
    clear hm0
    go_enter Try.func39, Try.ntmps39
    go_wp2_with (first
      | (at_builtin; refine wpList_append_any _ rfl (.tmp 5) (.tmp 11) 39 rfl (g + 1) 59 i0 _ 4 40 Try.underlying39 hi hz0 hz1 hz2 rfl (by omega) (.slice none 0 0) 0 [] rfl ⟨rfl, .inl ⟨rfl, rfl⟩⟩ w.heap.size _ j _ _ rfl hrt (oneCs _) (by unfold maxLen; omega) (by omega) (by omega) ?_; intro v1 w1 hown1 hg1 hnew1; rw [Nat.zero_add, List.nil_append] at hown1; have hb1 := HBLK.out.grown hg1 (by simp [Value.ownBlock]); have d1 : w1.cell? ⟨g, 2, none⟩ = some (.slice (some ⟨gq, 0, none⟩) ts.length (j + 1)) := hb1.cell 2; have hrd1 := hrdp.grown hg1 (Nat.le_refl _) (by simp [Value.ownBlock]); have hz1' := hg1.size; have HB1 := Lib.hid hb1; clear hb1)
      | (at_builtin; refine wpList_append_any _ rfl (.tmp 14) (.tmp 21) 39 rfl (g + 1) 59 i0 _ 4 40 Try.underlying39 hi hz0 hz1 hz2 rfl (by omega) v1 j _ rfl hown1 w.heap.size _ 0 _ _ rfl hrd1 (oneCs _) (by unfold maxLen; omega) (by omega) (by omega) ?_; intro v2 w2 hown2 hg2 _; obtain ⟨A', c', rfl, _⟩ := own_form hown2; have hb2 := HB1.out.grown hg2 (fun e => own_ne hown1 (Nat.lt_succ_self g) e.symm); have f2 := hb2.frozen 2; have e2 : w2.cell? ⟨g, 2, none⟩ = some (.slice (some ⟨gq, 0, none⟩) ts.length (j + 1)) := hb2.cell 2; have HB2 := Lib.hid hb2; clear hb2)
      | go_in)
    go_end0
    refine ⟨rfl, ?_, _, HB2.out.set_ 2 _, ?_⟩
    · have q1 : Keep [] w w1 := Keep.of_grown hg1 (by simp [Value.ownBlock])
      have q2 : Keep [] w w2 := q1.then (Keep.of_grown (xs := v1.ownBlock.toList) hg2 (fun q hq => by rw [hq]; simp)) (fun q hq => Or.inr (by
        have hq' : v1.ownBlock = some q := by simpa using hq
        rcases hnew1 with h | h
        · rw [h] at hq'; simp [Value.ownBlock] at hq'
        · rw [h] at hq'; injection hq' with hq'; omega))
      exact (q2.mono (by simp)).set_ (Or.inl (by simp)) _
    · have := own_keep hown2 (((Keep.refl [g] w2).set_ (p := ⟨g, 2, none⟩) (Or.inl (by simp)) (.slice A' (j + 0) c'))) (by simp)
      rw [← HLEN.out, cut, List.flatMap_append]
      simpa using this
  · rw [if_neg hcj] at hrdp
    have hcj' : ¬ (c : Int) = (j : Int) + 1 := by omega
    simp only [Option.map_some, Addr.add] at hrdp
    rw [if_neg (by omega)] at hrdp
    simp only [Nat.zero_add] at hrdp
    go_enter Try.func39, Try.ntmps39
    go_wp2_with (first
      | (at_builtin; refine wpList_append_any _ rfl (.tmp 5) (.tmp 11) 39 rfl (g + 1) 59 i0 _ 4 40 Try.underlying39 hi hz0 hz1 hz2 rfl (by omega) (.slice none 0 0) 0 [] rfl ⟨rfl, .inl ⟨rfl, rfl⟩⟩ w.heap.size _ j _ _ rfl hrt (oneCs _) (by unfold maxLen; omega) (by omega) (by omega) ?_; intro v1 w1 hown1 hg1 hnew1; rw [Nat.zero_add, List.nil_append] at hown1; have hb1 := HBLK.out.grown hg1 (by simp [Value.ownBlock]); have d1 : w1.cell? ⟨g, 2, none⟩ = some (.slice (some ⟨gq, 0, none⟩) ts.length c) := hb1.cell 2; have hrd1 := hrdp.grown hg1 (Nat.le_refl _) (by simp [Value.ownBlock]); have hz1' := hg1.size; have HB1 := Lib.hid hb1; clear hb1)
      | (at_builtin; refine wpList_append_any _ rfl (.tmp 14) (.tmp 21) 39 rfl (g + 1) 59 i0 _ 4 40 Try.underlying39 hi hz0 hz1 hz2 rfl (by omega) v1 j _ rfl hown1 w.heap.size _ (ts.length - (j + 1)) _ _ rfl hrd1 (oneCs _) (by unfold maxLen; omega) (by omega) (by omega) ?_; intro v2 w2 hown2 hg2 _; obtain ⟨A', c', rfl, _⟩ := own_form hown2; have hb2 := HB1.out.grown hg2 (fun e => own_ne hown1 (Nat.lt_succ_self g) e.symm); have f2 := hb2.frozen 2; have e2 : w2.cell? ⟨g, 2, none⟩ = some (.slice (some ⟨gq, 0, none⟩) ts.length c) := hb2.cell 2; have HB2 := Lib.hid hb2; clear hb2)
      | go_in)
    go_end0
    refine ⟨rfl, ?_, _, HB2.out.set_ 2 _, ?_⟩
    · have q1 : Keep [] w w1 := Keep.of_grown hg1 (by simp [Value.ownBlock])
      have q2 : Keep [] w w2 := q1.then (Keep.of_grown (xs := v1.ownBlock.toList) hg2 (fun q hq => by rw [hq]; simp)) (fun q hq => Or.inr (by
        have hq' : v1.ownBlock = some q := by simpa using hq
        rcases hnew1 with h | h
        · rw [h] at hq'; simp [Value.ownBlock] at hq'
        · rw [h] at hq'; injection hq' with hq'; omega))
      exact (q2.mono (by simp)).set_ (Or.inl (by simp)) _
    · have := own_keep hown2 (((Keep.refl [g] w2).set_ (p := ⟨g, 2, none⟩) (Or.inl (by simp)) (.slice A' (j + (ts.length - (j + 1))) c'))) (by simp)
      rw [← HLEN.out, cut, List.flatMap_append]
      simpa using this
end FdbR
end Go.Proofs.Ytnnpmbjicpndeaa
