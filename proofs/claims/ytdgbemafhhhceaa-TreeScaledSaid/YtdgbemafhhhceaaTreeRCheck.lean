/-
  The walk of the document's Check.
-/
import Derived.Test.YtdgbemafhhhceaaTreeEnds
namespace Go.Proofs.Ytdgbemafhhhceaa
set_option linter.unusedVariables false
set_option linter.unusedSimpArgs false
open Go.RowKit
namespace Tree
theorem read1 {w : World} {B n : Nat} {A : Option Addr} {xs : List Int} (hr : Reads w B 1 A n (xs.map (Value.int .u64))) {k : Nat} (hk : k < n) : ∃ (b off : Nat) (x : Int), A = some ⟨b, off, none⟩ ∧ b < B ∧ xs[k]? = some x ∧ w.cell? ⟨b, off + k, none⟩ = some (.int .u64 x) := by
  have hl : xs.length = n := by have := hr.1; simpa using this
  obtain ⟨b, off, hA, hb, hc⟩ := hr.flat (by omega) (by simp; omega)
  have hx : xs[k]? = some xs[k] := List.getElem?_eq_getElem (by omega)
  exact ⟨b, off, xs[k], hA, hb, hx, hc k _ (by rw [List.getElem?_map, hx]; rfl)⟩
theorem len_ids {w : World} {B n : Nat} {A : Option Addr} {xs : List Int} (hr : Reads w B 1 A n (xs.map (Value.int .u64))) : xs.length = n := by have := hr.1; simpa using this
theorem nd_take {ids : List Int} {i : Nat} {x : Int} (hx : ids[i]? = some x) (h1 : (ids.take i).Pairwise (· ≠ ·)) (h2 : ∀ y ∈ ids.take i, y ≠ x) : (ids.take (i + 1)).Pairwise (· ≠ ·) := by
  obtain ⟨hi, e⟩ := List.getElem?_eq_some_iff.1 hx
  rw [List.take_succ_eq_append_getElem hi, e, List.pairwise_append]
  exact ⟨h1, List.pairwise_singleton _ _, fun a ha b hb => by simp at hb; subst hb; exact h2 a ha⟩
theorem nd_not {ids : List Int} {i k : Nat} {x : Int} (hx : ids[i]? = some x) (hy : ids[k]? = some x) (hk : k < i) : ¬ ids.Pairwise (· ≠ ·) := fun h => by
  obtain ⟨hi, e⟩ := List.getElem?_eq_some_iff.1 hx
  obtain ⟨hk', e'⟩ := List.getElem?_eq_some_iff.1 hy
  exact (List.pairwise_iff_getElem.1 h) k i hk' hi hk (by rw [e, e'])
theorem mem_take_succ {α : Type} {l : List α} {k : Nat} {x y : α} (hx : l[k]? = some x) (h : y ∈ l.take (k + 1)) : y ∈ l.take k ∨ y = x := by
  obtain ⟨hk, e⟩ := List.getElem?_eq_some_iff.1 hx
  rw [List.take_succ_eq_append_getElem hk, e] at h
  simpa using h
theorem ap_take {es : List En} {i : Nat} {x : En} (hx : es[i]? = some x) (h1 : Apart2 (es.take i)) (h2 : ∀ y ∈ es.take i, ¬ SamePort y x) : Apart2 (es.take (i + 1)) := by
  obtain ⟨hi, e⟩ := List.getElem?_eq_some_iff.1 hx
  unfold Apart2
  rw [List.take_succ_eq_append_getElem hi, e, List.pairwise_append]
  exact ⟨h1, List.pairwise_singleton _ _, fun a ha b hb => by simp at hb; subst hb; exact h2 a ha⟩
theorem ap_not {es : List En} {i k : Nat} {x y : En} (hx : es[i]? = some x) (hy : es[k]? = some y) (hk : k < i) (hs : SamePort y x) : ¬ Apart2 es := fun h => by
  obtain ⟨hi, e⟩ := List.getElem?_eq_some_iff.1 hx
  obtain ⟨hk', e'⟩ := List.getElem?_eq_some_iff.1 hy
  exact (List.pairwise_iff_getElem.1 h) k i hk' hi hk (by rw [e, e']; exact hs)
theorem ret3 {ids : List Int} {ls : List Lk} (h : ¬ May ids ls) : Ending.returned (.int .i64 3) = .returned (.int .i64 (chk ids ls)) := by rw [chk_no h]
theorem ret0 {ids : List Int} {ls : List Lk} (h : May ids ls) : Ending.returned (.int .i64 0) = .returned (.int .i64 (chk ids ls)) := by rw [chk_yes h]
theorem endBad {n : Nat} {e : En} (h : ¬ EndOk n e) : e.at_ < 0 ∨ (¬ e.at_ < 0 ∧ (n : Int) ≤ e.at_) ∨ (¬ e.at_ < 0 ∧ ¬ (n : Int) ≤ e.at_ ∧ e.port < 0) ∨ (¬ e.at_ < 0 ∧ ¬ (n : Int) ≤ e.at_ ∧ ¬ e.port < 0 ∧ 15 < e.port) ∨
    (¬ e.at_ < 0 ∧ ¬ (n : Int) ≤ e.at_ ∧ ¬ e.port < 0 ∧ ¬ 15 < e.port ∧ e.cost < 1) ∨ (¬ e.at_ < 0 ∧ ¬ (n : Int) ≤ e.at_ ∧ ¬ e.port < 0 ∧ ¬ 15 < e.port ∧ ¬ e.cost < 1 ∧ 200000000 < e.cost) := by
  by_cases h1 : e.at_ < 0
  · exact .inl h1
  by_cases h2 : (n : Int) ≤ e.at_
  · exact .inr (.inl ⟨h1, h2⟩)
  by_cases h3 : e.port < 0
  · exact .inr (.inr (.inl ⟨h1, h2, h3⟩))
  by_cases h4 : 15 < e.port
  · exact .inr (.inr (.inr (.inl ⟨h1, h2, h3, h4⟩)))
  by_cases h5 : e.cost < 1
  · exact .inr (.inr (.inr (.inr (.inl ⟨h1, h2, h3, h4, h5⟩))))
  by_cases h6 : 200000000 < e.cost
  · exact .inr (.inr (.inr (.inr (.inr ⟨h1, h2, h3, h4, h5, h6⟩))))
  exact absurd ⟨by omega, by omega, by omega, by omega, by omega, by omega⟩ h
set_option maxHeartbeats 8000000 in
set_option maxRecDepth 100000 in
theorem rcheck_ (A1 : Option Addr) (n c1 : Nat) (ids : List Int) (A2 : Option Addr) (m c2 : Nat) (ls : List Lk) (w : World) (h1 : Reads w w.heap.size 1 A1 n (ids.map (Value.int .u64))) (h2 : Reads w w.heap.size 5 A2 m (ls.flatMap cellsL)) (hm : m ≤ 100) :
    Calls Try.prog 10 #[.slice A1 n c1, .slice A2 m c2] w fun e w' => e = .returned (.int .i64 (chk ids ls)) ∧ Below w.heap.size w w' := by
  have hl1 := len_ids h1
  have hl2 := len_of h2
  by_cases g : n < 1 ∨ (¬ n < 1 ∧ 12 < n) ∨ (¬ n < 1 ∧ ¬ 12 < n ∧ 40 < m)
  · have hno : ¬ May ids ls := fun h => by have a := h.n1; have b := h.n2; have c := h.l; omega
    have HNO := Lib.hid hno
    clear hno
    rcases g with g | ⟨g, g'⟩ | ⟨g, g', g''⟩
    · have q1 : (n : Int) < 1 := by omega
      go_enter Try.func10, Try.ntmps10
      go_wp2
      go_ret
      exact ⟨ret3 HNO.out, Below.refl _ _⟩
    · have q1 : ¬ (n : Int) < 1 := by omega
      have q2 : (12 : Int) < n := by omega
      go_enter Try.func10, Try.ntmps10
      go_wp2
      go_ret
      exact ⟨ret3 HNO.out, Below.refl _ _⟩
    · have q1 : ¬ (n : Int) < 1 := by omega
      have q2 : ¬ (12 : Int) < n := by omega
      have q3 : (40 : Int) < m := by omega
      go_enter Try.func10, Try.ntmps10
      go_wp2
      go_ret
      exact ⟨ret3 HNO.out, Below.refl _ _⟩
  · have q1 : ¬ (n : Int) < 1 := by omega
    have q2 : ¬ (12 : Int) < n := by omega
    have q3 : ¬ (40 : Int) < m := by omega
    have HL1 := Lib.hid hl1
    have HL2 := Lib.hid hl2
    clear g hl1 hl2
    go_enter Try.func10, Try.ntmps10
    go_wp2
    go_loopw [5] (fun i wr => ∃ (k d : Nat), k ≤ n ∧ i = .int .i64 k ∧ (ids.take k).Pairwise (· ≠ ·) ∧ wr = w.drewN d) (fun i _ => n - (intOf i).toNat)
    case atStart => exact ⟨0, 0, Nat.zero_le _, rfl, by simp, rfl⟩
    case round =>
      obtain ⟨i, d, hi, rfl, hnd, rfl⟩ := hrel
      have HND := Lib.hid hnd
      clear hnd
      by_cases hlt : i < n
      · have hlt' : (i : Int) < (n : Int) := by omega
        obtain ⟨b1, o1, x, rfl, hb1, hx, c0⟩ := read1 h1 hlt
        have HX := Lib.hid hx
        clear hx
        go_wp2
        go_loopw [6] (fun i2 wr => ∃ (k e : Nat), k ≤ i ∧ i2 = .int .i64 k ∧ (∀ y ∈ ids.take k, y ≠ x) ∧ wr = w.drewN e) (fun i2 _ => i - (intOf i2).toNat)
        case atStart => exact ⟨0, d, Nat.zero_le _, rfl, by simp, rfl⟩
        case round =>
          obtain ⟨k, e, hk, rfl, hne, rfl⟩ := hrel
          have HNE := Lib.hid hne
          clear hne
          by_cases hkl : k < i
          · have hkl' : (k : Int) < (i : Int) := by omega
            obtain ⟨b2, o2, y, hA, _, hy, c1⟩ := read1 h1 (show k < n by omega)
            cases hA
            have HY := Lib.hid hy
            clear hy
            by_cases hxy : x = y
            · subst hxy
              have HNO := Lib.hid (show ¬ May ids ls from fun h => nd_not HX.out HY.out hkl h.nd)
              go_wp2
              go_quiet (fail)
              go_wp2
              go_ret
              exact ⟨ret3 HNO.out, below_drewN (below_drewN (Below.refl _ _) _) _⟩
            · have hb : (x == y) = false := by simp [hxy]
              have HXY := Lib.hid hxy
              clear hxy
              go_wp2
              go_quiet (fail)
              go_wp2
              exact ⟨⟨k + 1, e + nq, by omega, by go_num, fun z hz => by
                rcases mem_take_succ HY.out hz with h | h
                · exact HNE.out z h
                · subst h; exact fun e => HXY.out e.symm, by simp⟩, by simp [intOf]; omega⟩
          · have e2 : k = i := by omega
            subst e2
            go_wp2
            exact ⟨⟨k + 1, e, by omega, by go_num, nd_take HX.out HND.out HNE.out, rfl⟩, by simp [intOf]; omega⟩
      · have e : i = n := by omega
        have HALL : Hid (ids.Pairwise (· ≠ ·)) := Lib.hid (by have := HND.out; rwa [e, ← HL1.out, List.take_length] at this)
        clear HND
        subst e
        clear hlt
        go_wp2_with fail
        refine (rends_ A2 m c2 ls _ hm (h2.drewN d)).mono ?_
        rintro e w1 ⟨⟨A3, c3, rfl, h3⟩, b1⟩
        have HB1 := Lib.hid ((below_drewN (Below.refl w.heap.size w) d).trans b1)
        have hz1 := b1.size
        clear b1 h2
        have hle : (endsOf ls).length = 2 * m := h3.len cellsE 5 (by omega) lenE
        have HLE := Lib.hid hle
        clear hle
        go_wp2
        go_loopw [8] (fun i2 wr => ∃ (k d : Nat), k ≤ 2 * m ∧ i2 = .int .i64 k ∧ (∀ y ∈ (endsOf ls).take k, EndOk i y) ∧ Apart2 ((endsOf ls).take k) ∧ wr = w1.drewN d) (fun i2 _ => 2 * m - (intOf i2).toNat)
        case atStart => exact ⟨0, 0, Nat.zero_le _, rfl, by simp, by simp [Apart2], rfl⟩
        case round =>
          obtain ⟨k, d, hk, rfl, hok, hap, rfl⟩ := hrel
          have HOK := Lib.hid hok
          have HAP := Lib.hid hap
          clear hok hap
          by_cases hkl : k < 2 * m
          · have hkl' : (k : Int) < ((2 * m : Nat) : Int) := by omega
            obtain ⟨b1, o1, x, rfl, hb1, hx, d0, d1, d2, d3, d4⟩ := read5e h3 hkl
            have HX := Lib.hid hx
            have HXM := Lib.hid (List.mem_of_getElem? hx)
            clear hx
            by_cases hbad : EndOk i x
            · have q4 : ¬ x.at_ < 0 := by have := hbad.a0; omega
              have q5 : ¬ (i : Int) ≤ x.at_ := by have := hbad.a1; omega
              have q6 : ¬ x.port < 0 := by have := hbad.p0; omega
              have q7 : ¬ 15 < x.port := by have := hbad.p1; omega
              have q8 : ¬ x.cost < 1 := by have := hbad.c0; omega
              have q9 : ¬ 200000000 < x.cost := by have := hbad.c1; omega
              have HGOOD := Lib.hid hbad
              clear hbad
              go_wp2
              go_loopw [9] (fun i3 wr => ∃ (j e : Nat), j ≤ k ∧ i3 = .int .i64 j ∧ (∀ y ∈ (endsOf ls).take j, ¬ SamePort y x) ∧ wr = w1.drewN e) (fun i3 _ => k - (intOf i3).toNat)
              case atStart => exact ⟨0, d, Nat.zero_le _, rfl, by simp, rfl⟩
              case round =>
                obtain ⟨j, e, hj, rfl, hns, rfl⟩ := hrel
                have HNS := Lib.hid hns
                clear hns
                by_cases hjl : j < k
                · have hjl' : (j : Int) < (k : Int) := by omega
                  obtain ⟨b2, o2, y, hA, _, hy, e0, e1, _, _, _⟩ := read5e h3 (show j < 2 * m by omega)
                  cases hA
                  have HY := Lib.hid hy
                  clear hy
                  by_cases hat : x.at_ = y.at_
                  · have hat' : (x.at_ == y.at_) = true := by simp [hat]
                    have HAT := Lib.hid hat
                    clear hat
                    by_cases hpo : x.port = y.port
                    · have hpo' : (x.port == y.port) = true := by simp [hpo]
                      have HNO := Lib.hid (show ¬ May ids ls from fun h => ap_not HX.out HY.out hjl ⟨HAT.out.symm, hpo.symm⟩ h.ap)
                      clear hpo
                      go_wp2
                      go_quiet (fail)
                      go_wp2
                      go_ret
                      exact ⟨ret3 HNO.out, below_drewN (below_drewN HB1.out _) _⟩
                    · have hpo' : (x.port == y.port) = false := by simp [hpo]
                      have HPO := Lib.hid hpo
                      clear hpo
                      go_wp2
                      go_quiet (fail)
                      go_wp2
                      exact ⟨⟨j + 1, e + nq, by omega, by go_num, fun z hz => by
                        rcases mem_take_succ HY.out hz with h | h
                        · exact HNS.out z h
                        · subst h; exact fun e => HPO.out e.2.symm, by simp⟩, by simp [intOf]; omega⟩
                  · have hat' : (x.at_ == y.at_) = false := by simp [hat]
                    have HAT := Lib.hid hat
                    clear hat
                    go_wp2
                    go_quiet (fail)
                    go_wp2
                    exact ⟨⟨j + 1, e + nq, by omega, by go_num, fun z hz => by
                      rcases mem_take_succ HY.out hz with h | h
                      · exact HNS.out z h
                      · subst h; exact fun e => HAT.out e.1.symm, by simp⟩, by simp [intOf]; omega⟩
                · have e2 : j = k := by omega
                  subst e2
                  go_wp2
                  exact ⟨⟨j + 1, e, by omega, by go_num, fun z hz => by
                    rcases mem_take_succ HX.out hz with h | h
                    · exact HOK.out z h
                    · subst h; exact HGOOD.out, ap_take HX.out HAP.out HNS.out, rfl⟩, by simp [intOf]; omega⟩
            · have HNO := Lib.hid (show ¬ May ids ls from fun h => hbad (by have := h.ok x HXM.out; rwa [HL1.out] at this))
              have hbads := endBad hbad
              clear hbad
              rcases hbads with h | ⟨h, h'⟩ | ⟨h, h', h''⟩ | ⟨h, h', h'', h3⟩ | ⟨h, h', h'', h3, h4⟩ | ⟨h, h', h'', h3, h4, h5⟩
              all_goals
                go_wp2
                go_ret
                exact ⟨ret3 HNO.out, below_drewN HB1.out _⟩
          · have e2 : k = 2 * m := by omega
            have HMAY := Lib.hid (show May ids ls from ⟨by rw [HL1.out]; omega, by rw [HL1.out]; omega, by rw [HL2.out]; omega, HALL.out, fun y hy => by rw [HL1.out]; exact HOK.out y (by rw [e2, ← HLE.out, List.take_length]; exact hy), by have := HAP.out; rwa [e2, ← HLE.out, List.take_length] at this⟩)
            subst e2
            go_wp2
            go_ret
            exact ⟨ret0 HMAY.out, below_drewN HB1.out _⟩
end Tree
end Go.Proofs.Ytdgbemafhhhceaa
