/-
  The walk of TreeRoots.
-/
import Derived.Test.YtdgbemafhhhceaaTreeLaws1
import Derived.Test.YtdgbemafhhhceaaTreeRootLaw
import Derived.Test.YtdgbemafhhhceaaTreeTog
import Derived.Test.YtdgbemafhhhceaaTreeWf
namespace Go.Proofs.Ytdgbemafhhhceaa
set_option linter.unusedVariables false
set_option linter.unusedSimpArgs false
open Go.RowKit
open Go.Proofs.Ytdgbemafhhhceaa.Prio
namespace Tree
theorem rest_at_pair {ids : List Int} {ls : List Lk} {k : Nat} {l : Lk} {p : Int × Int} (hl : ls[k]? = some l) (hp : (restOf ids ls)[k]? = some p) : p = pairOf ids ls l := by
  unfold restOf at hp
  rw [List.getElem?_map, hl] at hp
  injection hp with hp
  exact hp.symm
theorem rootsTo_le (ids : List Int) (ls : List Lk) (b k : Nat) : rootsTo ids ls b k ≤ 2 * k := by
  unfold rootsTo
  have h1 := List.countP_le_length (p := isRoot ids ls b) (l := endsOf (ls.take k))
  rw [endsOf_len, List.length_take] at h1
  omega
open Classical in
noncomputable def lessTo (ids W : List Int) (b k : Nat) : Int := if ∃ c, c < k ∧ W[c]? = W[b]? ∧ ids.getD c 0 < ids.getD b 0 then 1 else 0
theorem lessTo_zero (ids W : List Int) (b : Nat) : lessTo ids W b 0 = 0 := by
  unfold lessTo
  rw [if_neg]
  rintro ⟨c, h, _⟩
  omega
theorem lessTo_step {ids W : List Int} {b c : Nat} {x y u v : Int} (hx : W[c]? = some x) (hy : W[b]? = some y) (hu : ids[c]? = some u) (hv : ids[b]? = some v) : lessTo ids W b (c + 1) = if x = y ∧ u < v then 1 else lessTo ids W b c := by
  have eu : ids.getD c 0 = u := getD_of hu
  have ev : ids.getD b 0 = v := getD_of hv
  have hxy : W[c]? = W[b]? ↔ x = y := by
    rw [hx, hy]
    constructor
    · intro h; injection h
    · intro h; rw [h]
  by_cases h : x = y ∧ u < v
  · rw [if_pos h]
    unfold lessTo
    rw [if_pos ⟨c, by omega, hxy.2 h.1, by rw [eu, ev]; exact h.2⟩]
  · rw [if_neg h]
    unfold lessTo
    by_cases h2 : ∃ c, c < c ∧ W[c]? = W[b]? ∧ ids.getD c 0 < ids.getD b 0
    · obtain ⟨z, hz, _⟩ := h2
      omega
    · clear h2
      by_cases h3 : ∃ z, z < c ∧ W[z]? = W[b]? ∧ ids.getD z 0 < ids.getD b 0
      · obtain ⟨z, h4, h5⟩ := h3
        rw [if_pos ⟨z, by omega, h5⟩, if_pos ⟨z, h4, h5⟩]
      · rw [if_neg h3, if_neg]
        rintro ⟨z, h4, h5, h6⟩
        by_cases h7 : z < c
        · exact h3 ⟨z, h7, h5, h6⟩
        · have e : z = c := by omega
          subst e
          rw [eu, ev] at h6
          exact h ⟨hxy.1 h5, h6⟩
theorem roots_less {ids : List Int} {ls : List Lk} (hm : May ids ls) (hid : ∀ x ∈ ids, 0 ≤ x) {n m b : Nat} (hn : ids.length = n) (hl : ls.length = m) (hb : b < n) : ((rootsTo ids ls b m : Nat) : Int) = lessTo ids (tog n ls (iota m)) b n := by
  subst hn
  subst hl
  rw [roots_all hm hid hb]
  have h := lesser_iff hm hid hb
  unfold lessTo
  by_cases h0 : 0 ≤ (St ids ls b).1
  · rw [if_pos h0, if_pos (h.1 h0)]
    rfl
  · rw [if_neg h0, if_neg (fun h2 => h0 (h.2 h2))]
    rfl
set_option maxHeartbeats 8000000 in
set_option maxRecDepth 100000 in
theorem roots_law (A1 : Option Addr) (n c1 : Nat) (ids : List Int) (A2 : Option Addr) (m c2 : Nat) (ls : List Lk) (w : World) (h1 : Reads w w.heap.size 1 A1 n (ids.map (Value.int .u64))) (h2 : Reads w w.heap.size 5 A2 m (ls.flatMap cellsL)) (hwf : ∀ x ∈ ids, (Lit.int .u64 x).wf = true) :
    Calls Try.prog 6 #[.slice A1 n c1, .slice A2 m c2] w fun e w' => e = .returned (.bool true) ∧ Below w.heap.size w w' := by
  have hl1 := len_ids h1
  have hl2 := len_of h2
  have HI0 := Lib.hid (In.start h1 h2)
  have HWF := Lib.hid hwf
  have HL1 := Lib.hid hl1
  have HL2 := Lib.hid hl2
  clear h1 h2 hwf hl1 hl2
  cases hf : fewB n m with
  | false =>
    go_enter Try.func6, Try.ntmps6
    go_wp2_with fail
    refine (few_ _ A1 A2 n c1 m c2).mono ?_
    rw [hf]
    rintro e w1 ⟨rfl, rfl⟩
    go_wp2_with fail
    refine (live_ _).mono ?_
    rintro e w1 ⟨rfl, b1⟩
    go_wp2
    go_ret
    exact ⟨rfl, b1⟩
  | true =>
    have hm : m ≤ 30 := by
      have h := hf
      unfold fewB at h
      rw [Bool.and_eq_true] at h
      exact of_decide_eq_true h.2
    by_cases hmay : May ids ls
    · have HM := Lib.hid hmay
      have HK := Lib.hid (chk_yes hmay)
      have HF := Lib.hid hf
      have HID : Hid (∀ x ∈ ids, 0 ≤ x) := Lib.hid (fun x hx => pos_wf (HWF.out x hx))
      have HLK : Hid (∀ l ∈ ls, ∃ a b : Nat, l.a = a ∧ l.b = b ∧ a < n ∧ b < n) := Lib.hid (fun l hl => by
        obtain ⟨a, b, h1, h2, h3, h4⟩ := link_nat hmay hl
        rw [HL1.out] at h3 h4
        exact ⟨a, b, h1, h2, h3, h4⟩)
      have HIO : Hid (∀ x ∈ iota m, 0 ≤ x ∧ x < (m : Int)) := Lib.hid (fun x hx => by
        unfold iota at hx
        obtain ⟨k, hk, rfl⟩ := List.mem_map.1 hx
        have := List.mem_range.1 hk
        omega)
      have hn12 : n ≤ 12 := by have := hmay.n2; rw [HL1.out] at this; exact this
      clear hmay hf
      go_enter Try.func6, Try.ntmps6
      go_wp2_with fail
      refine (few_ _ A1 A2 n c1 m c2).mono ?_
      rw [HF.out]
      rintro e w0 ⟨rfl, rfl⟩
      go_wp2_with fail
      refine (rcheck_ A1 n c1 ids A2 m c2 ls _ HI0.out.ids HI0.out.ls (by omega)).mono ?_
      rintro e w1 ⟨rfl, b1⟩
      have HI1 := Lib.hid (HI0.out.to b1)
      rw [HK.out]
      clear b1
      obtain ⟨i0, hi, hz0, hz1, hz2⟩ := info_parts infoI
      go_wp2
      go_loopw [5, 6] (fun v i wr => ∃ k : Nat, k ≤ m ∧ i = .int .i64 k ∧ wr.ownsRow w1.heap.size 3 1 v k ((iota k).map (Value.int .i64)) ∧ Below w1.heap.size w1 wr) (fun _ i _ => m - (intOf i).toNat)
      case atStart => exact ⟨0, Nat.zero_le _, rfl, ⟨by simp [iota], .inl ⟨rfl, by simp [iota]⟩⟩, Below.refl _ _⟩
      case round =>
        obtain ⟨k, hk, rfl, hown, hbel⟩ := hrel
        have hbz := hbel.size
        have HO := Lib.hid hown
        have HIk := Lib.hid (HI1.out.to hbel)
        have HBk := Lib.hid hbel
        by_cases hlt : k < m
        · have hlt' : (k : Int) < (m : Int) := by omega
          have q3 : k + 1 ≤ maxLen := by unfold maxLen; omega
          have q4 : (k + 1) * 8 ≤ 140737488355328 := by omega
          have e2 : iota (k + 1) = iota k ++ [(k : Int)] := by
            unfold iota
            rw [List.range_succ, List.map_append]
            rfl
          have HE2 := Lib.hid e2
          have hrd : ∀ w4 : World, (wr.alloc (.cells #[.int .i64 k] 3)).grownBy w4 u5.ownBlock → ∃ (b o : Nat) (l : Lk), A2 = some ⟨b, o, none⟩ ∧ w4.cell? ⟨b, o + k * 5 + 4, none⟩ = some (.int .i64 l.cost) := fun w4 hg4 => by
            obtain ⟨b, o, l, e, _, _, _, _, _, _, d4⟩ := read5 ((HI1.out.ls.below (((HBk.out.alloc HBk.out.size _).grown hg4 (by have := HBk.out.size; simp; omega) (own_from HO.out))))) hlt
            exact ⟨b, o, l, e, d4⟩
          have HRD := Lib.hid hrd
          clear hown hbel hrd e2
          go_upto_region 8 with (at_builtin; refine wpList_append_own _ rfl (.tmp 32) (.tmp 34) 33 rfl w1.heap.size 3 i0 _ 1 8 Try.underlying33 hi hz0 hz1 hz2 rfl (by omega) u5 k _ rfl (HO.out.alloc _) ⟨wr.heap.size, 0, none⟩ 1 1 [.int .i64 k] rfl rfl (new_cells' _ [.int .i64 k] 3 _ rfl) (oneI k) q3 q4 (by simp; omega) ?_; intro v4 w4 hown4 hg4 _; have HG4 := Lib.hid hg4; have HOW4 := Lib.hid hown4; clear hown4 hg4)
          obtain ⟨b, o, l, rfl, d4⟩ := HRD.out w4 HG4.out
          have HB4 := Lib.hid ((HBk.out.alloc HBk.out.size _).grown HG4.out (by have := HBk.out.size; simp; omega) (own_from HO.out))
          by_cases hbig : 1000000 < l.cost
          · go_wp2_with fail
            refine (live_ _).mono ?_
            rintro e w2 ⟨rfl, b2⟩
            go_wp2
            go_ret
            have hb := HI1.out.bel.trans (HB4.out.mono HI1.out.bel.size)
            exact ⟨rfl, hb.trans (b2.mono hb.size)⟩
          · go_wp2
            refine ⟨⟨k + 1, by omega, by go_num, ?_, HB4.out⟩, by simp [intOf]; omega⟩
            rw [HE2.out, List.map_append]
            exact HOW4.out
        · have e : k = m := by omega
          obtain ⟨A9, c9, rfl, hr9⟩ := own_form hown
          have HR9 := Lib.hid hr9
          clear hown hbel hr9
          subst e
          go_wp2_with fail
          refine (told_ A2 k c2 ls _ (by omega) HIk.out.ls).mono ?_
          rintro e w2 ⟨⟨A3, c3, rfl, r3⟩, b2⟩
          have HI2 := Lib.hid (HIk.out.to b2)
          have HR3 := Lib.hid r3
          have HR9b := Lib.hid ((HR9.out.below b2).more b2.size)
          clear b2 r3
          go_wp2_with fail
          refine (rest_ok A1 n c1 ids A3 k c3 ls _ HI2.out.ids HR3.out HWF.out HM.out).mono ?_
          rintro e w3 ⟨⟨A4, c4, rfl, r4⟩, b3⟩
          have HI3 := Lib.hid (HI2.out.to b3)
          have HR4 := Lib.hid r4
          have HR9c := Lib.hid ((HR9b.out.below b3).more b3.size)
          clear b3 r4
          go_wp2_with fail
          refine (together_ n A2 k c2 ls A9 k c9 (iota k) w3 HI3.out.ls HR9c.out (by omega) (by omega) HLK.out HIO.out).mono ?_
          rintro e w4 ⟨⟨A5, c5, rfl, r5⟩, b4⟩
          have HI4 := Lib.hid (HI3.out.to b4)
          have HR4b := Lib.hid ((HR4.out.below b4).more b4.size)
          have HR5 := Lib.hid r5
          clear b4 r5
          go_wp2
          go_loopw [10] (fun i wr => ∃ b d : Nat, b ≤ n ∧ i = .int .i64 b ∧ wr = w4.drewN d) (fun i _ => n - (intOf i).toNat)
          case atStart => exact ⟨0, 0, Nat.zero_le _, rfl, rfl⟩
          case round =>
            obtain ⟨b, d, hb, rfl, rfl⟩ := hrel
            by_cases hbl : b < n
            · have hbl' : (b : Int) < (n : Int) := by omega
              go_wp2
              go_loopw [11, 12] (fun v i wr => ∃ q e : Nat, q ≤ k ∧ i = .int .i64 q ∧ v = .int .i64 (rootsTo ids ls b q) ∧ wr = w4.drewN e) (fun _ i _ => k - (intOf i).toNat)
              case atStart => exact ⟨0, d, Nat.zero_le _, rfl, rfl, rfl⟩
              case round =>
                obtain ⟨q, e, hq, rfl, rfl, rfl⟩ := hrel
                by_cases hql : q < k
                · have hql' : (q : Int) < (k : Int) := by omega
                  obtain ⟨b1, o1, l, rfl, _, hl, d0, d1, d2, d3, d4⟩ := read5 HI4.out.ls hql
                  obtain ⟨b2, o2, p, rfl, _, hp, e0, e1⟩ := read2 HR4b.out hql
                  have hpp := rest_at_pair hl hp
                  have hst := rootsTo_step (ids := ids) (b := b) hl
                  rw [← hpp] at hst
                  have hle := rootsTo_le ids ls b q
                  obtain ⟨p1, p2⟩ := p
                  obtain ⟨la, lpa, lb, lpb, lc⟩ := l
                  simp only at d0 d1 d2 d3 d4 e0 e1 hst
                  have HST := Lib.hid hst
                  clear hl hp hpp hst d1 d3 d4
                  generalize rootsTo ids ls b q = nq0 at *
                  have hA : ((la == (b : Int)) = false ∧ ¬ (la = (b : Int) ∧ p1 = 1)) ∨ ((la == (b : Int)) = true ∧ (p1 == 1) = false ∧ ¬ (la = (b : Int) ∧ p1 = 1)) ∨ ((la == (b : Int)) = true ∧ (p1 == 1) = true ∧ (la = (b : Int) ∧ p1 = 1)) := by
                    by_cases h1 : la = (b : Int) <;> by_cases h2 : p1 = 1 <;> simp [h1, h2]
                  have hB : ((lb == (b : Int)) = false ∧ ¬ (lb = (b : Int) ∧ p2 = 1)) ∨ ((lb == (b : Int)) = true ∧ (p2 == 1) = false ∧ ¬ (lb = (b : Int) ∧ p2 = 1)) ∨ ((lb == (b : Int)) = true ∧ (p2 == 1) = true ∧ (lb = (b : Int) ∧ p2 = 1)) := by
                    by_cases h1 : lb = (b : Int) <;> by_cases h2 : p2 = 1 <;> simp [h1, h2]
                  rcases hA with ⟨a1, a3⟩ | ⟨a1, a2, a3⟩ | ⟨a1, a2, a3⟩
                  all_goals
                    have HA := Lib.hid a3
                    clear a3
                    rcases hB with ⟨b1, b3⟩ | ⟨b1, b2, b3⟩ | ⟨b1, b2, b3⟩
                    all_goals
                      have HBB := Lib.hid b3
                      clear b3
                      go_wp2
                      refine ⟨⟨q + 1, e, by omega, by go_num, ?_, rfl⟩, by simp [intOf]; omega⟩
                      rw [HST.out]
                      first
                        | (rw [if_neg HA.out, if_neg HBB.out]; go_num)
                        | (rw [if_pos HA.out, if_neg HBB.out]; go_num)
                        | (rw [if_neg HA.out, if_pos HBB.out]; go_num)
                        | (rw [if_pos HA.out, if_pos HBB.out]; go_num)
                · have eq1 : q = k := by omega
                  subst eq1
                  go_wp2
                  go_loopw [13, 14] (fun v i wr => ∃ c f : Nat, c ≤ n ∧ i = .int .i64 c ∧ v = .int .i64 (lessTo ids (tog n ls (iota q)) b c) ∧ wr = w4.drewN f) (fun _ i _ => n - (intOf i).toNat)
                  case atStart => exact ⟨0, e, Nat.zero_le _, rfl, by rw [lessTo_zero], rfl⟩
                  case round =>
                    obtain ⟨c, f, hc, rfl, rfl, rfl⟩ := hrel
                    by_cases hcl : c < n
                    · have hcl' : (c : Int) < (n : Int) := by omega
                      obtain ⟨b1, o1, x, rfl, _, hx, d0⟩ := readI HR5.out hcl
                      obtain ⟨b1', o1', y, hA, _, hy, d1⟩ := readI HR5.out hbl
                      cases hA
                      obtain ⟨b2, o2, u, rfl, _, hu, e0⟩ := read1 HI4.out.ids hcl
                      obtain ⟨b2', o2', v, hA, _, hv, e1⟩ := read1 HI4.out.ids hbl
                      cases hA
                      have hst := lessTo_step (b := b) hx hy hu hv
                      have HST := Lib.hid hst
                      clear hx hy hu hv hst
                      generalize lessTo ids (tog n ls (iota q)) b c = lv at *
                      by_cases h1 : x = y
                      · have h1' : (x == y) = true := by simp [h1]
                        by_cases h2 : u < v
                        · have HC := Lib.hid (show x = y ∧ u < v from ⟨h1, h2⟩)
                          have h2' : decide (u < v) = true := by simp [h2]
                          clear h1
                          go_wp2
                          go_quiet (fail)
                          go_wp2
                          exact ⟨⟨c + 1, f + nq, by omega, by go_num, by rw [HST.out, if_pos HC.out], by simp⟩, by simp [intOf]; omega⟩
                        · have HC := Lib.hid (show ¬ (x = y ∧ u < v) from fun h => h2 h.2)
                          have h2' : decide (u < v) = false := by simp [h2]
                          clear h1
                          go_wp2
                          go_quiet (fail)
                          go_wp2
                          exact ⟨⟨c + 1, f + nq, by omega, by go_num, by rw [HST.out, if_neg HC.out], by simp⟩, by simp [intOf]; omega⟩
                      · have HC := Lib.hid (show ¬ (x = y ∧ u < v) from fun h => h1 h.1)
                        have h1' : (x == y) = false := by simp [h1]
                        clear h1
                        go_wp2
                        go_quiet (fail)
                        go_wp2
                        exact ⟨⟨c + 1, f + nq, by omega, by go_num, by rw [HST.out, if_neg HC.out], by simp⟩, by simp [intOf]; omega⟩
                    · have e1 : c = n := by omega
                      have hfin : ((rootsTo ids ls b q : Nat) : Int) = lessTo ids (tog n ls (iota q)) b c := by
                        rw [e1]
                        exact roots_less HM.out HID.out HL1.out HL2.out hbl
                      rw [hfin]
                      clear hfin
                      generalize lessTo ids (tog n ls (iota q)) b c = lv at *
                      subst e1
                      go_wp2
                      exact ⟨⟨b + 1, f, by omega, by go_num, rfl⟩, by simp [intOf]; omega⟩
            · have e : b = n := by omega
              have HI5 := Lib.hid (below_drewN HI4.out.bel d)
              subst e
              go_wp2_with fail
              refine (live_ _).mono ?_
              rintro e w5 ⟨rfl, b5⟩
              go_wp2
              go_ret
              exact ⟨rfl, HI5.out.trans (b5.mono HI5.out.size)⟩
    · have HM := Lib.hid hmay
      have HK := Lib.hid (chk_no hmay)
      have HF := Lib.hid hf
      clear hmay hf
      go_enter Try.func6, Try.ntmps6
      go_wp2_with fail
      refine (few_ _ A1 A2 n c1 m c2).mono ?_
      rw [HF.out]
      rintro e w0 ⟨rfl, rfl⟩
      go_wp2_with fail
      refine (rcheck_ A1 n c1 ids A2 m c2 ls _ HI0.out.ids HI0.out.ls (by omega)).mono ?_
      rintro e w1 ⟨rfl, b1⟩
      have HI1 := Lib.hid (HI0.out.to b1)
      rw [HK.out]
      clear b1
      go_wp2_with fail
      refine (live_ _).mono ?_
      rintro e w2 ⟨rfl, b2⟩
      go_wp2
      go_ret
      exact ⟨rfl, HI1.out.bel.trans (b2.mono HI1.out.bel.size)⟩
end Tree
end Go.Proofs.Ytdgbemafhhhceaa
