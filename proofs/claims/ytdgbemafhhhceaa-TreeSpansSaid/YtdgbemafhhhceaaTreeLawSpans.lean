/-
  The walk of TreeSpans.
-/
import Derived.Test.YtdgbemafhhhceaaTreeLaws1
import Derived.Test.YtdgbemafhhhceaaTreeSpanLaw
import Derived.Test.YtdgbemafhhhceaaTreeTog
import Derived.Test.YtdgbemafhhhceaaTreeWf
namespace Go.Proofs.Ytdgbemafhhhceaa
set_option linter.unusedVariables false
set_option linter.unusedSimpArgs false
open Go.RowKit
open Go.Proofs.Ytdgbemafhhhceaa.Prio
namespace Tree
set_option maxHeartbeats 8000000 in
set_option maxRecDepth 100000 in
theorem spans_law (A1 : Option Addr) (n c1 : Nat) (ids : List Int) (A2 : Option Addr) (m c2 : Nat) (ls : List Lk) (w : World) (h1 : Reads w w.heap.size 1 A1 n (ids.map (Value.int .u64))) (h2 : Reads w w.heap.size 5 A2 m (ls.flatMap cellsL)) (hwf : ∀ x ∈ ids, (Lit.int .u64 x).wf = true) :
    Calls Try.prog 5 #[.slice A1 n c1, .slice A2 m c2] w fun e w' => e = .returned (.bool true) ∧ Below w.heap.size w w' := by
  have hl1 := len_ids h1
  have hl2 := len_of h2
  have HI0 := Lib.hid (In.start h1 h2)
  have HWF := Lib.hid hwf
  have HL1 := Lib.hid hl1
  have HL2 := Lib.hid hl2
  clear h1 h2 hwf hl1 hl2
  cases hf : fewB n m with
  | false =>
    go_enter Try.func5, Try.ntmps5
    go_wp2_with fail
    refine (few_ _ A1 A2 n c1 m c2).mono ?_
    rw [hf]
    rintro e w1 ⟨rfl, rfl⟩
    go_wp2_with fail
    refine (live_ _).mono ?_
    rintro e w1 ⟨rfl, b1⟩
    go_wp2
    go_ret
    exact ⟨rfl, b1⟩
  | true =>
    have hm : m ≤ 30 := by
      have h := hf
      unfold fewB at h
      rw [Bool.and_eq_true] at h
      exact of_decide_eq_true h.2
    by_cases hmay : May ids ls
    · have HM := Lib.hid hmay
      have HK := Lib.hid (chk_yes hmay)
      have HF := Lib.hid hf
      have HID : Hid (∀ x ∈ ids, 0 ≤ x) := Lib.hid (fun x hx => pos_wf (HWF.out x hx))
      have HLK : Hid (∀ l ∈ ls, ∃ a b : Nat, l.a = a ∧ l.b = b ∧ a < n ∧ b < n) := Lib.hid (fun l hl => by
        obtain ⟨a, b, h1, h2, h3, h4⟩ := link_nat hmay hl
        rw [HL1.out] at h3 h4
        exact ⟨a, b, h1, h2, h3, h4⟩)
      have HIO : Hid (∀ x ∈ iota m, 0 ≤ x ∧ x < (m : Int)) := Lib.hid (fun x hx => by
        unfold iota at hx
        obtain ⟨k, hk, rfl⟩ := List.mem_map.1 hx
        have := List.mem_range.1 hk
        omega)
      have hn12 : n ≤ 12 := by have := hmay.n2; rw [HL1.out] at this; exact this
      clear hmay hf
      go_enter Try.func5, Try.ntmps5
      go_wp2_with fail
      refine (few_ _ A1 A2 n c1 m c2).mono ?_
      rw [HF.out]
      rintro e w0 ⟨rfl, rfl⟩
      go_wp2_with fail
      refine (rcheck_ A1 n c1 ids A2 m c2 ls _ HI0.out.ids HI0.out.ls (by omega)).mono ?_
      rintro e w1 ⟨rfl, b1⟩
      have HI1 := Lib.hid (HI0.out.to b1)
      rw [HK.out]
      clear b1
      obtain ⟨i0, hi, hz0, hz1, hz2⟩ := info_parts infoI
      go_wp2
      go_loopw [5, 6] (fun v i wr => ∃ k : Nat, k ≤ m ∧ i = .int .i64 k ∧ wr.ownsRow w1.heap.size 3 1 v k ((iota k).map (Value.int .i64)) ∧ Below w1.heap.size w1 wr) (fun _ i _ => m - (intOf i).toNat)
      case atStart => exact ⟨0, Nat.zero_le _, rfl, ⟨by simp [iota], .inl ⟨rfl, by simp [iota]⟩⟩, Below.refl _ _⟩
      case round =>
        obtain ⟨k, hk, rfl, hown, hbel⟩ := hrel
        have hbz := hbel.size
        have HO := Lib.hid hown
        have HIk := Lib.hid (HI1.out.to hbel)
        have HBk := Lib.hid hbel
        by_cases hlt : k < m
        · have hlt' : (k : Int) < (m : Int) := by omega
          have q3 : k + 1 ≤ maxLen := by unfold maxLen; omega
          have q4 : (k + 1) * 8 ≤ 140737488355328 := by omega
          have e2 : iota (k + 1) = iota k ++ [(k : Int)] := by
            unfold iota
            rw [List.range_succ, List.map_append]
            rfl
          have HE2 := Lib.hid e2
          have hrd : ∀ w4 : World, (wr.alloc (.cells #[.int .i64 k] 3)).grownBy w4 u5.ownBlock → ∃ (b o : Nat) (l : Lk), A2 = some ⟨b, o, none⟩ ∧ w4.cell? ⟨b, o + k * 5 + 4, none⟩ = some (.int .i64 l.cost) := fun w4 hg4 => by
            obtain ⟨b, o, l, e, _, _, _, _, _, _, d4⟩ := read5 ((HI1.out.ls.below (((HBk.out.alloc HBk.out.size _).grown hg4 (by have := HBk.out.size; simp; omega) (own_from HO.out))))) hlt
            exact ⟨b, o, l, e, d4⟩
          have HRD := Lib.hid hrd
          clear hown hbel hrd e2
          go_upto_region 8 with (at_builtin; refine wpList_append_own _ rfl (.tmp 31) (.tmp 33) 33 rfl w1.heap.size 3 i0 _ 1 8 Try.underlying33 hi hz0 hz1 hz2 rfl (by omega) u5 k _ rfl (HO.out.alloc _) ⟨wr.heap.size, 0, none⟩ 1 1 [.int .i64 k] rfl rfl (new_cells' _ [.int .i64 k] 3 _ rfl) (oneI k) q3 q4 (by simp; omega) ?_; intro v4 w4 hown4 hg4 _; have HG4 := Lib.hid hg4; have HOW4 := Lib.hid hown4; clear hown4 hg4)
          obtain ⟨b, o, l, rfl, d4⟩ := HRD.out w4 HG4.out
          have HB4 := Lib.hid ((HBk.out.alloc HBk.out.size _).grown HG4.out (by have := HBk.out.size; simp; omega) (own_from HO.out))
          by_cases hbig : 1000000 < l.cost
          · go_wp2_with fail
            refine (live_ _).mono ?_
            rintro e w2 ⟨rfl, b2⟩
            go_wp2
            go_ret
            have hb := HI1.out.bel.trans (HB4.out.mono HI1.out.bel.size)
            exact ⟨rfl, hb.trans (b2.mono hb.size)⟩
          · go_wp2
            refine ⟨⟨k + 1, by omega, by go_num, ?_, HB4.out⟩, by simp [intOf]; omega⟩
            rw [HE2.out, List.map_append]
            exact HOW4.out
        · have e : k = m := by omega
          obtain ⟨A9, c9, rfl, hr9⟩ := own_form hown
          have HR9 := Lib.hid hr9
          clear hown hbel hr9
          subst e
          go_wp2_with fail
          refine (told_ A2 k c2 ls _ (by omega) HIk.out.ls).mono ?_
          rintro e w2 ⟨⟨A3, c3, rfl, r3⟩, b2⟩
          have HI2 := Lib.hid (HIk.out.to b2)
          have HR3 := Lib.hid r3
          have HR9b := Lib.hid ((HR9.out.below b2).more b2.size)
          clear b2 r3
          have HSL : Hid ((activeOf ids ls).length ≤ k) := Lib.hid (by
            unfold activeOf
            have := activeTo_len (restOf ids ls) ls.length
            rw [HL2.out] at this
            rw [HL2.out]
            exact this)
          have HSM : Hid (∀ x ∈ activeOf ids ls, 0 ≤ x ∧ x < (k : Int)) := Lib.hid (fun x hx => by
            have := active_range hx
            rw [HL2.out] at this
            exact this)
          have HT : Hid (tog n ls (activeOf ids ls) = tog n ls (iota k)) := Lib.hid (by
            have := tog_active HM.out HID.out
            rw [HL1.out, HL2.out] at this
            exact this)
          have HSP : Hid ((activeOf ids ls).length + groupsTo (tog n ls (iota k)) n = n) := Lib.hid (by
            have := spans_len HM.out HID.out
            rw [HL1.out, HL2.out] at this
            exact this)
          go_wp2_with fail
          refine (active_ok A1 n c1 ids A3 k c3 ls _ HI2.out.ids HR3.out HWF.out HM.out).mono ?_
          rintro e w3 ⟨⟨A4, c4, rfl, r4⟩, b3⟩
          have HI3 := Lib.hid (HI2.out.to b3)
          have HR9c := Lib.hid ((HR9b.out.below b3).more b3.size)
          clear b3
          have HR4 := Lib.hid r4
          clear r4
          generalize activeOf ids ls = sm at *
          generalize hs : sm.length = s at *
          have hsk : s ≤ k := HSL.out
          have q1 : ¬ (k : Int) < (s : Int) := by omega
          clear hs
          go_wp2
          go_loopw [9] (fun i wr => ∃ q : Nat, q ≤ s ∧ i = .int .i64 q ∧ wr = w3) (fun i _ => s - (intOf i).toNat)
          case atStart => exact ⟨0, Nat.zero_le _, rfl, rfl⟩
          case round =>
            obtain ⟨q, hq, rfl, rfl⟩ := hrel
            by_cases hql : q < s
            · have hql' : (q : Int) < (s : Int) := by omega
              obtain ⟨b1, o1, x, rfl, _, hx, d0⟩ := readI HR4.out hql
              obtain ⟨x0, x1⟩ := HSM.out x (List.mem_of_getElem? hx)
              have x0' : ¬ x < 0 := by omega
              have x1' : ¬ (k : Int) ≤ x := by omega
              clear hx
              go_wp2
              exact ⟨⟨q + 1, by omega, by go_num, trivial⟩, by simp [intOf]; omega⟩
            · have eq1 : q = s := by omega
              subst eq1
              go_wp2_with fail
              refine (together_ n A2 k c2 ls A9 k c9 (iota k) _ HI3.out.ls HR9c.out (by omega) (by omega) HLK.out HIO.out).mono ?_
              rintro e w4 ⟨⟨A5, c5, rfl, r5⟩, b4⟩
              have HI4 := Lib.hid (HI3.out.to b4)
              have HR4b := Lib.hid ((HR4.out.below b4).more b4.size)
              have HR5 := Lib.hid r5
              clear b4 r5
              go_wp2_with fail
              refine (together_ n A2 k c2 ls A4 q c4 sm _ HI4.out.ls HR4b.out (by omega) (by omega) HLK.out HSM.out).mono ?_
              rw [HT.out]
              rintro e w5 ⟨⟨A6, c6, rfl, r6⟩, b5⟩
              have HI5 := Lib.hid (HI4.out.to b5)
              have HR5b := Lib.hid ((HR5.out.below b5).more b5.size)
              have HR6 := Lib.hid r6
              clear b5 r6
              generalize tog n ls (iota k) = W at *
              go_wp2
              go_loopw [12, 13] (fun v i wr => ∃ b d : Nat, b ≤ n ∧ i = .int .i64 b ∧ v = .int .i64 (groupsTo W b) ∧ wr = w5.drewN d) (fun _ i _ => n - (intOf i).toNat)
              case atStart => exact ⟨0, 0, Nat.zero_le _, rfl, rfl, rfl⟩
              case round =>
                obtain ⟨b, d, hb, rfl, rfl, rfl⟩ := hrel
                have hgl := groupsTo_le W b
                by_cases hbl : b < n
                · have hbl' : (b : Int) < (n : Int) := by omega
                  obtain ⟨b1, o1, x, rfl, _, hx, d0⟩ := readI HR5b.out hbl
                  obtain ⟨b2, o2, y, rfl, _, hy, d1⟩ := readI HR6.out hbl
                  have hst := groupsTo_step hx
                  have HST := Lib.hid hst
                  rw [hx] at hy
                  cases hy
                  clear hx hst
                  generalize groupsTo W b = gq at *
                  by_cases h1 : x = (b : Int)
                  · have h1' : (x == (b : Int)) = true := by simp [h1]
                    have HC := Lib.hid h1
                    clear h1
                    go_wp2
                    go_quiet (fail)
                    go_wp2
                    exact ⟨⟨b + 1, d + nq, by omega, by go_num, by rw [HST.out, if_pos HC.out]; go_num, by simp⟩, by simp [intOf]; omega⟩
                  · have h1' : (x == (b : Int)) = false := by simp [h1]
                    have HC := Lib.hid h1
                    clear h1
                    go_wp2
                    go_quiet (fail)
                    go_wp2
                    exact ⟨⟨b + 1, d + nq, by omega, by go_num, by rw [HST.out, if_neg HC.out]; go_num, by simp⟩, by simp [intOf]; omega⟩
                · have eq2 : b = n := by omega
                  subst eq2
                  have hsp := HSP.out
                  generalize groupsTo W b = gq at *
                  have h1' : ((q : Int) == (b : Int) - (gq : Int)) = true := by simp; omega
                  have HI6 := Lib.hid (below_drewN HI5.out.bel d)
                  go_wp2_with fail
                  refine (live_ _).mono ?_
                  rintro e w6 ⟨rfl, b6⟩
                  go_wp2
                  go_ret
                  exact ⟨rfl, HI6.out.trans (b6.mono HI6.out.size)⟩
    · have HM := Lib.hid hmay
      have HK := Lib.hid (chk_no hmay)
      have HF := Lib.hid hf
      clear hmay hf
      go_enter Try.func5, Try.ntmps5
      go_wp2_with fail
      refine (few_ _ A1 A2 n c1 m c2).mono ?_
      rw [HF.out]
      rintro e w0 ⟨rfl, rfl⟩
      go_wp2_with fail
      refine (rcheck_ A1 n c1 ids A2 m c2 ls _ HI0.out.ids HI0.out.ls (by omega)).mono ?_
      rintro e w1 ⟨rfl, b1⟩
      have HI1 := Lib.hid (HI0.out.to b1)
      rw [HK.out]
      clear b1
      go_wp2_with fail
      refine (live_ _).mono ?_
      rintro e w2 ⟨rfl, b2⟩
      go_wp2
      go_ret
      exact ⟨rfl, HI1.out.bel.trans (b2.mono HI1.out.bel.size)⟩
end Tree
end Go.Proofs.Ytdgbemafhhhceaa
