/-
  The walk of TreeScaled.
-/
import Derived.Test.YtdgbemafhhhceaaTreeLaws1
import Derived.Test.YtdgbemafhhhceaaTreeScaleLaw
import Derived.Test.YtdgbemafhhhceaaTreeWf
namespace Go.Proofs.Ytdgbemafhhhceaa
set_option linter.unusedVariables false
set_option linter.unusedSimpArgs false
open Go.RowKit
open Go.Proofs.Ytdgbemafhhhceaa.Prio
namespace Tree
theorem infoU : (Try.prog.info? 44).map (fun i => (i.zero, i.size, i.bytes)) = some (some (.int .u64 0), 1, 8) := by kernel_rfl
theorem reads_off {w w' : World} {B size n : Nat} {A : Option Addr} {xs : List Value} (h : Reads w B size A n xs) {row : Option Nat} (hg : w.grownBy w' row) (hB : B ≤ w.heap.size) (hne : ∀ ad, A = some ad → some ad.block ≠ row) : Reads w' B size A n xs :=
  ⟨h.1, fun hn => by
    obtain ⟨ad, e, hb, hc⟩ := h.2 hn
    exact ⟨ad, e, hb, fun j u hu => (World.cell?_of_block (by rw [block_of_add]; exact hg.block _ (by omega) (hne ad e))).trans (hc j u hu)⟩⟩
theorem wf_sc {x : Int} (h0 : 0 ≤ x) (h1 : x < 1152921504606846976) : (Lit.int .u64 (sc x)).wf = true := by
  have e1 : IntKind.u64.min = 0 := by decide
  have e2 : IntKind.u64.max = 18446744073709551615 := by decide
  unfold sc
  simp only [Lit.wf, e1, e2, Bool.and_eq_true, decide_eq_true_eq]
  omega
theorem wf_one : (Lit.int .u64 1).wf = true := by decide
theorem take_sc {ids : List Int} {k : Nat} {x : Int} (h : ids[k]? = some x) : (ids.take (k + 1)).map sc = (ids.take k).map sc ++ [sc x] := by
  obtain ⟨hk, e⟩ := List.getElem?_eq_some_iff.1 h
  rw [List.take_succ_eq_append_getElem hk, List.map_append, e]
  rfl
set_option maxHeartbeats 8000000 in
set_option maxRecDepth 100000 in
theorem scaled_law (A1 : Option Addr) (n c1 : Nat) (ids : List Int) (A2 : Option Addr) (m c2 : Nat) (ls : List Lk) (w : World) (h1 : Reads w w.heap.size 1 A1 n (ids.map (Value.int .u64))) (h2 : Reads w w.heap.size 5 A2 m (ls.flatMap cellsL)) (hwf : ∀ x ∈ ids, (Lit.int .u64 x).wf = true) :
    Calls Try.prog 8 #[.slice A1 n c1, .slice A2 m c2] w fun e w' => e = .returned (.bool true) ∧ Below w.heap.size w w' := by
  have hl1 := len_ids h1
  have hl2 := len_of h2
  have HI0 := Lib.hid (In.start h1 h2)
  have HWF := Lib.hid hwf
  have HL1 := Lib.hid hl1
  have HL2 := Lib.hid hl2
  clear h1 h2 hwf hl1 hl2
  by_cases g : 10 < n
  · have q1 : (10 : Int) < n := by omega
    go_enter Try.func8, Try.ntmps8
    go_wp2_with fail
    refine (live_ _).mono ?_
    rintro e w1 ⟨rfl, b1⟩
    go_wp2
    go_ret
    exact ⟨rfl, b1⟩
  · have q1 : ¬ (10 : Int) < n := by omega
    cases hf : fewB n m with
    | false =>
      go_enter Try.func8, Try.ntmps8
      go_wp2_with fail
      refine (few_ _ A1 A2 n c1 m c2).mono ?_
      rw [hf]
      rintro e w1 ⟨rfl, rfl⟩
      go_wp2_with fail
      refine (live_ _).mono ?_
      rintro e w1 ⟨rfl, b1⟩
      go_wp2
      go_ret
      exact ⟨rfl, b1⟩
    | true =>
      have hm : m ≤ 30 := by
        have h := hf
        unfold fewB at h
        rw [Bool.and_eq_true] at h
        exact of_decide_eq_true h.2
      by_cases hmay : May ids ls
      · have HM := Lib.hid hmay
        have HK := Lib.hid (chk_yes hmay)
        have HF := Lib.hid hf
        have HID : Hid (∀ x ∈ ids, 0 ≤ x) := Lib.hid (fun x hx => pos_wf (HWF.out x hx))
        clear hmay hf
        go_enter Try.func8, Try.ntmps8
        go_wp2_with fail
        refine (few_ _ A1 A2 n c1 m c2).mono ?_
        rw [HF.out]
        rintro e w0 ⟨rfl, rfl⟩
        go_wp2_with fail
        refine (rcheck_ A1 n c1 ids A2 m c2 ls _ HI0.out.ids HI0.out.ls (by omega)).mono ?_
        rintro e w1 ⟨rfl, b1⟩
        have HI1 := Lib.hid (HI0.out.to b1)
        rw [HK.out]
        clear b1
        obtain ⟨i0, hi, hz0, hz1, hz2⟩ := info_parts infoU
        go_wp2
        go_loopw [5, 6] (fun v i wr => ∃ k : Nat, k ≤ n ∧ i = .int .i64 k ∧ wr.ownsRow w1.heap.size 44 1 v k (((ids.take k).map sc).map (Value.int .u64)) ∧ (∀ x ∈ ids.take k, x < 1152921504606846976) ∧ Below w1.heap.size w1 wr) (fun _ i _ => n - (intOf i).toNat)
        case atStart => exact ⟨0, Nat.zero_le _, rfl, ⟨by simp, .inl ⟨rfl, by simp⟩⟩, by simp, Below.refl _ _⟩
        case round =>
          obtain ⟨k, hk, rfl, hown, hsm, hbel⟩ := hrel
          have hbz := hbel.size
          have HO := Lib.hid hown
          have HIk := Lib.hid (HI1.out.to hbel)
          have HBk := Lib.hid hbel
          have HSM := Lib.hid hsm
          by_cases hlt : k < n
          · have hlt' : (k : Int) < (n : Int) := by omega
            have q3 : k + 1 ≤ maxLen := by unfold maxLen; omega
            have q4 : (k + 1) * 8 ≤ 140737488355328 := by omega
            obtain ⟨b, o, x, rfl, _, hx, d0⟩ := read1 HIk.out.ids hlt
            have x0 := HID.out x (List.mem_of_getElem? hx)
            by_cases hbig : 1152921504606846976 ≤ x
            · clear hown hsm hbel
              go_wp2_with fail
              refine (live_ _).mono ?_
              rintro e w2 ⟨rfl, b2⟩
              go_wp2
              go_ret
              have hb := HIk.out.bel
              exact ⟨rfl, hb.trans (b2.mono hb.size)⟩
            · have HT : Hid ((ids.take (k + 1)).map sc = (ids.take k).map sc ++ [sc x]) := Lib.hid (take_sc hx)
              have HS2 : Hid (∀ y ∈ ids.take (k + 1), y < 1152921504606846976) := Lib.hid (by
                obtain ⟨hk9, e⟩ := List.getElem?_eq_some_iff.1 hx
                intro y hy
                rw [List.take_succ_eq_append_getElem hk9, List.mem_append, List.mem_singleton, e] at hy
                rcases hy with hy | hy
                · exact hsm y hy
                · omega)
              clear hown hsm hbel hx
              go_wp2_with (at_builtin; refine wpList_append_own _ rfl (.tmp 42) (.tmp 49) 22 rfl w1.heap.size 44 i0 _ 1 8 Try.underlying22 hi hz0 hz1 hz2 rfl (by omega) u5 k _ rfl (HO.out.alloc _) ⟨wr.heap.size, 0, none⟩ 1 1 [.int .u64 (2 * (x + 1))] rfl rfl (new_cells' _ [.int .u64 (2 * (x + 1))] 44 _ rfl) (one_int .u64 _) q3 q4 (by simp; omega) ?_; intro v4 w4 hown4 hg4 _; have HG4 := Lib.hid hg4; have HOW4 := Lib.hid hown4; clear hown4 hg4)
              have HB4 := (HBk.out.alloc HBk.out.size _).grown HG4.out (by have := HBk.out.size; simp; omega) (own_from HO.out)
              refine ⟨⟨k + 1, by omega, by go_num, ?_, HS2.out, HB4⟩, by simp [intOf]; omega⟩
              rw [HT.out, List.map_append]
              exact HOW4.out
          · have e : k = n := by omega
            have HOM0 : Hid (wr.ownsRow w1.heap.size 44 1 u5 n ((ids.map sc).map (Value.int .u64))) := Lib.hid (by
              have h9 := hown
              rw [e, ← HL1.out, List.take_length] at h9
              rw [← HL1.out]
              exact h9)
            have HSM2 : Hid (∀ x ∈ ids, x < 1152921504606846976) := Lib.hid (by
              have h9 := hsm
              rw [e, ← HL1.out, List.take_length] at h9
              exact h9)
            clear hown hbel hsm HO HSM
            obtain ⟨Am, cm, hv, hrm⟩ := own_form HOM0.out
            subst hv
            have HRM := Lib.hid hrm
            clear hrm
            subst e
            have HE1 := Lib.hid (scaled_one HM.out)
            have HE2 := Lib.hid (scaled_two HM.out HID.out)
            have HM1 := Lib.hid (may_sc HM.out)
            have HM2 : Hid (May (ids.map sc ++ [1]) ls) := Lib.hid (may_sc1 HM.out (by rw [HL1.out]; omega))
            have HW1 : Hid (∀ x ∈ ids.map sc, (Lit.int .u64 x).wf = true) := Lib.hid (fun x hx => by
              obtain ⟨y, hy, rfl⟩ := List.mem_map.1 hx
              exact wf_sc (HID.out y hy) (HSM2.out y hy))
            have HW2 : Hid (∀ x ∈ ids.map sc ++ [1], (Lit.int .u64 x).wf = true) := Lib.hid (fun x hx => by
              rcases List.mem_append.1 hx with hx | hx
              · exact HW1.out x hx
              · rw [List.mem_singleton.1 hx]; exact wf_one)
            go_wp2_with fail
            refine (told_ A2 m c2 ls _ (by omega) HIk.out.ls).mono ?_
            rintro e w2 ⟨⟨A3, c3, rfl, r3⟩, b2⟩
            have HB2 := Lib.hid (HBk.out.trans (b2.mono HBk.out.size))
            have HI2 := Lib.hid (HI1.out.to HB2.out)
            have HR3 := Lib.hid r3
            have HRM2 := Lib.hid ((HRM.out.below b2).more b2.size)
            have HOM2 := Lib.hid (own_below HOM0.out b2)
            have HLO := Lib.hid (own_lt HOM2.out)
            clear b2 r3
            go_wp2_with fail
            refine (rest_lo A1 k c1 ids A3 m c3 ls _ HI2.out.ids HR3.out HWF.out HM.out).mono ?_
            rintro e w3 ⟨⟨A4, c4, rfl, r4, f4⟩, b3⟩
            have HB3 := Lib.hid (HB2.out.trans (b3.mono HB2.out.size))
            have HI3 := Lib.hid (HI1.out.to HB3.out)
            have HR4 := Lib.hid r4
            have HF4 : Hid (∀ ad, A4 = some ad → some ad.block ≠ (Value.slice Am k cm).ownBlock) := Lib.hid (fun ad h e => by
              have h8 := f4 ad h
              have h9 := HLO.out _ e.symm
              omega)
            have hz3 := b3.size
            have HRM3 := Lib.hid ((HRM2.out.below b3).more b3.size)
            have HOM3 := Lib.hid (own_below HOM2.out b3)
            clear b3 r4 f4
            go_wp2_with fail
            refine (told_ A2 m c2 ls _ (by omega) HI3.out.ls).mono ?_
            rintro e w4 ⟨⟨A5, c5, rfl, r5⟩, b4⟩
            have HB4 := Lib.hid (HB3.out.trans (b4.mono HB3.out.size))
            have HI4 := Lib.hid (HI1.out.to HB4.out)
            have HR5 := Lib.hid r5
            have HR4b := Lib.hid ((HR4.out.below b4).more b4.size)
            have HRM4 := Lib.hid ((HRM3.out.below b4).more b4.size)
            have HOM4 := Lib.hid (own_below HOM3.out b4)
            have hz4 := b4.size
            clear b4 r5
            go_wp2_with fail
            refine (rest_lo Am k cm (ids.map sc) A5 m c5 ls _ HRM4.out HR5.out HW1.out HM1.out).mono ?_
            rw [HE1.out]
            rintro e w5 ⟨⟨A6, c6, rfl, r6, f6⟩, b5⟩
            have HB5 := Lib.hid (HB4.out.trans (b5.mono HB4.out.size))
            have HR6 := Lib.hid r6
            have HF6 : Hid (∀ ad, A6 = some ad → some ad.block ≠ (Value.slice Am k cm).ownBlock) := Lib.hid (fun ad h e => by
              have h8 := f6 ad h
              have h9 := HLO.out _ e.symm
              omega)
            have HR4c := Lib.hid ((HR4b.out.below b5).more b5.size)
            have HOM5 := Lib.hid (own_below HOM4.out b5)
            clear b5 r6 f6
            have hbz5 := HB5.out.size
            have q3 : k + 1 ≤ maxLen := by unfold maxLen; omega
            have q4 : (k + 1) * 8 ≤ 140737488355328 := by omega
            go_upto_region 13 with (at_builtin; refine wpList_append_own _ rfl (.tmp 65) (.tmp 66) 22 rfl w1.heap.size 44 i0 _ 1 8 Try.underlying22 hi hz0 hz1 hz2 rfl (by omega) (.slice Am k cm) k _ rfl (HOM5.out.alloc _) ⟨w5.heap.size, 0, none⟩ 1 1 [.int .u64 1] rfl rfl (new_cells' _ [.int .u64 1] 44 _ rfl) (one_int .u64 _) q3 q4 (by simp; omega) ?_; intro v6 w6 hown6 hg6 _; have HG6 := Lib.hid hg6; have HOW6 := Lib.hid hown6; clear hown6 hg6)
            have HB6 := Lib.hid ((HB5.out.alloc HB5.out.size _).grown HG6.out (by have := HB5.out.size; simp; omega) (own_from HOM5.out))
            have hz6 := HG6.out.size
            have HR4d : Hid (Reads w6 w6.heap.size 2 A4 m ((restOf ids ls).flatMap cells2)) := Lib.hid ((reads_off (HR4c.out.alloc (Nat.le_refl _) _) HG6.out (by simp) HF4.out).more (by simp at hz6; omega))
            have HR6b : Hid (Reads w6 w6.heap.size 2 A6 m ((restOf ids ls).flatMap cells2)) := Lib.hid ((reads_off (HR6.out.alloc (Nat.le_refl _) _) HG6.out (by simp) HF6.out).more (by simp at hz6; omega))
            have HI6 := Lib.hid (HI1.out.to HB6.out)
            have hv6 := own_form HOW6.out
            obtain ⟨An, cn, hv6, hrn⟩ := hv6
            subst hv6
            have HRN : Hid (Reads w6 w6.heap.size 1 An (k + 1) ((ids.map sc ++ [1]).map (Value.int .u64))) := Lib.hid (by rw [List.map_append]; exact hrn)
            clear hrn hz6 HOW6 HG6
            go_wp2_with fail
            refine (told_ A2 m c2 ls _ (by omega) HI6.out.ls).mono ?_
            rintro e w7 ⟨⟨A7, c7, rfl, r7⟩, b7⟩
            have HB7 := Lib.hid (HB6.out.trans (b7.mono HB6.out.size))
            have HR7 := Lib.hid r7
            have HR4e := Lib.hid ((HR4d.out.below b7).more b7.size)
            have HR6c := Lib.hid ((HR6b.out.below b7).more b7.size)
            have HRN7 := Lib.hid ((HRN.out.below b7).more b7.size)
            clear b7 r7
            go_wp2_with fail
            refine (rest_ok An (k + 1) cn (ids.map sc ++ [1]) A7 m c7 ls _ HRN7.out HR7.out HW2.out HM2.out).mono ?_
            rw [HE2.out]
            rintro e w8 ⟨⟨A8, c8, rfl, r8⟩, b8⟩
            have HB8 := Lib.hid (HB7.out.trans (b8.mono HB7.out.size))
            have HI8 := Lib.hid (HI1.out.to HB8.out)
            have HR8 := Lib.hid r8
            have HR4f := Lib.hid ((HR4e.out.below b8).more b8.size)
            have HR6d := Lib.hid ((HR6c.out.below b8).more b8.size)
            clear b8 r8
            go_wp2
            go_loopw [13] (fun i wr => ∃ (q d : Nat), q ≤ m ∧ i = .int .i64 q ∧ wr = w8.drewN d) (fun i _ => m - (intOf i).toNat)
            case atStart => exact ⟨0, 0, Nat.zero_le _, rfl, rfl⟩
            case round =>
              obtain ⟨q, d, hq, rfl, rfl⟩ := hrel
              by_cases hql : q < m
              · have hql' : (q : Int) < (m : Int) := by omega
                obtain ⟨b1, o1, p, rfl, _, hp, d0, d1⟩ := read2 HR4f.out hql
                obtain ⟨b2, o2, p', rfl, _, hp', d2, d3⟩ := read2 HR6d.out hql
                rw [hp] at hp'
                cases hp'
                obtain ⟨b3, o3, p'', rfl, _, hp'', d4, d5⟩ := read2 HR8.out hql
                rw [hp] at hp''
                cases hp''
                obtain ⟨p1, p2⟩ := p
                simp only at d0 d1 d2 d3 d4 d5
                have hn := neq2 p1 p2
                clear hp
                go_wp2
                go_quiet (fail)
                go_wp2
                exact ⟨⟨q + 1, d + nq, by omega, by go_num, by simp⟩, by simp [intOf]; omega⟩
              · have HI9 := Lib.hid (below_drewN HI8.out.bel d)
                go_wp2_with fail
                refine (live_ _).mono ?_
                rintro e w9 ⟨rfl, b9⟩
                go_wp2
                go_ret
                exact ⟨rfl, HI9.out.trans (b9.mono HI9.out.size)⟩
      · have HM := Lib.hid hmay
        have HK := Lib.hid (chk_no hmay)
        have HF := Lib.hid hf
        clear hmay hf
        go_enter Try.func8, Try.ntmps8
        go_wp2_with fail
        refine (few_ _ A1 A2 n c1 m c2).mono ?_
        rw [HF.out]
        rintro e w0 ⟨rfl, rfl⟩
        go_wp2_with fail
        refine (rcheck_ A1 n c1 ids A2 m c2 ls _ HI0.out.ids HI0.out.ls (by omega)).mono ?_
        rintro e w1 ⟨rfl, b1⟩
        have HI1 := Lib.hid (HI0.out.to b1)
        rw [HK.out]
        clear b1
        go_wp2_with fail
        refine (live_ _).mono ?_
        rintro e w2 ⟨rfl, b2⟩
        go_wp2
        go_ret
        exact ⟨rfl, HI1.out.bel.trans (b2.mono HI1.out.bel.size)⟩
end Tree
end Go.Proofs.Ytdgbemafhhhceaa
