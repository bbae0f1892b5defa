/-
  The walks of TreeChecks and TreeRests.
-/
import Derived.Test.YtdgbemafhhhceaaTreeLive
namespace Go.Proofs.Ytdgbemafhhhceaa
set_option linter.unusedVariables false
set_option linter.unusedSimpArgs false
open Go.RowKit
open Go.Proofs.Ytdgbemafhhhceaa.Prio
namespace Tree
/-- what comes in, at a later world -/
structure In (w W : World) (A1 : Option Addr) (n : Nat) (ids : List Int) (A2 : Option Addr) (m : Nat) (ls : List Lk) : Prop where
  ids : Reads W W.heap.size 1 A1 n (ids.map (Value.int .u64))
  ls : Reads W W.heap.size 5 A2 m (ls.flatMap cellsL)
  bel : Below w.heap.size w W
section
variable {w W W' : World} {A1 : Option Addr} {n : Nat} {ids : List Int} {A2 : Option Addr} {m : Nat} {ls : List Lk}
theorem In.start (h1 : Reads w w.heap.size 1 A1 n (ids.map (Value.int .u64))) (h2 : Reads w w.heap.size 5 A2 m (ls.flatMap cellsL)) : In w w A1 n ids A2 m ls := ⟨h1, h2, Below.refl _ _⟩
theorem In.to (h : In w W A1 n ids A2 m ls) (hb : Below W.heap.size W W') : In w W' A1 n ids A2 m ls := ⟨(h.ids.below hb).more hb.size, (h.ls.below hb).more hb.size, h.bel.trans (hb.mono h.bel.size)⟩
end
set_option maxHeartbeats 4000000 in
set_option maxRecDepth 100000 in
theorem checks_law (A1 : Option Addr) (n c1 : Nat) (ids : List Int) (A2 : Option Addr) (m c2 : Nat) (ls : List Lk) (w : World) (h1 : Reads w w.heap.size 1 A1 n (ids.map (Value.int .u64))) (h2 : Reads w w.heap.size 5 A2 m (ls.flatMap cellsL)) (hwf : ∀ x ∈ ids, (Lit.int .u64 x).wf = true) :
    Calls Try.prog 3 #[.slice A1 n c1, .slice A2 m c2] w fun e w' => e = .returned (.bool true) ∧ Below w.heap.size w w' := by
  have HI0 := Lib.hid (In.start h1 h2)
  have HWF := Lib.hid hwf
  clear h1 h2 hwf
  by_cases g : 50 < n ∨ (¬ 50 < n ∧ 50 < m)
  · rcases g with g | ⟨g, g'⟩
    · have q1 : (50 : Int) < n := by omega
      go_enter Try.func3, Try.ntmps3
      go_wp2_with fail
      refine (live_ _).mono ?_
      rintro e w1 ⟨rfl, b1⟩
      go_wp2
      go_ret
      exact ⟨rfl, b1⟩
    · have q1 : ¬ (50 : Int) < n := by omega
      have q2 : (50 : Int) < m := by omega
      go_enter Try.func3, Try.ntmps3
      go_wp2_with fail
      refine (live_ _).mono ?_
      rintro e w1 ⟨rfl, b1⟩
      go_wp2
      go_ret
      exact ⟨rfl, b1⟩
  · have q1 : ¬ (50 : Int) < n := by omega
    have q2 : ¬ (50 : Int) < m := by omega
    have hm : m ≤ 50 := by omega
    clear g
    by_cases hmay : May ids ls
    · have HM := Lib.hid hmay
      have HK := Lib.hid (chk_yes hmay)
      clear hmay
      go_enter Try.func3, Try.ntmps3
      go_wp2_with fail
      refine (rcheck_ A1 n c1 ids A2 m c2 ls _ HI0.out.ids HI0.out.ls (by omega)).mono ?_
      rintro e w1 ⟨rfl, b1⟩
      have HI1 := Lib.hid (HI0.out.to b1)
      rw [HK.out]
      clear b1
      go_wp2_with fail
      refine (told_ A2 m c2 ls _ (by omega) HI1.out.ls).mono ?_
      rintro e w2 ⟨⟨A3, c3, rfl, r3⟩, b2⟩
      have HI2 := Lib.hid (HI1.out.to b2)
      have HR3 := Lib.hid r3
      clear b2 r3
      go_wp2_with fail
      refine (pcheck_ A1 n c1 ids A3 m c3 ls _ HI2.out.ids HR3.out HWF.out).mono ?_
      rintro e w3 ⟨rfl, b3⟩
      have HI3 := Lib.hid (HI2.out.to b3)
      rw [HK.out]
      clear b3
      go_wp2_with fail
      refine (live_ _).mono ?_
      rintro e w4 ⟨rfl, b4⟩
      go_wp2
      go_ret
      exact ⟨rfl, HI3.out.bel.trans (b4.mono HI3.out.bel.size)⟩
    · have HM := Lib.hid hmay
      have HK := Lib.hid (chk_no hmay)
      clear hmay
      go_enter Try.func3, Try.ntmps3
      go_wp2_with fail
      refine (rcheck_ A1 n c1 ids A2 m c2 ls _ HI0.out.ids HI0.out.ls (by omega)).mono ?_
      rintro e w1 ⟨rfl, b1⟩
      have HI1 := Lib.hid (HI0.out.to b1)
      rw [HK.out]
      clear b1
      go_wp2_with fail
      refine (told_ A2 m c2 ls _ (by omega) HI1.out.ls).mono ?_
      rintro e w2 ⟨⟨A3, c3, rfl, r3⟩, b2⟩
      have HI2 := Lib.hid (HI1.out.to b2)
      have HR3 := Lib.hid r3
      clear b2 r3
      go_wp2_with fail
      refine (rest_bad A1 n c1 ids A3 m c3 ls _ HI2.out.ids HR3.out HWF.out HM.out).mono ?_
      rintro e w3 ⟨rfl, b3⟩
      have HI3 := Lib.hid (HI2.out.to b3)
      clear b3
      go_wp2_with fail
      refine (told_ A2 m c2 ls _ (by omega) HI3.out.ls).mono ?_
      rintro e w4 ⟨⟨A5, c5, rfl, r5⟩, b4⟩
      have HI4 := Lib.hid (HI3.out.to b4)
      have HR5 := Lib.hid r5
      clear b4 r5
      go_wp2_with fail
      refine (active_bad A1 n c1 ids A5 m c5 ls _ HI4.out.ids HR5.out HWF.out HM.out).mono ?_
      rintro e w5 ⟨rfl, b5⟩
      have HI5 := Lib.hid (HI4.out.to b5)
      clear b5
      go_wp2_with fail
      refine (told_ A2 m c2 ls _ (by omega) HI5.out.ls).mono ?_
      rintro e w6 ⟨⟨A7, c7, rfl, r7⟩, b6⟩
      have HI6 := Lib.hid (HI5.out.to b6)
      have HR7 := Lib.hid r7
      clear b6 r7
      go_wp2_with fail
      refine (pcheck_ A1 n c1 ids A7 m c7 ls _ HI6.out.ids HR7.out HWF.out).mono ?_
      rintro e w7 ⟨rfl, b7⟩
      have HI7 := Lib.hid (HI6.out.to b7)
      rw [HK.out]
      clear b7
      go_wp2_with fail
      refine (live_ _).mono ?_
      rintro e w8 ⟨rfl, b8⟩
      go_wp2
      go_ret
      exact ⟨rfl, HI7.out.bel.trans (b8.mono HI7.out.bel.size)⟩
/-- a law that asks first whether there are few bridges and links that may be: if not, it is live alone -/
def Few (n m : Nat) (ids : List Int) (ls : List Lk) : Prop := fewB n m = true ∧ May ids ls
set_option maxHeartbeats 8000000 in
set_option maxRecDepth 100000 in
theorem rests_law (A1 : Option Addr) (n c1 : Nat) (ids : List Int) (A2 : Option Addr) (m c2 : Nat) (ls : List Lk) (w : World) (h1 : Reads w w.heap.size 1 A1 n (ids.map (Value.int .u64))) (h2 : Reads w w.heap.size 5 A2 m (ls.flatMap cellsL)) (hwf : ∀ x ∈ ids, (Lit.int .u64 x).wf = true) :
    Calls Try.prog 4 #[.slice A1 n c1, .slice A2 m c2] w fun e w' => e = .returned (.bool true) ∧ Below w.heap.size w w' := by
  have HI0 := Lib.hid (In.start h1 h2)
  have HWF := Lib.hid hwf
  have hlm := len_of h2
  have HLM := Lib.hid hlm
  clear h1 h2 hwf
  cases hf : fewB n m with
  | false =>
    go_enter Try.func4, Try.ntmps4
    go_wp2_with fail
    refine (few_ _ A1 A2 n c1 m c2).mono ?_
    rw [hf]
    rintro e w1 ⟨rfl, rfl⟩
    go_wp2_with fail
    refine (live_ _).mono ?_
    rintro e w1 ⟨rfl, b1⟩
    go_wp2
    go_ret
    exact ⟨rfl, b1⟩
  | true =>
    have hm : m ≤ 30 := by
      have h := hf
      unfold fewB at h
      rw [Bool.and_eq_true] at h
      exact of_decide_eq_true h.2
    clear hlm
    by_cases hmay : May ids ls
    · have HM := Lib.hid hmay
      have HK := Lib.hid (chk_yes hmay)
      have HF := Lib.hid hf
      clear hmay hf
      go_enter Try.func4, Try.ntmps4
      go_wp2_with fail
      refine (few_ _ A1 A2 n c1 m c2).mono ?_
      rw [HF.out]
      rintro e w0 ⟨rfl, rfl⟩
      go_wp2_with fail
      refine (rcheck_ A1 n c1 ids A2 m c2 ls _ HI0.out.ids HI0.out.ls (by omega)).mono ?_
      rintro e w1 ⟨rfl, b1⟩
      have HI1 := Lib.hid (HI0.out.to b1)
      rw [HK.out]
      clear b1
      go_wp2_with fail
      refine (told_ A2 m c2 ls _ (by omega) HI1.out.ls).mono ?_
      rintro e w2 ⟨⟨A3, c3, rfl, r3⟩, b2⟩
      have HI2 := Lib.hid (HI1.out.to b2)
      have HR3 := Lib.hid r3
      clear b2 r3
      go_wp2_with fail
      refine (rest_ok A1 n c1 ids A3 m c3 ls _ HI2.out.ids HR3.out HWF.out HM.out).mono ?_
      rintro e w3 ⟨⟨A4, c4, rfl, r4⟩, b3⟩
      have HI3 := Lib.hid (HI2.out.to b3)
      have HR4 := Lib.hid r4
      clear b3 r4
      go_wp2_with fail
      refine (told_ A2 m c2 ls _ (by omega) HI3.out.ls).mono ?_
      rintro e w4 ⟨⟨A5, c5, rfl, r5⟩, b4⟩
      have HI4 := Lib.hid (HI3.out.to b4)
      have HR4b := Lib.hid ((HR4.out.below b4).more b4.size)
      have HR5 := Lib.hid r5
      clear b4 r5
      go_wp2_with fail
      refine (active_ok A1 n c1 ids A5 m c5 ls _ HI4.out.ids HR5.out HWF.out HM.out).mono ?_
      rintro e w5 ⟨⟨A6, c6, rfl, r6⟩, b5⟩
      have HI5 := Lib.hid (HI4.out.to b5)
      have HR4c := Lib.hid ((HR4b.out.below b5).more b5.size)
      have HR6 := Lib.hid r6
      clear b5 r6 HR4 HR4b
      go_wp2_with fail
      refine (rrest_ A1 n c1 ids A2 m c2 ls _ HI5.out.ids HI5.out.ls HM.out).mono ?_
      rintro e w6 ⟨⟨A7, c7, rfl, r7⟩, b6⟩
      have HI6 := Lib.hid (HI5.out.to b6)
      have hr4 := (HR4c.out.below b6).more b6.size
      have HR6b := Lib.hid ((HR6.out.below b6).more b6.size)
      clear b6 HR4c HR6
      go_wp2
      go_loopw [10] (fun i wr => ∃ (k d : Nat), k ≤ m ∧ i = .int .i64 k ∧ wr = w6.drewN d) (fun i _ => m - (intOf i).toNat)
      case atStart => exact ⟨0, 0, Nat.zero_le _, rfl, rfl⟩
      case round =>
        obtain ⟨k, d, hk, rfl, rfl⟩ := hrel
        by_cases hlt : k < m
        · have hlt' : (k : Int) < (m : Int) := by omega
          obtain ⟨b1, o1, p, rfl, hb1, hp, d0, d1⟩ := read2 hr4 hlt
          obtain ⟨b2, o2, q, rfl, hb2, hq, d2, d3⟩ := read2 r7 hlt
          rw [hp] at hq
          cases hq
          obtain ⟨p1, p2⟩ := p
          simp only at d0 d1 d2 d3
          have hn := neq2 p1 p2
          clear hp hr4 r7
          go_wp2
          go_quiet (fail)
          go_wp2
          exact ⟨⟨k + 1, d + nq, by omega, by go_num, by simp⟩, by simp [intOf]; omega⟩
        · have e : k = m := by omega
          have HI7 := Lib.hid (HI6.out.to (below_drewN (Below.refl _ _) d))
          have HR6c := Lib.hid (HR6b.out.drewN d)
          clear hr4 r7
          subst e
          go_wp2_with fail
          refine (ractive_ A1 n c1 ids A2 k c2 ls _ HI7.out.ids HI7.out.ls HM.out).mono ?_
          rintro e w7 ⟨⟨A8, c8, rfl, r8⟩, b7⟩
          have HI8 := Lib.hid (HI7.out.to b7)
          have r6 := (HR6c.out.below b7).more b7.size
          have hal : (activeOf ids ls).length ≤ 5000 := by
            unfold activeOf
            have := activeTo_len (restOf ids ls) ls.length
            rw [HLM.out] at this
            rw [HLM.out]
            omega
          have HS := Lib.hid (sameInts_ w7 A6 A8 c6 c8 _ _ r6 r8 hal)
          clear b7 r6 r8 hal
          go_wp2_with fail
          refine HS.out.mono ?_
          rintro e w8 ⟨rfl, m8, rfl⟩
          go_wp2_with fail
          refine (live_ _).mono ?_
          rintro e w9 ⟨rfl, b9⟩
          go_wp2
          go_ret
          have hb := below_drewN HI8.out.bel m8
          exact ⟨rfl, hb.trans (b9.mono hb.size)⟩
    · have HM := Lib.hid hmay
      have HK := Lib.hid (chk_no hmay)
      have HF := Lib.hid hf
      clear hmay hf
      go_enter Try.func4, Try.ntmps4
      go_wp2_with fail
      refine (few_ _ A1 A2 n c1 m c2).mono ?_
      rw [HF.out]
      rintro e w0 ⟨rfl, rfl⟩
      go_wp2_with fail
      refine (rcheck_ A1 n c1 ids A2 m c2 ls _ HI0.out.ids HI0.out.ls (by omega)).mono ?_
      rintro e w1 ⟨rfl, b1⟩
      have HI1 := Lib.hid (HI0.out.to b1)
      rw [HK.out]
      clear b1
      go_wp2_with fail
      refine (live_ _).mono ?_
      rintro e w2 ⟨rfl, b2⟩
      go_wp2
      go_ret
      exact ⟨rfl, HI1.out.bel.trans (b2.mono HI1.out.bel.size)⟩
end Tree
end Go.Proofs.Ytdgbemafhhhceaa
