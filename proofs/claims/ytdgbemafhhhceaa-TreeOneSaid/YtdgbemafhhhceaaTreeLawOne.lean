/-
  The walk of TreeOne.
-/
import Derived.Test.YtdgbemafhhhceaaTreeLaws1
import Derived.Test.YtdgbemafhhhceaaTreeRestLaw
import Derived.Test.YtdgbemafhhhceaaTreeWf
namespace Go.Proofs.Ytdgbemafhhhceaa
set_option linter.unusedVariables false
set_option linter.unusedSimpArgs false
open Go.RowKit
open Go.Proofs.Ytdgbemafhhhceaa.Prio
namespace Tree
theorem one_at {ids : List Int} {ls : List Lk} (hm : May ids ls) (hid : ∀ x ∈ ids, 0 ≤ x) {k : Nat} {p : Int × Int} (hp : (restOf ids ls)[k]? = some p) : (p.1 = 2 ∧ (p.2 = 1 ∨ p.2 = 3)) ∨ (p.2 = 2 ∧ (p.1 = 1 ∨ p.1 = 3)) := by
  unfold restOf at hp
  rw [List.getElem?_map] at hp
  obtain ⟨l, hl, rfl⟩ := Option.map_eq_some_iff.1 hp
  exact one_of hm hid (List.mem_of_getElem? hl)
set_option maxHeartbeats 8000000 in
set_option maxRecDepth 100000 in
theorem one_law (A1 : Option Addr) (n c1 : Nat) (ids : List Int) (A2 : Option Addr) (m c2 : Nat) (ls : List Lk) (w : World) (h1 : Reads w w.heap.size 1 A1 n (ids.map (Value.int .u64))) (h2 : Reads w w.heap.size 5 A2 m (ls.flatMap cellsL)) (hwf : ∀ x ∈ ids, (Lit.int .u64 x).wf = true) :
    Calls Try.prog 7 #[.slice A1 n c1, .slice A2 m c2] w fun e w' => e = .returned (.bool true) ∧ Below w.heap.size w w' := by
  have hl1 := len_ids h1
  have hl2 := len_of h2
  have HI0 := Lib.hid (In.start h1 h2)
  have HWF := Lib.hid hwf
  have HL1 := Lib.hid hl1
  have HL2 := Lib.hid hl2
  clear h1 h2 hwf hl1 hl2
  cases hf : fewB n m with
  | false =>
    go_enter Try.func7, Try.ntmps7
    go_wp2_with fail
    refine (few_ _ A1 A2 n c1 m c2).mono ?_
    rw [hf]
    rintro e w1 ⟨rfl, rfl⟩
    go_wp2_with fail
    refine (live_ _).mono ?_
    rintro e w1 ⟨rfl, b1⟩
    go_wp2
    go_ret
    exact ⟨rfl, b1⟩
  | true =>
    have hm : m ≤ 30 := by
      have h := hf
      unfold fewB at h
      rw [Bool.and_eq_true] at h
      exact of_decide_eq_true h.2
    by_cases hmay : May ids ls
    · have HM := Lib.hid hmay
      have HK := Lib.hid (chk_yes hmay)
      have HF := Lib.hid hf
      have HID : Hid (∀ x ∈ ids, 0 ≤ x) := Lib.hid (fun x hx => pos_wf (HWF.out x hx))
      clear hmay hf
      go_enter Try.func7, Try.ntmps7
      go_wp2_with fail
      refine (few_ _ A1 A2 n c1 m c2).mono ?_
      rw [HF.out]
      rintro e w0 ⟨rfl, rfl⟩
      go_wp2_with fail
      refine (rcheck_ A1 n c1 ids A2 m c2 ls _ HI0.out.ids HI0.out.ls (by omega)).mono ?_
      rintro e w1 ⟨rfl, b1⟩
      have HI1 := Lib.hid (HI0.out.to b1)
      rw [HK.out]
      clear b1
      go_wp2
      go_loopw [5] (fun i wr => ∃ k : Nat, k ≤ m ∧ i = .int .i64 k ∧ wr = w1) (fun i _ => m - (intOf i).toNat)
      case atStart => exact ⟨0, Nat.zero_le _, rfl, rfl⟩
      case round =>
        obtain ⟨k, hk, rfl, rfl⟩ := hrel
        by_cases hlt : k < m
        · have hlt' : (k : Int) < (m : Int) := by omega
          obtain ⟨b, o, l, rfl, hb, hx, _, _, _, _, d4⟩ := read5 HI1.out.ls hlt
          clear hx
          by_cases hbig : 1000000 < l.cost
          · go_wp2_with fail
            refine (live_ _).mono ?_
            rintro e w2 ⟨rfl, b2⟩
            go_wp2
            go_ret
            exact ⟨rfl, HI1.out.bel.trans (b2.mono HI1.out.bel.size)⟩
          · go_wp2
            exact ⟨⟨k + 1, by omega, by go_num, by first | rfl | trivial⟩, by simp [intOf]; omega⟩
        · have e : k = m := by omega
          subst e
          go_wp2_with fail
          refine (told_ A2 k c2 ls _ (by omega) HI1.out.ls).mono ?_
          rintro e w2 ⟨⟨A3, c3, rfl, r3⟩, b2⟩
          have HI2 := Lib.hid (HI1.out.to b2)
          have HR3 := Lib.hid r3
          clear b2 r3
          go_wp2_with fail
          refine (rest_ok A1 n c1 ids A3 k c3 ls _ HI2.out.ids HR3.out HWF.out HM.out).mono ?_
          rintro e w3 ⟨⟨A4, c4, rfl, r4⟩, b3⟩
          have HI3 := Lib.hid (HI2.out.to b3)
          clear b3
          go_wp2
          go_loopw [8] (fun i wr => ∃ j : Nat, j ≤ k ∧ i = .int .i64 j ∧ wr = w3) (fun i _ => k - (intOf i).toNat)
          case atStart => exact ⟨0, Nat.zero_le _, rfl, rfl⟩
          case round =>
            obtain ⟨j, hj, rfl, rfl⟩ := hrel
            by_cases hjl : j < k
            · have hjl' : (j : Int) < (k : Int) := by omega
              obtain ⟨b, o, p, rfl, hb, hp, d0, d1⟩ := read2 r4 hjl
              have hone := one_at HM.out HID.out hp
              obtain ⟨p1, p2⟩ := p
              simp only at d0 d1 hone
              clear hp r4
              rcases hone with ⟨rfl, rfl | rfl⟩ | ⟨rfl, rfl | rfl⟩
              all_goals
                go_wp2
                exact ⟨⟨j + 1, by omega, by go_num, by first | rfl | trivial⟩, by simp [intOf]; omega⟩
            · clear r4
              have e : j = k := by omega
              subst e
              go_wp2_with fail
              refine (live_ _).mono ?_
              rintro e w4 ⟨rfl, b4⟩
              go_wp2
              go_ret
              exact ⟨rfl, HI3.out.bel.trans (b4.mono HI3.out.bel.size)⟩
    · have HM := Lib.hid hmay
      have HK := Lib.hid (chk_no hmay)
      have HF := Lib.hid hf
      clear hmay hf
      go_enter Try.func7, Try.ntmps7
      go_wp2_with fail
      refine (few_ _ A1 A2 n c1 m c2).mono ?_
      rw [HF.out]
      rintro e w0 ⟨rfl, rfl⟩
      go_wp2_with fail
      refine (rcheck_ A1 n c1 ids A2 m c2 ls _ HI0.out.ids HI0.out.ls (by omega)).mono ?_
      rintro e w1 ⟨rfl, b1⟩
      have HI1 := Lib.hid (HI0.out.to b1)
      rw [HK.out]
      clear b1
      go_wp2_with fail
      refine (live_ _).mono ?_
      rintro e w2 ⟨rfl, b2⟩
      go_wp2
      go_ret
      exact ⟨rfl, HI1.out.bel.trans (b2.mono HI1.out.bel.size)⟩
end Tree
end Go.Proofs.Ytdgbemafhhhceaa
