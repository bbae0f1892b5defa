/-
  The walk of the querier's live: some answers that the document gives.
-/
import Derived.Test.YtdpppljobikjhaaDoorQuerier
import Derived.Deep.RegionHeld3
namespace Go.Proofs.YtdpppljobikjhaaDoor
set_option linter.unusedVariables false
set_option linter.unusedSimpArgs false
open Go.RowKit
namespace Q
def S0 : ByteArray := ⟨#[10, 0, 0, 2]⟩
def S1 : ByteArray := ⟨#[10, 0, 0, 1]⟩
theorem isB_of (q : Qr) (now : Int) (h : 0 < q.self.size) : isB q now = decide (q.till ≤ now) := by
  rw [isB, (ne_spell h).2]
  rfl
theorem mayQ_lo {n every robust now : Int} (h : mayQ n every robust now = true) : (n = 0 ∨ n = 4 ∨ n = 16) ∧ 4 ≤ every ∧ every ≤ 100000 ∧ 1 ≤ robust ∧ robust ≤ 7 := by
  simp only [mayQ, Bool.and_eq_true, inB_iff] at h
  obtain ⟨h1, ⟨h2, h3⟩, ⟨h4, h5⟩, _⟩ := h
  refine ⟨?_, h2, h3, h4, h5⟩
  simp [has3] at h1
  omega
theorem less0 : Op.bytesLess S1.toList S0.toList = true := by
  rw [ByteArray.toList_eq, ByteArray.toList_eq]
  decide
theorem keep_below {g : Nat} {w0 w w' : World} (h : Below w0.heap.size w0 w) (k : Keep [g] w w') (hg : w0.heap.size ≤ g) : Below w0.heap.size w0 w' :=
  h.trans (k.below h.size (by simpa using hg))
set_option maxRecDepth 100000 in
set_option maxHeartbeats 4000000 in
theorem live_ (w : World) : Calls Tryd.prog 8 #[] w fun e w' => e = .returned (.bool true) ∧ Below w.heap.size w w' := by
  go_enter Tryd.func8, Tryd.ntmps8
  go_wp2_with fail
  refine (new_ S0 100 2 0 _ (by decide)).mono ?_
  rintro e w1 ⟨g, hg, rfl, hq, hb1⟩
  go_wp2_with fail
  refine (new_no ⟨#[97, 98, 99]⟩ 100 2 0 _ (by decide)).mono ?_
  rintro e w2 ⟨rfl, hb2⟩
  have hw2 : Below w.heap.size w w2 := hb1.trans (hb2.mono hb1.size)
  replace hq : At w2 g ⟨S0, 100, 2, 0, 0, 0⟩ := Blk.below hq hb2 hq.lt
  clear hb1 hb2
  go_wp2_with fail
  refine (tick_yes g _ 0 _ hq (by decide) (by rw [isB_of _ _ (by decide)]; decide) (by decide) (by decide) (by decide) (by decide) (by decide)).mono ?_
  rintro e w3 ⟨rfl, hq3, hk3⟩
  replace hq3 : At w3 g ⟨S0, 100, 2, 0, 25, 1⟩ := hq3
  replace hw2 := keep_below hw2 hk3 hg
  clear hk3 hq
  go_wp2_with fail
  refine (tick_early g _ 24 _ hq3 (by decide) (by rw [isB_of _ _ (by decide)]; decide) (by decide)).mono ?_
  rintro e w4 ⟨rfl, hq4, hk4⟩
  replace hw2 := keep_below hw2 hk4 hg
  clear hk4 hq3
  go_wp2_with fail
  refine (tick_yes g _ 25 _ hq4 (by decide) (by rw [isB_of _ _ (by decide)]; decide) (by decide) (by decide) (by decide) (by decide) (by decide)).mono ?_
  rintro e w5 ⟨rfl, hq5, hk5⟩
  replace hq5 : At w5 g ⟨S0, 100, 2, 0, 125, 2⟩ := hq5
  replace hw2 := keep_below hw2 hk5 hg
  clear hk5 hq4
  go_wp2_with fail
  refine (tick_early g _ 124 _ hq5 (by decide) (by rw [isB_of _ _ (by decide)]; decide) (by decide)).mono ?_
  rintro e w6 ⟨rfl, hq6, hk6⟩
  replace hw2 := keep_below hw2 hk6 hg
  clear hk6 hq5
  go_wp2_with fail
  refine (tick_yes g _ 125 _ hq6 (by decide) (by rw [isB_of _ _ (by decide)]; decide) (by decide) (by decide) (by decide) (by decide) (by decide)).mono ?_
  rintro e w7 ⟨rfl, hq7, hk7⟩
  replace hq7 : At w7 g ⟨S0, 100, 2, 0, 225, 3⟩ := hq7
  replace hw2 := keep_below hw2 hk7 hg
  clear hk7 hq6
  go_wp2_with fail
  refine (hear_yes g _ S1 130 _ hq7 (by decide) (by decide) (by decide) (by decide) (by decide) less0 (by decide) (by decide) (by decide) (by decide)).mono ?_
  rintro e w8 ⟨rfl, hq8, hk8⟩
  replace hq8 : At w8 g ⟨S0, 100, 2, 335, 225, 3⟩ := hq8
  replace hw2 := keep_below hw2 hk8 hg
  clear hk8 hq7
  go_wp2_with fail
  refine (is_ g _ 334 _ hq8).mono ?_
  rw [show isB ⟨S0, 100, 2, 335, 225, 3⟩ 334 = false by rw [isB_of _ _ (by decide)]; decide]
  rintro e w9 ⟨rfl, rfl⟩
  go_wp2_with fail
  refine (is_ g _ 335 _ hq8).mono ?_
  rw [show isB ⟨S0, 100, 2, 335, 225, 3⟩ 335 = true by rw [isB_of _ _ (by decide)]; decide]
  rintro e w9 ⟨rfl, rfl⟩
  go_wp2
  go_ret
  exact ⟨rfl, hw2⟩
end Q
end Go.Proofs.YtdpppljobikjhaaDoor
