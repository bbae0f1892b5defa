/-
  The walk of siphonlaw15.live: some answers that the document gives.
-/
import Derived.Test.YtlfoaefilonidaaRstpNew
import Derived.Test.YtlfoaefilonidaaRstpTick
namespace Go.Proofs.Ytlfoaefilonidaa
set_option linter.unusedVariables false
set_option linter.unusedSimpArgs false
open Go.RowKit
namespace Rstp
open Go.Proofs.Ytlfoaefilonidaa.Prio
def V7 : Vec := ⟨7, 0, 7, 0⟩
def Z0 : Vec := ⟨0, 0, 0, 0⟩
def L1 : Tr := ⟨7, [⟨10, 2, 0, true, false, false, Z0, 0, false, false, false, 0⟩], 0, -1, -1, V7⟩
def L2 : Tr := ⟨7, [⟨10, 2, 0, true, false, false, Z0, 0, false, false, false, 0⟩], 29, -1, -1, V7⟩
def L3 : Tr := ⟨7, [⟨10, 2, 0, true, false, true, Z0, 0, false, false, false, 0⟩], 30, -1, 30, V7⟩
theorem l1 : linkT (newT 7 [10]) 0 (newP 10) true 0 = L1 := by kernel_rfl
theorem l2 : tickT L1 0 = L1 := by kernel_rfl
theorem l3 : tickT L1 29 = L2 := by kernel_rfl
theorem l4 : tickT L2 30 = L3 := by kernel_rfl
theorem o1 : outsT L1 0 = [⟨0, ⟨V7, 0, false, false, false⟩⟩] := by kernel_rfl
theorem m10 : mayT [10] = true := by kernel_rfl
theorem wf1 : Wf L1 := l1 ▸ (Wf.new 7 m10).link (i := 0) (p := newP 10) rfl true (by omega)
theorem wf2 : Wf L2 := l3 ▸ wf1.tick (by omega)
theorem wf3 : Wf L3 := l4 ▸ wf2.tick (by omega)
theorem keep2_below {g gp : Nat} {w0 w w' : World} (h : Below w0.heap.size w0 w) (k : Keep [g, gp] w w') (hg : w0.heap.size ≤ g) (hp : w0.heap.size ≤ gp) : Below w0.heap.size w0 w' :=
  h.trans (k.below h.size (by simp; exact ⟨hg, hp⟩))
set_option maxRecDepth 100000 in
set_option maxHeartbeats 4000000 in
theorem live_ (w : World) : Calls Try.prog 9 #[] w fun e w' => e = .returned (.bool true) ∧ Below w.heap.size w w' := by
  go_enter Try.func9, Try.ntmps9
  go_wp2_with fail
  refine (new_yes 7 _ 1 1 [10] _ (reads_new w [.int .i64 10] _) m10).mono ?_
  rintro e w1 ⟨g, gp, cap, rfl, hat, hg, hgp, hb1⟩
  have hb1' := ((Below.refl w.heap.size w).alloc (Nat.le_refl _) _).trans (hb1.mono (by simp))
  have hg' : w.heap.size < g := by simp at hg; omega
  have hgp' : w.heap.size < gp := by simp at hgp; omega
  have HAT := Lib.hid hat
  have HB := Lib.hid hb1'
  clear hat hg hgp hb1 hb1'
  go_wp2_with fail
  refine (new_no 7 _ 0 0 [] _ Reads.none_ (by kernel_rfl)).mono ?_
  rintro e w2 ⟨rfl, hb2⟩
  have hat := HAT.out.below hb2
  have hb := HB.out.trans (hb2.mono HB.out.size)
  clear HAT HB hb2
  go_wp2_with fail
  refine (link_ _ g gp cap (newT 7 [10]) 0 (newP 10) true 0 hat (Wf.new 7 m10) (by kernel_rfl) rfl).mono ?_
  rintro e w3 ⟨rfl, hat3, hk3⟩
  rw [l1] at hat3
  replace hb := keep2_below hb hk3 (by omega) (by omega)
  clear hk3 hat
  go_wp2_with fail
  refine (tick_ _ g gp cap L1 0 hat3 wf1 (by kernel_rfl)).mono ?_
  rw [l2, o1]
  rintro e w4 ⟨A, c, rfl, hr, hfr, hat4, hk4⟩
  replace hb := keep2_below hb hk4 (by omega) (by omega)
  have hlt3 := hat3.lt
  obtain ⟨gl, off, rfl, hgl, hcl⟩ := hr.flat (by decide) (by decide)
  have hfl : w3.heap.size ≤ gl := hfr _ rfl
  clear hk4 hat3 hfr hr
  have hr0 : w4.cell? ⟨gl, off + 1, none⟩ = some (.int .u64 7) := hcl 1 (.int .u64 7) rfl
  have hr1 : w4.cell? ⟨gl, off + 1 + 1, none⟩ = some (.int .i64 0) := hcl 2 (.int .i64 0) rfl
  have hr2 : w4.cell? ⟨gl, off + 1 + 2, none⟩ = some (.int .u64 7) := hcl 3 (.int .u64 7) rfl
  have hr3 : w4.cell? ⟨gl, off + 1 + 3, none⟩ = some (.int .i64 0) := hcl 4 (.int .i64 0) rfl
  have hout : ∀ w5 : World, Keep [g, gp] w4 w5 → ∀ o, w5.cell? ⟨gl, o, none⟩ = w4.cell? ⟨gl, o, none⟩ := fun _ hk o => hk.cells gl o hgl (by simp; omega)
  have HOUT := Lib.hid hout
  clear hcl hout
  have HR := Lib.hid (And.intro hr0 (And.intro hr1 (And.intro hr2 hr3)))
  clear hr0 hr1 hr2 hr3
  go_wp2_with fail
  refine (tick_ _ g gp cap L1 29 hat4 wf1 (by kernel_rfl)).mono ?_
  rw [l3]
  rintro e w5 ⟨A5, c5, rfl, _, _, hat5, hk5⟩
  replace hb := keep2_below hb hk5 (by omega) (by omega)
  have HK5 := Lib.hid hk5
  clear hat4 hk5
  go_wp2_with fail
  refine (fwd_in _ g gp cap L2 0 _ hat5 wf2.l1 rfl).mono ?_
  rintro e w6 ⟨rfl, rfl⟩
  go_wp2_with fail
  refine (tick_ _ g gp cap L2 30 hat5 wf2 (by kernel_rfl)).mono ?_
  rw [l4]
  rintro e w6 ⟨A6, c6, rfl, _, _, hat6, hk6⟩
  replace hb := keep2_below hb hk6 (by omega) (by omega)
  have HK6 := Lib.hid hk6
  clear hat5 hk6
  have e0 := (HOUT.out _ (HK5.out.trans HK6.out) _).trans HR.out.1
  have e1 := (HOUT.out _ (HK5.out.trans HK6.out) _).trans HR.out.2.1
  have e2 := (HOUT.out _ (HK5.out.trans HK6.out) _).trans HR.out.2.2.1
  have e3 := (HOUT.out _ (HK5.out.trans HK6.out) _).trans HR.out.2.2.2
  have HB := Lib.hid hb
  clear hb
  go_wp2_with fail
  refine (fwd_in _ g gp cap L3 0 _ hat6 wf3.l1 rfl).mono ?_
  rintro e w7 ⟨rfl, rfl⟩
  go_wp2_with fail
  refine (learns_in _ g gp cap L3 0 _ hat6 wf3 rfl).mono ?_
  rintro e w7 ⟨rfl, n7, rfl⟩
  go_wp2_with fail
  refine (role_in _ g gp cap L3 0 _ (hat6.drewN n7) wf3.l1 rfl).mono ?_
  rintro e w7 ⟨rfl, rfl⟩
  go_wp2_with fail
  refine (changed_ _ g gp cap L3 (hat6.drewN n7)).mono ?_
  rintro e w7 ⟨rfl, rfl⟩
  go_wp2_with fail
  go_ret
  exact ⟨rfl, below_drewN HB.out _⟩
end Rstp
end Go.Proofs.Ytlfoaefilonidaa
