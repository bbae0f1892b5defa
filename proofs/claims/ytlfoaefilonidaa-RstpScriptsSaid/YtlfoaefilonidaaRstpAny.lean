/-
  The calls of a part at any port and time.
-/
import Derived.Test.YtlfoaefilonidaaRstpAnyMath
import Derived.Test.YtlfoaefilonidaaRstpNil
namespace Go.Proofs.Ytlfoaefilonidaa
set_option linter.unusedVariables false
set_option linter.unusedSimpArgs false
open Go.RowKit
namespace Rstp
open Go.Proofs.Ytlfoaefilonidaa.Prio
theorem link_any (w : World) (g gp cap : Nat) (t : Tr) (i : Int) (up : Bool) (now : Int) (h : At w g gp cap t) (hw : Wf t) :
    Calls Try.prog 10 #[.pointer (some ⟨g, 0, none⟩), .int .i64 i, .bool up, .int .i64 now] w (Did g gp cap (opLink t i up now) w) := by
  cases hok : okT t i now
  · rw [opLink_no hok]
    exact link_no w g gp cap t i up now h hw.l1 hok
  · obtain ⟨k, p, rfl, _, hp⟩ := ok_at hok
    rw [opLink_yes hok hp]
    exact link_ w g gp cap t k p up now h hw hok hp
theorem hear_any (w : World) (g gp cap : Nat) (t : Tr) (i : Int) (b : Bp) (now : Int) (h : At w g gp cap t) (hw : Wf t) (hb : -9223372036854775808 ≤ b.age ∧ b.age ≤ 9223372036854775807) :
    Calls Try.prog 17 #[.pointer (some ⟨g, 0, none⟩), .int .i64 i, .agg #[.int .u64 b.v.root, .int .i64 b.v.cost, .int .u64 b.v.bridge, .int .i64 b.v.port, .int .i64 b.age, .bool b.chg, .bool b.lrn, .bool b.kf], .int .i64 now] w (Did g gp cap (opHear t i b now) w) := by
  cases hok : okT t i now
  · rw [opHear_no hok]
    exact hear_no w g gp cap t i b now h hw.l1 hok
  · obtain ⟨k, p, rfl, _, hp⟩ := ok_at hok
    cases hu : p.up
    · rw [opHear_down hok hp hu]
      exact hear_down w g gp cap t k p b now h hw.l1 hok hp hu
    · rw [opHear_yes hok hp hu]
      exact hear_ w g gp cap t k p b now h hw hok hp hu hb
theorem tick_any (w : World) (g gp cap : Nat) (t : Tr) (now : Int) (h : At w g gp cap t) (hw : Wf t) :
    Calls Try.prog 11 #[.pointer (some ⟨g, 0, none⟩), .int .i64 now] w (Told g gp cap (opTick t now) (tells t now) w) := by
  cases hok : okT t 0 now
  · rw [(opTick_no hok).1, (opTick_no hok).2]
    refine (tick_no w g gp cap t now h hw.l1 hok).mono ?_
    rintro e w' ⟨rfl, rfl⟩
    exact ⟨none, 0, rfl, Reads.none_, fun _ h => (by cases h), h, Keep.refl _ _⟩
  · rw [(opTick_yes hok).1, (opTick_yes hok).2]
    exact tick_ w g gp cap t now h hw hok
theorem role_any (w : World) (g gp cap : Nat) (t : Tr) (i : Int) (h : At w g gp cap t) (hw : Wf t) :
    Calls Try.prog 18 #[.pointer (some ⟨g, 0, none⟩), .int .i64 i] w fun e w' => e = .returned (.int .i64 (roleA t i)) ∧ w = w' := by
  cases hok : okT t i 0
  · rw [(roleA_no hok).1]
    exact role_out w g gp cap t i h hw.l1 hok
  · obtain ⟨k, p, rfl, _, hp⟩ := ok_at hok
    rw [(roleA_yes hp).1]
    exact role_in w g gp cap t k p h hw.l1 hp
theorem fwd_any (w : World) (g gp cap : Nat) (t : Tr) (i : Int) (h : At w g gp cap t) (hw : Wf t) :
    Calls Try.prog 15 #[.pointer (some ⟨g, 0, none⟩), .int .i64 i] w fun e w' => e = .returned (.bool (fwdA t i)) ∧ w = w' := by
  cases hok : okT t i 0
  · rw [(roleA_no hok).2.1]
    exact fwd_out w g gp cap t i h hw.l1 hok
  · obtain ⟨k, p, rfl, _, hp⟩ := ok_at hok
    rw [(roleA_yes hp).2.1]
    exact fwd_in w g gp cap t k p h hw.l1 hp
theorem learns_any (w : World) (g gp cap : Nat) (t : Tr) (i : Int) (h : At w g gp cap t) (hw : Wf t) :
    Calls Try.prog 16 #[.pointer (some ⟨g, 0, none⟩), .int .i64 i] w fun e w' => e = .returned (.bool (learnsA t i)) ∧ ∃ n, w' = w.drewN n := by
  cases hok : okT t i 0
  · rw [(roleA_no hok).2.2]
    exact learns_out w g gp cap t i h hw.l1 hok
  · obtain ⟨k, p, rfl, _, hp⟩ := ok_at hok
    rw [(roleA_yes hp).2.2]
    exact learns_in w g gp cap t k p h hw hp
end Rstp
end Go.Proofs.Ytlfoaefilonidaa
