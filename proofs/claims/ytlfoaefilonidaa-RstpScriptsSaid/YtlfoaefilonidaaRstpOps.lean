/-
  The walks of rstp's calls: Link, Role, Learns, Forwards, Root, Changed.
-/
import Derived.Test.YtlfoaefilonidaaRstpSettle
namespace Go.Proofs.Ytlfoaefilonidaa
set_option linter.unusedVariables false
set_option linter.unusedSimpArgs false
open Go.RowKit
namespace Rstp
open Go.Proofs.Ytlfoaefilonidaa.Prio
theorem at_in {t : Tr} {k : Nat} {p : Pt} (hp : t.ps[k]? = some p) : okT t k 0 = true := okT_iff.2 ⟨by omega, by omega, by omega, by have := (List.getElem?_eq_some_iff.1 hp).1; omega⟩
theorem role_in (w : World) (g gp cap : Nat) (t : Tr) (k : Nat) (p : Pt) (h : At w g gp cap t) (hl : t.ps.length ≤ 16) (hp : t.ps[k]? = some p) :
    Calls Try.prog 18 #[.pointer (some ⟨g, 0, none⟩), .int .i64 k] w fun e w' => e = .returned (.int .i64 p.role) ∧ w = w' := by
  have e1 : w.cell? ⟨gp, k * 15 + 1, none⟩ = some (.int .i64 p.role) := h.port hp rfl
  have hok := at_in hp
  go_enter Try.func18, Try.ntmps18
  go_wp2_with (go_at_call 25; refine (at_yes _ g gp cap t k 0 h hl hok).mono ?_; rintro e w' ⟨rfl, rfl⟩)
  go_ret
  exact ⟨rfl, rfl⟩
theorem role_out (w : World) (g gp cap : Nat) (t : Tr) (i : Int) (h : At w g gp cap t) (hl : t.ps.length ≤ 16) (hp : okT t i 0 = false) :
    Calls Try.prog 18 #[.pointer (some ⟨g, 0, none⟩), .int .i64 i] w fun e w' => e = .returned (.int .i64 0) ∧ w = w' := by
  go_enter Try.func18, Try.ntmps18
  go_wp2_with (go_at_call 25; refine (at_no _ g gp cap t i 0 h hl hp).mono ?_; rintro e w' ⟨rfl, rfl⟩)
  go_ret
  exact ⟨rfl, rfl⟩
theorem fwd_in (w : World) (g gp cap : Nat) (t : Tr) (k : Nat) (p : Pt) (h : At w g gp cap t) (hl : t.ps.length ≤ 16) (hp : t.ps[k]? = some p) :
    Calls Try.prog 15 #[.pointer (some ⟨g, 0, none⟩), .int .i64 k] w fun e w' => e = .returned (.bool p.fwd) ∧ w = w' := by
  have e1 : w.cell? ⟨gp, k * 15 + 5, none⟩ = some (.bool p.fwd) := h.port hp rfl
  have hok := at_in hp
  go_enter Try.func15, Try.ntmps15
  go_wp2_with (go_at_call 25; refine (at_yes _ g gp cap t k 0 h hl hok).mono ?_; rintro e w' ⟨rfl, rfl⟩)
  go_ret
  exact ⟨rfl, rfl⟩
theorem fwd_out (w : World) (g gp cap : Nat) (t : Tr) (i : Int) (h : At w g gp cap t) (hl : t.ps.length ≤ 16) (hp : okT t i 0 = false) :
    Calls Try.prog 15 #[.pointer (some ⟨g, 0, none⟩), .int .i64 i] w fun e w' => e = .returned (.bool false) ∧ w = w' := by
  go_enter Try.func15, Try.ntmps15
  go_wp2_with (go_at_call 25; refine (at_no _ g gp cap t i 0 h hl hp).mono ?_; rintro e w' ⟨rfl, rfl⟩)
  go_ret
  exact ⟨rfl, rfl⟩
theorem learns_in (w : World) (g gp cap : Nat) (t : Tr) (k : Nat) (p : Pt) (h : At w g gp cap t) (hw : Wf t) (hp : t.ps[k]? = some p) :
    Calls Try.prog 16 #[.pointer (some ⟨g, 0, none⟩), .int .i64 k] w fun e w' => e = .returned (.bool (learnsP t.now p)) ∧ ∃ n, w' = w.drewN n := by
  have e1 : w.cell? ⟨gp, k * 15 + 2, none⟩ = some (.int .i64 p.since) := h.port hp rfl
  obtain ⟨c0, c1, c2, c3, c4⟩ := h.tree
  have hok := at_in hp
  obtain ⟨s0, s1, _, _, _, _⟩ := hw.at_ hp
  have hl := hw.l1
  have n0 := hw.n0
  have n1 := hw.n1
  have hx : IntKind.i64.wrap (t.now - p.since) = t.now - p.since := IntWalk.i64_in _ (by omega)
  by_cases hs : p.since = -1
  · have E := Lib.hid (show learnsP t.now p = false by simp [learnsP, hs])
    have hs' : (p.since != -1) = false := by simp [hs]
    clear hs
    go_enter Try.func16, Try.ntmps16
    go_wp2_with (go_at_call 25; refine (at_yes _ g gp cap t k 0 h hl hok).mono ?_; rintro e w' ⟨rfl, rfl⟩)
    go_quiet (fail)
    go_wp2
    go_ret
    exact ⟨retb E.out.symm, ⟨_, rfl⟩⟩
  · have hs' : (p.since != -1) = true := by simp [hs]
    have E := Lib.hid (show learnsP t.now p = decide (15 ≤ t.now - p.since) by simp [learnsP, hs'])
    clear hs
    go_enter Try.func16, Try.ntmps16
    go_wp2_with (go_at_call 25; refine (at_yes _ g gp cap t k 0 h hl hok).mono ?_; rintro e w' ⟨rfl, rfl⟩)
    go_quiet (fail)
    go_wp2
    go_ret
    exact ⟨retb E.out.symm, ⟨_, rfl⟩⟩
theorem learns_out (w : World) (g gp cap : Nat) (t : Tr) (i : Int) (h : At w g gp cap t) (hl : t.ps.length ≤ 16) (hp : okT t i 0 = false) :
    Calls Try.prog 16 #[.pointer (some ⟨g, 0, none⟩), .int .i64 i] w fun e w' => e = .returned (.bool false) ∧ ∃ n, w' = w.drewN n := by
  go_enter Try.func16, Try.ntmps16
  go_wp2_with (go_at_call 25; refine (at_no _ g gp cap t i 0 h hl hp).mono ?_; rintro e w' ⟨rfl, rfl⟩)
  go_quiet (fail)
  go_wp2
  go_ret
  exact ⟨rfl, ⟨_, rfl⟩⟩
theorem changed_ (w : World) (g gp cap : Nat) (t : Tr) (h : At w g gp cap t) :
    Calls Try.prog 23 #[.pointer (some ⟨g, 0, none⟩)] w fun e w' => e = .returned (.int .i64 t.change) ∧ w = w' := by
  obtain ⟨c0, c1, c2, c3, c4⟩ := h.tree
  go_enter Try.func23, Try.ntmps23
  go_wp2
  go_ret
  exact ⟨rfl, rfl⟩
theorem At.best {w : World} {g gp cap : Nat} {t : Tr} (h : At w g gp cap t) : w.cell? ⟨g, 5, none⟩ = some (.int .u64 t.best.root) ∧ w.cell? ⟨g, 6, none⟩ = some (.int .i64 t.best.cost) ∧ w.cell? ⟨g, 7, none⟩ = some (.int .u64 t.best.bridge) ∧ w.cell? ⟨g, 8, none⟩ = some (.int .i64 t.best.port) :=
  ⟨h.blk.cell 5, h.blk.cell 6, h.blk.cell 7, h.blk.cell 8⟩
theorem root_ (w : World) (g gp cap : Nat) (t : Tr) (h : At w g gp cap t) :
    Calls Try.prog 12 #[.pointer (some ⟨g, 0, none⟩)] w fun e w' => e = .returned (.agg #[.int .u64 t.best.root, .int .i64 t.best.cost, .int .u64 t.best.bridge, .int .i64 t.best.port]) ∧ Below w.heap.size w w' := by
  obtain ⟨b0, b1, b2, b3⟩ := h.best
  have hlt := h.lt.1
  go_enter Try.func12, Try.ntmps12
  go_wp2
  refine bodyPost_ret (v := .agg #[.int .u64 t.best.root, .int .i64 t.best.cost, .int .u64 t.best.bridge, .int .i64 t.best.port]) (by simp [results, Try.results12, go_sem]) rfl ⟨rfl, ?_⟩
  repeat (first | exact Below.refl _ _ | apply Below.drew | (refine Below.alloc ?_ (by simp <;> omega) _) | (refine Below.setCell ?_ (by simp <;> omega) _))
/-- what a call made of the part -/
def Did (g gp cap : Nat) (t : Tr) (w : World) (e : Ending) (w' : World) : Prop := e = .returned (.tuple #[]) ∧ At w' g gp cap t ∧ Keep [g, gp] w w'
theorem link_no (w : World) (g gp cap : Nat) (t : Tr) (i : Int) (up : Bool) (now : Int) (h : At w g gp cap t) (hl : t.ps.length ≤ 16) (hp : okT t i now = false) :
    Calls Try.prog 10 #[.pointer (some ⟨g, 0, none⟩), .int .i64 i, .bool up, .int .i64 now] w (Did g gp cap t w) := by
  go_enter Try.func10, Try.ntmps10
  go_wp2_with (go_at_call 25; refine (at_no _ g gp cap t i now h hl hp).mono ?_; rintro e w' ⟨rfl, rfl⟩)
  go_end0
  exact ⟨rfl, h, Keep.refl _ _⟩
theorem link_ (w : World) (g gp cap : Nat) (t : Tr) (k : Nat) (p : Pt) (up : Bool) (now : Int) (h : At w g gp cap t) (hw : Wf t) (hok : okT t k now = true) (hp : t.ps[k]? = some p) :
    Calls Try.prog 10 #[.pointer (some ⟨g, 0, none⟩), .int .i64 k, .bool up, .int .i64 now] w (Did g gp cap (linkT t k p up now) w) := by
  have e3 : w.cell? ⟨gp, k * 15 + 3, none⟩ = some (.bool p.up) := h.port hp rfl
  have e4 : w.cell? ⟨gp, k * 15 + 4, none⟩ = some (.bool p.keeps) := h.port hp rfl
  have f3 := h.portF (k * 15 + 3)
  have f4 := h.portF (k * 15 + 4)
  have c2 := h.tree.2.2.1
  have f2 := h.treeF 2
  have hne := h.ne
  have hl := hw.l1
  obtain ⟨h1, h2, _, _⟩ := okT_iff.1 hok
  have hw1 : Wf { nowT t now with ps := t.ps.set k (linkP up p) } := (hw.now h2).set_ k (((hw.at_ hp).mono (show t.now ≤ max t.now now by omega)).link up) (hw.now h2).c0 (hw.now h2).c1
  have hst : ∀ w', At w' g gp cap { nowT t now with ps := t.ps.set k (linkP up p) } → Keep [g, gp] w w' → Calls Try.prog 26 #[.pointer (some ⟨g, 0, none⟩)] w' (Did g gp cap (linkT t k p up now) w) := fun w' ha hk => (settle_ w' g gp cap _ ha hw1).mono fun _ _ ⟨e1, e2, e3⟩ => ⟨e1, e2, hk.trans e3⟩
  have HST := Lib.hid hst
  clear hst
  have hput : ∀ v : Int, v = max t.now now → ∀ b : Bool, b = (p.keeps && up) → At (((w.setCell ⟨g, 2, none⟩ (.int .i64 v)).setCell ⟨gp, k * 15 + 3, none⟩ (.bool up)).setCell ⟨gp, k * 15 + 4, none⟩ (.bool b)) g gp cap { nowT t now with ps := t.ps.set k (linkP up p) } := fun v hv b hb => by
    subst hv hb
    have q1 := (h.put_now (max t.now now)).put hp { p with up := up } 3 (.bool up) (by omega) rfl
    exact q1.again rfl hp (linkP up p) 4 (.bool (p.keeps && up)) (by omega) rfl
  have HPUT := Lib.hid hput
  clear hput
  cases hk : p.keeps
  all_goals
    rw [hk] at e4
    rcases max_cases' t.now now with ⟨hm, em⟩ | ⟨hm, em⟩
    all_goals
      have EM := Lib.hid em
      have HK := Lib.hid hk
      clear em
      go_enter Try.func10, Try.ntmps10
      go_wp2_with (first
        | (go_at_call 25; refine (at_yes _ g gp cap t k now h hl hok).mono ?_; rintro e w' ⟨rfl, rfl⟩)
        | (go_at_call 26; refine (HST.out _ (HPUT.out _ EM.out.symm _ (by rw [HK.out]; first | rfl | simp)) ((((Keep.refl _ _).set_ (.inl (by simp)) _).set_ (.inl (by simp)) _).set_ (.inl (by simp)) _)).mono ?_; rintro e w' ⟨rfl, hat, hkp⟩))
      go_end0
      exact ⟨rfl, hat, hkp⟩
end Rstp
end Go.Proofs.Ytlfoaefilonidaa
