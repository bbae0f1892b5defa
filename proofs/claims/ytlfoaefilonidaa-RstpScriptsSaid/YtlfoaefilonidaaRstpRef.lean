/-
  The document's part in memory (siphonref15), over the same plain model; its small functions.
-/
import Derived.Test.YtlfoaefilonidaaRstpAny
import Derived.Test.YtlfoaefilonidaaRstpOpen
import Derived.Test.YtlfoaefilonidaaPrioRef
import Derived.Test.YtlfoaefilonidaaPrioRoles
import Derived.Deep.DeepCutAuto
import Derived.Deep.CutBlock
namespace Go.Proofs.Ytlfoaefilonidaa
set_option linter.unusedVariables false
set_option linter.unusedSimpArgs false
open Go.RowKit
namespace Rstp
open Go.Proofs.Ytlfoaefilonidaa.Prio
def cellsQ (p : Pt) : List Value := [.int .i64 p.cost, .bool p.up, .bool p.keeps, .int .u64 p.v.root, .int .i64 p.v.cost, .int .u64 p.v.bridge, .int .i64 p.v.port, .int .i64 p.age, .int .i64 p.at_, .int .i64 p.role, .int .i64 p.since, .bool p.fwd]
theorem lenQ (p : Pt) : (cellsQ p).length = 12 := rfl
def cellsU (t : Tr) (gp cap : Nat) : Array Value := #[.int .u64 t.bridge, .slice (some ⟨gp, 0, none⟩) t.ps.length cap, .int .i64 t.now, .int .i64 t.root, .int .u64 t.best.root, .int .i64 t.best.cost, .int .u64 t.best.bridge, .int .i64 t.best.port, .int .i64 t.change]
structure RAt (w : World) (g gp cap : Nat) (t : Tr) : Prop where
  blk : Blk w g 68 (cellsU t gp cap)
  row : Row w gp 70 (t.ps.flatMap cellsQ)
  ne : g ≠ gp
section
variable {w w' : World} {g gp cap : Nat} {t : Tr}
theorem RAt.keep (h : RAt w g gp cap t) {ys : List Nat} (hk : Keep ys w w') (h1 : g ∉ ys) (h2 : gp ∉ ys) : RAt w' g gp cap t := ⟨hk.blk h.blk h1, h.row.keep hk h2, h.ne⟩
theorem RAt.below (h : RAt w g gp cap t) (hb : Below w.heap.size w w') : RAt w' g gp cap t := ⟨h.blk.below hb h.blk.lt, h.row.below hb h.row.lt, h.ne⟩
theorem RAt.drew (h : RAt w g gp cap t) : RAt w.drew g gp cap t := ⟨h.blk, h.row, h.ne⟩
theorem RAt.drewN (h : RAt w g gp cap t) (n : Nat) : RAt (w.drewN n) g gp cap t := ⟨h.blk.drewN n, h.row.drewN n, h.ne⟩
theorem RAt.alloc (h : RAt w g gp cap t) (o : Obj) : RAt (w.alloc o) g gp cap t := ⟨h.blk.alloc o, h.row.alloc o, h.ne⟩
theorem RAt.lt (h : RAt w g gp cap t) : g < w.heap.size ∧ gp < w.heap.size := ⟨h.blk.lt, h.row.lt⟩
/-- the cells of the part itself -/
theorem RAt.tree (h : RAt w g gp cap t) : w.cell? ⟨g, 0, none⟩ = some (.int .u64 t.bridge) ∧ w.cell? ⟨g, 1, none⟩ = some (.slice (some ⟨gp, 0, none⟩) t.ps.length cap) ∧ w.cell? ⟨g, 2, none⟩ = some (.int .i64 t.now) ∧ w.cell? ⟨g, 3, none⟩ = some (.int .i64 t.root) ∧ w.cell? ⟨g, 8, none⟩ = some (.int .i64 t.change) :=
  ⟨h.blk.cell 0, h.blk.cell 1, h.blk.cell 2, h.blk.cell 3, h.blk.cell 8⟩
theorem RAt.treeF (h : RAt w g gp cap t) (i : Nat) : w.frozen? ⟨g, i, none⟩ = false := h.blk.frozen i
theorem RAt.portF (h : RAt w g gp cap t) (i : Nat) : w.frozen? ⟨gp, i, none⟩ = false := h.row.frozen i
/-- a cell of a port -/
theorem RAt.port (h : RAt w g gp cap t) {k : Nat} {p : Pt} (hp : t.ps[k]? = some p) {j : Nat} {u : Value} (hu : (cellsQ p)[j]? = some u) : w.cell? ⟨gp, k * 12 + j, none⟩ = some u :=
  h.row.at_ lenQ hp (by have := (List.getElem?_eq_some_iff.1 hu).1; rw [lenQ] at this; exact this) hu
/-- a store into a port -/
theorem RAt.put (h : RAt w g gp cap t) {k : Nat} {p : Pt} (hp : t.ps[k]? = some p) (p' : Pt) (j : Nat) (u : Value) (hj : j < 12) (hu : cellsQ p' = (cellsQ p).set j u) : RAt (w.setCell ⟨gp, k * 12 + j, none⟩ u) g gp cap { t with ps := t.ps.set k p' } :=
  ⟨by
    have := h.blk.far (p := ⟨gp, k * 12 + j, none⟩) h.ne u
    simpa [cellsU] using this, h.row.put lenQ hp p' j u hj hu, h.ne⟩
theorem RAt.again (h : RAt w g gp cap t) {ys : List Pt} {k : Nat} {p q : Pt} (hx : t.ps = ys.set k p) (hq : ys[k]? = some q) (p' : Pt) (j : Nat) (u : Value) (hj : j < 12) (hu : cellsQ p' = (cellsQ p).set j u) : RAt (w.setCell ⟨gp, k * 12 + j, none⟩ u) g gp cap { t with ps := ys.set k p' } := by
  have := h.put (k := k) (p := p) (by rw [hx]; exact set_at p hq) p' j u hj hu
  rw [hx, set_set] at this
  exact this
theorem RAt.port_set (h : RAt w g gp cap t) {ys : List Pt} {k : Nat} {p q : Pt} (hx : t.ps = ys.set k p) (hq : ys[k]? = some q) {j : Nat} {u : Value} (hu : (cellsQ p)[j]? = some u) : w.cell? ⟨gp, k * 12 + j, none⟩ = some u :=
  h.port (k := k) (p := p) (by rw [hx]; exact set_at p hq) hu
/-- a store into the part itself -/
theorem RAt.put_now (h : RAt w g gp cap t) (n : Int) : RAt (w.setCell ⟨g, 2, none⟩ (.int .i64 n)) g gp cap { t with now := n } := ⟨h.blk.set_ 2 _, h.row.far (Ne.symm h.ne) _, h.ne⟩
theorem RAt.put_change (h : RAt w g gp cap t) (n : Int) : RAt (w.setCell ⟨g, 8, none⟩ (.int .i64 n)) g gp cap { t with change := n } := ⟨h.blk.set_ 8 _, h.row.far (Ne.symm h.ne) _, h.ne⟩
theorem RAt.put_root (h : RAt w g gp cap t) (n : Int) : RAt (w.setCell ⟨g, 3, none⟩ (.int .i64 n)) g gp cap { t with root := n } := ⟨h.blk.set_ 3 _, h.row.far (Ne.symm h.ne) _, h.ne⟩
theorem RAt.put_best (h : RAt w g gp cap t) (v : Vec) : RAt ((((w.setCell ⟨g, 4, none⟩ (.int .u64 v.root)).setCell ⟨g, 4 + 1, none⟩ (.int .i64 v.cost)).setCell ⟨g, 4 + 2, none⟩ (.int .u64 v.bridge)).setCell ⟨g, 4 + 3, none⟩ (.int .i64 v.port)) g gp cap { t with best := v } :=
  ⟨(((h.blk.set_ 4 _).set_ 5 _).set_ 6 _).set_ 7 _, (((h.row.far (Ne.symm h.ne) _).far (Ne.symm h.ne) _).far (Ne.symm h.ne) _).far (Ne.symm h.ne) _, h.ne⟩
end

theorem RAt.best {w : World} {g gp cap : Nat} {t : Tr} (h : RAt w g gp cap t) : w.cell? ⟨g, 4, none⟩ = some (.int .u64 t.best.root) ∧ w.cell? ⟨g, 5, none⟩ = some (.int .i64 t.best.cost) ∧ w.cell? ⟨g, 6, none⟩ = some (.int .u64 t.best.bridge) ∧ w.cell? ⟨g, 7, none⟩ = some (.int .i64 t.best.port) :=
  ⟨h.blk.cell 4, h.blk.cell 5, h.blk.cell 6, h.blk.cell 7⟩
theorem mapTo_same {α : Type} {f : Nat → α → α} {xs : List α} {k : Nat} {a : α} (h : xs[k]? = some a) (hf : f k a = a) : mapTo f xs (k + 1) = mapTo f xs k := by
  rw [← mapTo_step h, hf]
  have := mapTo_get (f := f) h
  obtain ⟨hl, e⟩ := List.getElem?_eq_some_iff.1 this
  conv => lhs; rw [← e]
  exact List.set_getElem_self hl
theorem rtime_yes (w : World) (now : Int) (h0 : 0 ≤ now) (h1 : now ≤ 1099511627776) :
    Calls Try.prog 41 #[.int .i64 now] w fun e w' => e = .returned (.bool true) ∧ w = w' := by
  go_enter Try.func41, Try.ntmps41
  go_wp2
  go_ret
  exact ⟨rfl, rfl⟩
theorem rtime_no (w : World) (now : Int) (h : now < 0 ∨ (0 ≤ now ∧ 1099511627776 < now)) :
    Calls Try.prog 41 #[.int .i64 now] w fun e w' => e = .returned (.bool false) ∧ w = w' := by
  rcases h with h | ⟨h, h1⟩
  · go_enter Try.func41, Try.ntmps41
    go_wp2
    go_ret
    exact ⟨rfl, rfl⟩
  · have h2 : decide (now ≤ 1099511627776) = false := decide_eq_false (by omega)
    clear h1
    go_enter Try.func41, Try.ntmps41
    go_wp2
    go_ret
    exact ⟨rfl, rfl⟩
theorem ok_no {t : Tr} {i now : Int} (hok : okT t i now = false) : now < 0 ∨ (0 ≤ now ∧ 1099511627776 < now) ∨ (0 ≤ now ∧ now ≤ 1099511627776 ∧ i < 0) ∨ (0 ≤ now ∧ now ≤ 1099511627776 ∧ 0 ≤ i ∧ (t.ps.length : Int) ≤ i) := by
  have : ¬ (0 ≤ now ∧ now ≤ 1099511627776 ∧ 0 ≤ i ∧ i < t.ps.length) := fun hh => by rw [okT_iff.2 hh] at hok; cases hok
  omega
def Gone (v : Value) (g gp cap : Nat) (t : Tr) (w : World) (e : Ending) (w' : World) : Prop := e = .returned v ∧ RAt w' g gp cap t ∧ Keep [g, gp] w w'
theorem rgoes_no (w : World) (g gp cap : Nat) (t : Tr) (i now : Int) (h : RAt w g gp cap t) (hl : t.ps.length ≤ 16) (hok : okT t i now = false) :
    Calls Try.prog 39 #[.pointer (some ⟨g, 0, none⟩), .int .i64 i, .int .i64 now] w fun e w' => e = .returned (.bool false) ∧ w = w' := by
  obtain ⟨c0, c1, c2, c3, c4⟩ := h.tree
  rcases ok_no hok with h1 | ⟨h1, h2⟩ | ⟨h1, h2, h3⟩ | ⟨h1, h2, h3, h4⟩
  case inl =>
    clear hok
    go_enter Try.func39, Try.ntmps39
    go_wp2_with (go_at_call 41; refine (rtime_no _ now (.inl h1)).mono ?_; rintro e w' ⟨rfl, rfl⟩)
    go_ret
    exact ⟨rfl, rfl⟩
  case inr.inl =>
    clear hok
    go_enter Try.func39, Try.ntmps39
    go_wp2_with (go_at_call 41; refine (rtime_no _ now (.inr ⟨h1, h2⟩)).mono ?_; rintro e w' ⟨rfl, rfl⟩)
    go_ret
    exact ⟨rfl, rfl⟩
  all_goals
    clear hok
    go_enter Try.func39, Try.ntmps39
    go_wp2_with (go_at_call 41; refine (rtime_yes _ now h1 h2).mono ?_; rintro e w' ⟨rfl, rfl⟩)
    go_ret
    exact ⟨rfl, rfl⟩
theorem rgoes_yes (w : World) (g gp cap : Nat) (t : Tr) (k : Nat) (now : Int) (h : RAt w g gp cap t) (hl : t.ps.length ≤ 16) (hok : okT t k now = true) :
    Calls Try.prog 39 #[.pointer (some ⟨g, 0, none⟩), .int .i64 k, .int .i64 now] w (Gone (.bool true) g gp cap (nowT t now) w) := by
  obtain ⟨c0, c1, c2, c3, c4⟩ := h.tree
  obtain ⟨h1, h2, h3, h4⟩ := okT_iff.1 hok
  have f2 := h.treeF 2
  have hput : ∀ v : Int, v = max t.now now → RAt (w.setCell ⟨g, 2, none⟩ (.int .i64 v)) g gp cap (nowT t now) := fun v hv => by
    subst hv
    exact h.put_now (max t.now now)
  have HPUT := Lib.hid hput
  clear hput hok
  rcases max_cases' t.now now with ⟨hm, em⟩ | ⟨hm, em⟩
  all_goals
    have EM := Lib.hid em
    clear em
    go_enter Try.func39, Try.ntmps39
    go_wp2_with (go_at_call 41; refine (rtime_yes _ now h1 h2).mono ?_; rintro e w' ⟨rfl, rfl⟩)
    go_ret
    exact ⟨rfl, HPUT.out _ EM.out.symm, (Keep.refl _ _).set_ (.inl (by simp)) _⟩
set_option maxHeartbeats 1000000 in
theorem rdrop_ (w : World) (g gp cap : Nat) (t : Tr) (h : RAt w g gp cap t) (hw : Wf t) :
    Calls Try.prog 42 #[.pointer (some ⟨g, 0, none⟩)] w (Gone (.tuple #[]) g gp cap (dropT t) w) := by
  obtain ⟨c0, c1, c2, c3, c4⟩ := h.tree
  have hl := hw.l1
  go_enter Try.func42, Try.ntmps42
  go_wp2
  go_loopw [2] (fun v wr => ∃ k : Nat, k ≤ t.ps.length ∧ v = .int .i64 k ∧ RAt wr g gp cap { t with ps := mapTo (fun _ p => dropP t.now p) t.ps k } ∧ Keep [g, gp] w wr) (fun v _ => t.ps.length - (intOf v).toNat)
  case atStart => exact ⟨0, Nat.zero_le _, rfl, by rw [mapTo_zero]; exact h, Keep.refl _ _⟩
  case round =>
    obtain ⟨k, hk, rfl, hat, hkeep⟩ := hrel
    obtain ⟨d0, d1, d2, d3, d4⟩ := hat.tree
    simp only [mapTo_length] at d1
    by_cases hlt : k < t.ps.length
    · have hlt' : (k : Int) < (t.ps.length : Int) := by omega
      obtain ⟨p, hp⟩ : ∃ p, t.ps[k]? = some p := ⟨_, List.getElem?_eq_getElem hlt⟩
      have hq := mapTo_get (f := fun _ p => dropP t.now p) hp
      have e4 : wr.cell? ⟨gp, k * 12 + 2, none⟩ = some (.bool p.keeps) := hat.port hq rfl
      have e14 : wr.cell? ⟨gp, k * 12 + 8, none⟩ = some (.int .i64 p.at_) := hat.port hq rfl
      have e10 : wr.cell? ⟨gp, k * 12 + 7, none⟩ = some (.int .i64 p.age) := hat.port hq rfl
      have f4 := hat.portF (k * 12 + 2)
      obtain ⟨_, _, a0, a1, _, _⟩ := hw.at_ hp
      obtain ⟨n0, n1, _, _, _, _, _⟩ := hw
      have x1 : IntKind.i64.wrap (p.at_ + 6) = p.at_ + 6 := IntWalk.i64_in _ (by omega)
      have hput := hat.put hq (dropP t.now p) 2 (.bool (dropP t.now p).keeps) (by omega) rfl
      simp only [mapTo_step hp] at hput
      have hsame : dropP t.now p = p → RAt wr g gp cap { t with ps := mapTo (fun _ p => dropP t.now p) t.ps (k + 1) } := fun e => by rw [mapTo_same hp e]; exact hat
      have HP := Lib.hid hput
      have HS := Lib.hid hsame
      have HK := Lib.hid hkeep
      clear hput hp hq hat hkeep hsame
      have hcase : p.keeps = false ∨ (p.keeps = true ∧ p.at_ + 6 ≤ t.now) ∨ (p.keeps = true ∧ ¬ p.at_ + 6 ≤ t.now ∧ 20 ≤ p.age) ∨ (p.keeps = true ∧ ¬ p.at_ + 6 ≤ t.now ∧ ¬ 20 ≤ p.age) := by
        cases p.keeps <;> simp <;> omega
      rcases hcase with k0 | ⟨k0, k1⟩ | ⟨k0, k1, k2⟩ | ⟨k0, k1, k2⟩
      · have E := Lib.hid (show dropP t.now p = p by cases p; simp_all [dropP])
        go_wp2
        go_quiet (fail)
        go_wp2
        go_roundw
        case rel => exact ⟨k + 1, by omega, by go_num, (HS.out E.out).drewN _, HK.out.drewN _⟩
        case measure => simp [intOf]; omega
      · have E := Lib.hid (show (dropP t.now p).keeps = false by simp [dropP, k0]; omega)
        have k1' : decide (p.at_ + 6 ≤ t.now) = true := decide_eq_true k1
        go_wp2
        go_quiet (fail)
        go_wp2
        go_roundw
        case rel =>
          have hh := HP.out
          rw [E.out] at hh
          exact ⟨k + 1, by omega, by go_num, hh.drewN _, (HK.out.set_ (.inl (by simp)) _).drewN _⟩
        case measure => simp [intOf]; omega
      · have E := Lib.hid (show (dropP t.now p).keeps = false by simp [dropP, k0]; omega)
        have k1' : decide (p.at_ + 6 ≤ t.now) = false := decide_eq_false k1
        have k2' : decide (20 ≤ p.age) = true := decide_eq_true k2
        go_wp2
        go_quiet (fail)
        go_wp2
        go_roundw
        case rel =>
          have hh := HP.out
          rw [E.out] at hh
          exact ⟨k + 1, by omega, by go_num, hh.drewN _, (HK.out.set_ (.inl (by simp)) _).drewN _⟩
        case measure => simp [intOf]; omega
      · have E := Lib.hid (show dropP t.now p = p by
          have h1 : decide (t.now < p.at_ + 6) = true := decide_eq_true (by omega)
          have h2 : decide (p.age < 20) = true := decide_eq_true (by omega)
          cases p; simp_all [dropP])
        have k1' : decide (p.at_ + 6 ≤ t.now) = false := decide_eq_false k1
        have k2' : decide (20 ≤ p.age) = false := decide_eq_false k2
        go_wp2
        go_quiet (fail)
        go_wp2
        go_roundw
        case rel => exact ⟨k + 1, by omega, by go_num, (HS.out E.out).drewN _, HK.out.drewN _⟩
        case measure => simp [intOf]; omega
    · have hke : k = t.ps.length := by omega
      have e : mapTo (fun _ p => dropP t.now p) t.ps k = dropped t := mapTo_const _ _ _ hke.symm
      have hge : ¬ (k : Int) < (t.ps.length : Int) := by omega
      rw [e] at hat
      have HA := Lib.hid hat
      clear hat e hke
      go_wp2
      go_end0
      exact ⟨rfl, HA.out, hkeep⟩
theorem learnsP_is {now : Int} {p : Pt} (h : -1 ≤ p.since) : learnsP now p = (decide (0 ≤ p.since) && decide (p.since + 15 ≤ now)) := by
  by_cases h1 : p.since = -1
  · simp [learnsP, h1]
  · have e1 : (p.since != -1) = true := by simp [h1]
    have e2 : decide (0 ≤ p.since) = true := decide_eq_true (by omega)
    rw [learnsP, e1, e2]
    have : (15 ≤ now - p.since) ↔ (p.since + 15 ≤ now) := by omega
    simp [this]
set_option maxHeartbeats 1000000 in
theorem rlearns_ (w : World) (g gp cap : Nat) (t : Tr) (i : Int) (h : RAt w g gp cap t) (hw : Wf t) :
    Calls Try.prog 29 #[.pointer (some ⟨g, 0, none⟩), .int .i64 i] w fun e w' => e = .returned (.bool (learnsA t i)) ∧ ∃ n, w' = w.drewN n := by
  obtain ⟨c0, c1, c2, c3, c4⟩ := h.tree
  have hl := hw.l1
  cases hok : okT t i 0
  · have E := Lib.hid (roleA_no hok).2.2
    rcases ok_no hok with h1 | ⟨h1, h2⟩ | ⟨h1, h2, h3⟩ | ⟨h1, h2, h3, h4⟩
    · omega
    · omega
    · have h3' : decide (0 ≤ i) = false := decide_eq_false (by omega)
      clear hok
      go_enter Try.func29, Try.ntmps29
      go_wp2
      go_quiet (fail)
      go_wp2
      go_ret
      exact ⟨retb E.out.symm, ⟨_, rfl⟩⟩
    · have h3' : decide (0 ≤ i) = true := decide_eq_true h3
      have h4' : decide (i < (t.ps.length : Int)) = false := decide_eq_false (by omega)
      clear hok
      go_enter Try.func29, Try.ntmps29
      go_wp2
      go_quiet (fail)
      go_wp2
      go_ret
      exact ⟨retb E.out.symm, ⟨_, rfl⟩⟩
  · obtain ⟨k, p, rfl, _, hp⟩ := ok_at hok
    have hkl := (List.getElem?_eq_some_iff.1 hp).1
    have hkl' : (k : Int) < (t.ps.length : Int) := by omega
    have hk0 : (0 : Int) ≤ (k : Int) := by omega
    have h4' : decide ((k : Int) < (t.ps.length : Int)) = true := decide_eq_true hkl'
    have h5' : decide (k < t.ps.length) = true := decide_eq_true hkl
    have h6' : decide ((0 : Int) ≤ (k : Int)) = true := decide_eq_true hk0
    have e1 : w.cell? ⟨gp, k * 12 + 10, none⟩ = some (.int .i64 p.since) := h.port hp rfl
    obtain ⟨s0, s1, _, _, _, _⟩ := hw.at_ hp
    have n0 := hw.n0
    have n1 := hw.n1
    have hx : IntKind.i64.wrap (p.since + 15) = p.since + 15 := IntWalk.i64_in _ (by omega)
    have hE : learnsA t k = (decide (0 ≤ p.since) && decide (p.since + 15 ≤ t.now)) := (roleA_yes hp).2.2.trans (learnsP_is s0)
    by_cases hs : 0 ≤ p.since
    · have hs' : decide (0 ≤ p.since) = true := decide_eq_true hs
      have E := Lib.hid (show learnsA t k = decide (p.since + 15 ≤ t.now) by rw [hE, hs']; rfl)
      clear hok hE hp
      go_enter Try.func29, Try.ntmps29
      go_wp2
      go_quiet (fail)
      go_wp2
      go_ret
      exact ⟨retb E.out.symm, ⟨_, rfl⟩⟩
    · have hs' : decide (0 ≤ p.since) = false := decide_eq_false hs
      have E := Lib.hid (show learnsA t k = false by rw [hE, hs']; rfl)
      clear hok hE hp
      go_enter Try.func29, Try.ntmps29
      go_wp2
      go_quiet (fail)
      go_wp2
      go_ret
      exact ⟨retb E.out.symm, ⟨_, rfl⟩⟩
theorem rmay_ (A : Option Addr) (n c : Nat) (cs : List Int) (w : World) (hr : Reads w w.heap.size 1 A n (cs.map (Value.int .i64))) :
    Calls Try.prog 19 #[.slice A n c] w fun e w' => e = .returned (.bool (mayT cs)) ∧ w = w' := by
  have hlen : cs.length = n := by have := hr.1; simpa using this
  by_cases h1 : n < 1
  · have E := Lib.hid (mayT_len (cs := cs) (by omega))
    have h1' : (n : Int) < 1 := by omega
    clear hlen
    go_enter Try.func19, Try.ntmps19
    go_wp2
    go_ret
    exact ⟨retb E.out.symm, rfl⟩
  · by_cases h2 : 16 < n
    · have E := Lib.hid (mayT_len (cs := cs) (by omega))
      have h1' : ¬ (n : Int) < 1 := by omega
      have h2' : 16 < (n : Int) := by omega
      clear hlen
      go_enter Try.func19, Try.ntmps19
      go_wp2
      go_ret
      exact ⟨retb E.out.symm, rfl⟩
    · have h1' : ¬ (n : Int) < 1 := by omega
      have h2' : ¬ 16 < (n : Int) := by omega
      have HL := Lib.hid hlen
      have HR := Lib.hid hr
      clear hlen hr
      go_enter Try.func19, Try.ntmps19
      go_wp2
      go_loop [3] (fun i => ∃ k : Nat, k ≤ n ∧ i = .int .i64 k ∧ (∀ x ∈ cs.take k, costOk x = true)) (fun i => n - (intOf i).toNat)
      case atStart => exact ⟨0, Nat.zero_le _, rfl, by simp⟩
      case round =>
        obtain ⟨k, hk, rfl, hgood⟩ := hrel
        by_cases hlt : k < n
        · have hlt' : (k : Int) < (n : Int) := by omega
          obtain ⟨bb, off, rfl, hbb, hcc⟩ := HR.out.flat (by omega) (by have := HR.out.1; omega)
          obtain ⟨x, hx⟩ : ∃ x, cs[k]? = some x := ⟨_, List.getElem?_eq_getElem (by have := HL.out; omega)⟩
          have hxc : w.cell? ⟨bb, off + k, none⟩ = some (.int .i64 x) := hcc k _ (by rw [List.getElem?_map, hx]; rfl)
          have HX := Lib.hid hx
          clear hcc hx
          cases hc : costOk x
          · have E := Lib.hid (mayT_bad HX.out hc)
            have hbad : x < 1 ∨ (¬ x < 1 ∧ 200000000 < x) := by
              have : ¬ (1 ≤ x ∧ x ≤ 200000000) := fun hh => by rw [costOk_iff.2 hh] at hc; cases hc
              omega
            clear hc hgood
            rcases hbad with hb | ⟨hb, hb'⟩
            all_goals
              go_wp2
              go_ret
              exact ⟨retb E.out.symm, rfl⟩
          · have HG := Lib.hid (good_snoc HX.out hc hgood)
            obtain ⟨hx1, hx2⟩ := costOk_iff.1 hc
            clear hc hgood
            go_wp2
            go_round
            case rel => exact ⟨k + 1, by omega, by go_num, HG.out⟩
            case measure => simp [intOf]; omega
        · have hge : ¬ (k : Int) < (n : Int) := by omega
          have htk : cs.take k = cs := List.take_of_length_le (by have := HL.out; omega)
          rw [htk] at hgood
          have E := Lib.hid (mayT_good (cs := cs) (by have := HL.out; omega) (by have := HL.out; omega) hgood)
          clear htk hgood
          go_wp2
          go_ret
          exact ⟨retb E.out.symm, rfl⟩
end Rstp
end Go.Proofs.Ytlfoaefilonidaa
