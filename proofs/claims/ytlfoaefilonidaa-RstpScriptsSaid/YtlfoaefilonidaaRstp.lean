/-
  The walks of package rstp: at, active, drop.
-/
import Derived.Test.YtlfoaefilonidaaPrioRoles
import Derived.Test.YtlfoaefilonidaaRstpMath
import Derived.Test.YtlfoaefilonidaaRow
import Derived.Deep.DeepCutAuto
namespace Go.Proofs.Ytlfoaefilonidaa
set_option linter.unusedVariables false
set_option linter.unusedSimpArgs false
open Go.RowKit
namespace Rstp
open Go.Proofs.Ytlfoaefilonidaa.Prio
def cellsP (p : Pt) : List Value := [.int .i64 p.cost, .int .i64 p.role, .int .i64 p.since, .bool p.up, .bool p.keeps, .bool p.fwd, .int .u64 p.v.root, .int .i64 p.v.cost, .int .u64 p.v.bridge, .int .i64 p.v.port, .int .i64 p.age, .bool p.chg, .bool p.lrn, .bool p.kf, .int .i64 p.at_]
theorem lenP (p : Pt) : (cellsP p).length = 15 := rfl
def cellsT (t : Tr) (gp cap : Nat) : Array Value := #[.int .u64 t.bridge, .slice (some ⟨gp, 0, none⟩) t.ps.length cap, .int .i64 t.now, .int .i64 t.root, .int .i64 t.change, .int .u64 t.best.root, .int .i64 t.best.cost, .int .u64 t.best.bridge, .int .i64 t.best.port]
structure At (w : World) (g gp cap : Nat) (t : Tr) : Prop where
  blk : Blk w g 60 (cellsT t gp cap)
  row : Row w gp 62 (t.ps.flatMap cellsP)
  ne : g ≠ gp
section
variable {w w' : World} {g gp cap : Nat} {t : Tr}
theorem At.keep (h : At w g gp cap t) {ys : List Nat} (hk : Keep ys w w') (h1 : g ∉ ys) (h2 : gp ∉ ys) : At w' g gp cap t := ⟨hk.blk h.blk h1, h.row.keep hk h2, h.ne⟩
theorem At.below (h : At w g gp cap t) (hb : Below w.heap.size w w') : At w' g gp cap t := ⟨h.blk.below hb h.blk.lt, h.row.below hb h.row.lt, h.ne⟩
theorem At.drew (h : At w g gp cap t) : At w.drew g gp cap t := ⟨h.blk, h.row, h.ne⟩
theorem At.drewN (h : At w g gp cap t) (n : Nat) : At (w.drewN n) g gp cap t := ⟨h.blk.drewN n, h.row.drewN n, h.ne⟩
theorem At.alloc (h : At w g gp cap t) (o : Obj) : At (w.alloc o) g gp cap t := ⟨h.blk.alloc o, h.row.alloc o, h.ne⟩
theorem At.lt (h : At w g gp cap t) : g < w.heap.size ∧ gp < w.heap.size := ⟨h.blk.lt, h.row.lt⟩
/-- the cells of the part itself -/
theorem At.tree (h : At w g gp cap t) : w.cell? ⟨g, 0, none⟩ = some (.int .u64 t.bridge) ∧ w.cell? ⟨g, 1, none⟩ = some (.slice (some ⟨gp, 0, none⟩) t.ps.length cap) ∧ w.cell? ⟨g, 2, none⟩ = some (.int .i64 t.now) ∧ w.cell? ⟨g, 3, none⟩ = some (.int .i64 t.root) ∧ w.cell? ⟨g, 4, none⟩ = some (.int .i64 t.change) :=
  ⟨h.blk.cell 0, h.blk.cell 1, h.blk.cell 2, h.blk.cell 3, h.blk.cell 4⟩
theorem At.treeF (h : At w g gp cap t) (i : Nat) : w.frozen? ⟨g, i, none⟩ = false := h.blk.frozen i
theorem At.portF (h : At w g gp cap t) (i : Nat) : w.frozen? ⟨gp, i, none⟩ = false := h.row.frozen i
/-- a cell of a port -/
theorem At.port (h : At w g gp cap t) {k : Nat} {p : Pt} (hp : t.ps[k]? = some p) {j : Nat} {u : Value} (hu : (cellsP p)[j]? = some u) : w.cell? ⟨gp, k * 15 + j, none⟩ = some u :=
  h.row.at_ lenP hp (by have := (List.getElem?_eq_some_iff.1 hu).1; rw [lenP] at this; exact this) hu
/-- a store into a port -/
theorem At.put (h : At w g gp cap t) {k : Nat} {p : Pt} (hp : t.ps[k]? = some p) (p' : Pt) (j : Nat) (u : Value) (hj : j < 15) (hu : cellsP p' = (cellsP p).set j u) : At (w.setCell ⟨gp, k * 15 + j, none⟩ u) g gp cap { t with ps := t.ps.set k p' } :=
  ⟨by
    have := h.blk.far (p := ⟨gp, k * 15 + j, none⟩) h.ne u
    simpa [cellsT] using this, h.row.put lenP hp p' j u hj hu, h.ne⟩
theorem At.again (h : At w g gp cap t) {ys : List Pt} {k : Nat} {p q : Pt} (hx : t.ps = ys.set k p) (hq : ys[k]? = some q) (p' : Pt) (j : Nat) (u : Value) (hj : j < 15) (hu : cellsP p' = (cellsP p).set j u) : At (w.setCell ⟨gp, k * 15 + j, none⟩ u) g gp cap { t with ps := ys.set k p' } := by
  have := h.put (k := k) (p := p) (by rw [hx]; exact set_at p hq) p' j u hj hu
  rw [hx, set_set] at this
  exact this
theorem At.port_set (h : At w g gp cap t) {ys : List Pt} {k : Nat} {p q : Pt} (hx : t.ps = ys.set k p) (hq : ys[k]? = some q) {j : Nat} {u : Value} (hu : (cellsP p)[j]? = some u) : w.cell? ⟨gp, k * 15 + j, none⟩ = some u :=
  h.port (k := k) (p := p) (by rw [hx]; exact set_at p hq) hu
/-- a store into the part itself -/
theorem At.put_now (h : At w g gp cap t) (n : Int) : At (w.setCell ⟨g, 2, none⟩ (.int .i64 n)) g gp cap { t with now := n } := ⟨h.blk.set_ 2 _, h.row.far (Ne.symm h.ne) _, h.ne⟩
theorem At.put_change (h : At w g gp cap t) (n : Int) : At (w.setCell ⟨g, 4, none⟩ (.int .i64 n)) g gp cap { t with change := n } := ⟨h.blk.set_ 4 _, h.row.far (Ne.symm h.ne) _, h.ne⟩
theorem At.put_root (h : At w g gp cap t) (n : Int) : At (w.setCell ⟨g, 3, none⟩ (.int .i64 n)) g gp cap { t with root := n } := ⟨h.blk.set_ 3 _, h.row.far (Ne.symm h.ne) _, h.ne⟩
theorem At.put_best (h : At w g gp cap t) (v : Vec) : At ((((w.setCell ⟨g, 5, none⟩ (.int .u64 v.root)).setCell ⟨g, 6, none⟩ (.int .i64 v.cost)).setCell ⟨g, 7, none⟩ (.int .u64 v.bridge)).setCell ⟨g, 8, none⟩ (.int .i64 v.port)) g gp cap { t with best := v } :=
  ⟨(((h.blk.set_ 5 _).set_ 6 _).set_ 7 _).set_ 8 _, (((h.row.far (Ne.symm h.ne) _).far (Ne.symm h.ne) _).far (Ne.symm h.ne) _).far (Ne.symm h.ne) _, h.ne⟩
end
theorem at_yes (w : World) (g gp cap : Nat) (t : Tr) (k : Nat) (now : Int) (h : At w g gp cap t) (hl : t.ps.length ≤ 16) (hok : okT t k now = true) :
    Calls Try.prog 25 #[.pointer (some ⟨g, 0, none⟩), .int .i64 k, .int .i64 now] w fun e w' => e = .returned (.pointer (some ⟨gp, k * 15, none⟩)) ∧ w = w' := by
  obtain ⟨c0, c1, c2, c3, c4⟩ := h.tree
  obtain ⟨h1, h2, h3, h4⟩ := okT_iff.1 hok
  clear hok
  go_enter Try.func25, Try.ntmps25
  go_wp2
  go_ret
  exact ⟨rfl, rfl⟩
theorem at_no (w : World) (g gp cap : Nat) (t : Tr) (i now : Int) (h : At w g gp cap t) (hl : t.ps.length ≤ 16) (hok : okT t i now = false) :
    Calls Try.prog 25 #[.pointer (some ⟨g, 0, none⟩), .int .i64 i, .int .i64 now] w fun e w' => e = .returned (.pointer none) ∧ w = w' := by
  obtain ⟨c0, c1, c2, c3, c4⟩ := h.tree
  have hc : now < 0 ∨ (0 ≤ now ∧ 1099511627776 < now) ∨ (0 ≤ now ∧ now ≤ 1099511627776 ∧ i < 0) ∨ (0 ≤ now ∧ now ≤ 1099511627776 ∧ 0 ≤ i ∧ (t.ps.length : Int) ≤ i) := by
    have : ¬ (0 ≤ now ∧ now ≤ 1099511627776 ∧ 0 ≤ i ∧ i < t.ps.length) := fun hh => by rw [okT_iff.2 hh] at hok; cases hok
    omega
  clear hok
  rcases hc with h1 | ⟨h1, h2⟩ | ⟨h1, h2, h3⟩ | ⟨h1, h2, h3, h4⟩
  all_goals
    go_enter Try.func25, Try.ntmps25
    go_wp2
    go_ret
    exact ⟨rfl, rfl⟩
theorem at_nil (w : World) (i now : Int) :
    Calls Try.prog 25 #[.pointer none, .int .i64 i, .int .i64 now] w fun e w' => e = .returned (.pointer none) ∧ w = w' := by
  go_enter Try.func25, Try.ntmps25
  go_wp2
  go_ret
  exact ⟨rfl, rfl⟩
theorem active_ (w : World) (a : Addr) (o : Nat) (gp : Nat) (r : Int) (h : w.cell? ⟨gp, o + 1, none⟩ = some (.int .i64 r)) :
    Calls Try.prog 35 #[.pointer (some ⟨gp, o, none⟩)] w fun e w' => e = .returned (.bool (activeR r)) ∧ w = w' := by
  by_cases h1 : r = 1
  · subst h1
    go_enter Try.func35, Try.ntmps35
    go_wp2
    go_ret
    exact ⟨rfl, rfl⟩
  · have h1' : (r == 1) = false := by simp [h1]
    have E := Lib.hid (show activeR r = (r == 2) by simp [activeR, h1'])
    clear h1
    go_enter Try.func35, Try.ntmps35
    go_wp2
    go_ret
    exact ⟨retb E.out.symm, rfl⟩
theorem active_b (w : World) (o : Nat) (gp : Nat) (r : Int) (b : Bool) (hb : activeR r = b) (h : w.cell? ⟨gp, o + 1, none⟩ = some (.int .i64 r)) :
    Calls Try.prog 35 #[.pointer (some ⟨gp, o, none⟩)] w fun e w' => e = .returned (.bool b) ∧ w = w' := hb ▸ active_ w ⟨gp, 0, none⟩ o gp r h
set_option maxHeartbeats 1000000 in
theorem drop_ (w : World) (g gp cap : Nat) (t : Tr) (h : At w g gp cap t) (hw : Wf t) :
    Calls Try.prog 27 #[.pointer (some ⟨g, 0, none⟩)] w fun e w' => e = .returned (.tuple #[]) ∧ At w' g gp cap (dropT t) ∧ Keep [gp] w w' := by
  obtain ⟨c0, c1, c2, c3, c4⟩ := h.tree
  have hl := hw.l1
  go_enter Try.func27, Try.ntmps27
  go_wp2
  go_loopw [9] (fun v wr => ∃ k : Nat, k ≤ t.ps.length ∧ v = .int .i64 k ∧ At wr g gp cap { t with ps := mapTo (fun _ p => dropP t.now p) t.ps k } ∧ Keep [gp] w wr) (fun v _ => t.ps.length - (intOf v).toNat)
  case atStart => exact ⟨0, Nat.zero_le _, rfl, by rw [mapTo_zero]; exact h, Keep.refl _ _⟩
  case round =>
    obtain ⟨k, hk, rfl, hat, hkeep⟩ := hrel
    by_cases hlt : k < t.ps.length
    · have hlt' : (k : Int) < (t.ps.length : Int) := by omega
      obtain ⟨p, hp⟩ : ∃ p, t.ps[k]? = some p := ⟨_, List.getElem?_eq_getElem hlt⟩
      have hq := mapTo_get (f := fun _ p => dropP t.now p) hp
      obtain ⟨d0, d1, d2, d3, d4⟩ := hat.tree
      simp only [mapTo_length] at d1
      have e4 : wr.cell? ⟨gp, k * 15 + 4, none⟩ = some (.bool p.keeps) := hat.port hq rfl
      have e14 : wr.cell? ⟨gp, k * 15 + 14, none⟩ = some (.int .i64 p.at_) := hat.port hq rfl
      have e10 : wr.cell? ⟨gp, k * 15 + 10, none⟩ = some (.int .i64 p.age) := hat.port hq rfl
      have f4 := hat.portF (k * 15 + 4)
      obtain ⟨_, _, a0, a1, _, _⟩ := hw.at_ hp
      obtain ⟨n0, n1, _, _, _, _, _⟩ := hw
      have x1 : IntKind.i64.wrap (p.at_ + 6) = p.at_ + 6 := IntWalk.i64_in _ (by omega)
      have hput := hat.put hq (dropP t.now p) 4 (.bool (dropP t.now p).keeps) (by omega) rfl
      simp only [mapTo_step hp] at hput
      have HP := Lib.hid hput
      have HK := Lib.hid hkeep
      clear hput hp hq
      have hcase : p.keeps = false ∨ (p.keeps = true ∧ ¬ t.now < p.at_ + 6) ∨ (p.keeps = true ∧ t.now < p.at_ + 6) := by
        cases p.keeps <;> simp <;> omega
      rcases hcase with k0 | ⟨k0, k1⟩ | ⟨k0, k1⟩
      · have E := Lib.hid (show (dropP t.now p).keeps = false by simp [dropP, k0])
        go_wp2
        go_region
        all_goals
          go_wp2
          go_roundw
          case rel =>
            have hh := HP.out
            rw [E.out] at hh
            exact ⟨k + 1, by omega, by go_num, hh.drew, (HK.out.set_ (.inl (by simp)) _).drew⟩
          case measure => simp [intOf]; omega
      · have E := Lib.hid (show (dropP t.now p).keeps = false by simp [dropP, k0]; omega)
        have k1' : decide (t.now < p.at_ + 6) = false := decide_eq_false k1
        go_wp2
        go_region
        all_goals
          go_wp2
          go_roundw
          case rel =>
            have hh := HP.out
            rw [E.out] at hh
            exact ⟨k + 1, by omega, by go_num, hh.drew, (HK.out.set_ (.inl (by simp)) _).drew⟩
          case measure => simp [intOf]; omega
      · have E := Lib.hid (show (dropP t.now p).keeps = decide (p.age < 20) by simp [dropP, k0, k1])
        have k1' : decide (t.now < p.at_ + 6) = true := decide_eq_true k1
        go_wp2
        go_region
        all_goals
          go_wp2
          go_roundw
          case rel =>
            have hh := HP.out
            rw [E.out] at hh
            exact ⟨k + 1, by omega, by go_num, hh.drew, (HK.out.set_ (.inl (by simp)) _).drew⟩
          case measure => simp [intOf]; omega
    · have hke : k = t.ps.length := by omega
      have e : mapTo (fun _ p => dropP t.now p) t.ps k = dropped t := mapTo_const _ _ _ hke.symm
      rw [e] at hat
      have HA := Lib.hid hat
      clear hat e
      go_wp2
      go_end0
      exact ⟨rfl, HA.out, hkeep⟩
end Rstp
end Go.Proofs.Ytlfoaefilonidaa
