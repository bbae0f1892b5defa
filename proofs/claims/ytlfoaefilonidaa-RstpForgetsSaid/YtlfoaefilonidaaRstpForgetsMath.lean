/-
  A message that was heard once, and how it is forgotten: the plain model.
-/
import Derived.Test.YtlfoaefilonidaaRstpAnyMath
namespace Go.Proofs.Ytlfoaefilonidaa.Rstp
set_option linter.unusedVariables false
set_option linter.unusedSimpArgs false
open Go.Proofs.Ytlfoaefilonidaa.Prio
/-- what the law asks of its input -/
structure May9 (b : Int) (v : Vec) (c : Int) : Prop where
  r : v.root < b
  br : v.bridge ≠ b
  c0 : 0 ≤ v.cost
  c1 : v.cost ≤ 1000000
  k0 : 1 ≤ c
  k1 : c ≤ 1000000
def thr (v : Vec) (c : Int) : Vec := ⟨v.root, v.cost + c, v.bridge, v.port⟩
/-- the part from the message on, at a time -/
def F9 (b : Int) (v : Vec) (c now : Int) : Tr := ⟨b, [⟨c, 1, 10, true, true, false, v, 0, false, false, false, 10⟩], now, 0, -1, thr v c⟩
/-- and when it has forgotten -/
def G9 (b : Int) (v : Vec) (c : Int) : Tr := ⟨b, [⟨c, 2, 10, true, false, false, v, 0, false, false, false, 10⟩], 16, -1, -1, own b⟩
def H9 (b c : Int) : Tr := ⟨b, [⟨c, 2, 10, true, false, false, ⟨0, 0, 0, 0⟩, 0, false, false, false, 0⟩], 10, -1, -1, own b⟩
section
variable {b c : Int} {v : Vec}
theorem tv9 (h : May9 b v c) : tv v c = thr v c ∧ te v c = 0 := by
  have := thr_yes v c h.k0 (by have := h.k1; omega) h.c0 (by have := h.c1; omega)
  refine ⟨this.1.trans ?_, this.2⟩
  rcases costTo_cases v.cost c with ⟨_, e⟩ | ⟨h1, _⟩
  · rw [e]; rfl
  · exact absurd h1 (by have := h.c1; have := h.k1; omega)
theorem best9 (h : May9 b v c) : bestOf b [⟨true, v, c⟩] = (0, thr v c) := by
  have hb : better b (own b) ⟨true, v, c⟩ = true := by
    rw [better_iff]
    refine ⟨rfl, h.br, (tv9 h).2, ?_⟩
    show cmpV (tv v c) (own b) < 0
    rw [(tv9 h).1, cmpV_lt_iff]
    exact .inl h.r
  show bestTo b [⟨true, v, c⟩] (0 + 1) = _
  rw [bestTo_yes (h := ⟨true, v, c⟩) (k := 0) rfl hb]
  show ((0 : Int), tv v c) = _
  rw [(tv9 h).1]
theorem roles9 (h : May9 b v c) : rolesOf b [⟨true, v, c⟩] = [1] := by
  have e := rolesOf_at (b := b) (l := [⟨true, v, c⟩]) (j := 0) (h := ⟨true, v, c⟩) rfl
  rw [best9 h] at e
  have hl : (rolesOf b [⟨true, v, c⟩]).length = 1 := by rw [rolesOf, rolesTo_length _ _ _ _ (Nat.le_refl _)]; rfl
  match hx : rolesOf b [⟨true, v, c⟩], hl with
  | [x], _ =>
    rw [hx] at e
    have : x = 1 := by simpa [roleAt] using e
    rw [this]
theorem bestN (b : Int) (v : Vec) (c : Int) : bestOf b [⟨false, v, c⟩] = (-1, own b) := by
  have hb : better b (own b) ⟨false, v, c⟩ = false := rfl
  show bestTo b [⟨false, v, c⟩] (0 + 1) = _
  rw [bestTo_no (h := ⟨false, v, c⟩) (k := 0) rfl hb]
  rfl
theorem rolesN (b : Int) (v : Vec) (c : Int) : rolesOf b [⟨false, v, c⟩] = [2] := by
  have e := rolesOf_at (b := b) (l := [⟨false, v, c⟩]) (j := 0) (h := ⟨false, v, c⟩) rfl
  rw [bestN] at e
  have hl : (rolesOf b [⟨false, v, c⟩]).length = 1 := by rw [rolesOf, rolesTo_length _ _ _ _ (Nat.le_refl _)]; rfl
  match hx : rolesOf b [⟨false, v, c⟩], hl with
  | [x], _ =>
    rw [hx] at e
    have : x = 2 := by simpa [roleAt] using e
    rw [this]
/-- setting right a part of one port that keeps a message -/
theorem settle_kept (h : May9 b v c) {p : Pt} {now ch : Int} {rt : Int} {bs : Vec} (hp : p.cost = c ∧ p.up = true ∧ p.keeps = true ∧ p.v = v ∧ p.age = 0 ∧ p.fwd = false) (ha : now < p.at_ + 6) (hs : p.since ≠ -1) (hn : now - p.since < 30) :
    settleT ⟨b, [p], now, rt, ch, bs⟩ = ⟨b, [{ p with role := 1 }], now, 0, ch, thr v c⟩ := by
  obtain ⟨rfl, h2, h3, rfl, h5, h6⟩ := hp
  have e1 : dropP now p = p := by
    unfold dropP
    rw [h3, h5]
    have : decide (now < p.at_ + 6) = true := decide_eq_true ha
    rw [this]
    cases p
    simp_all
  have e2 : heardT ⟨b, [p], now, rt, ch, bs⟩ = [⟨true, p.v, p.cost⟩] := by simp [heardT, dropped, e1, heardP, h2, h3]
  have e3 : rolesT ⟨b, [p], now, rt, ch, bs⟩ = [1] := by rw [rolesT, e2]; exact roles9 h
  have e4 : stT ⟨b, [p], now, rt, ch, bs⟩ = (0, thr p.v p.cost) := by rw [stT, e2]; exact best9 h
  have e5 : stepP now 1 p = { p with role := 1 } := by
    have h7 : decide (30 ≤ now - p.since) = false := decide_eq_false (by omega)
    simp [stepP, roleP, sinceP, fwdP, activeR, h2, hs, h7, h6]
  have e6 : newly now 1 p = false := by
    have h7 : decide (30 ≤ now - p.since) = false := decide_eq_false (by omega)
    simp [newly, fwdP, roleP, sinceP, activeR, h2, hs, h7]
  simp only [settleT, e3, e4]
  simp [dropped, e1, portF, e5, chTo, e6]
/-- setting right a part of one port that keeps none -/
theorem settle_none (b c : Int) {p : Pt} {now ch : Int} {rt : Int} {bs : Vec} (hp : p.up = true ∧ (dropP now p).keeps = false ∧ p.fwd = false) (hs : now - (if p.since = -1 then now else p.since) < 30) :
    settleT ⟨b, [p], now, rt, ch, bs⟩ = ⟨b, [{ p with role := 2, keeps := false, since := if p.since = -1 then now else p.since }], now, -1, ch, own b⟩ := by
  obtain ⟨h2, h3, h6⟩ := hp
  have e1 : dropP now p = { p with keeps := false } := by
    have : dropP now p = { p with keeps := (dropP now p).keeps } := rfl
    rw [this, h3]
  have e2 : heardT ⟨b, [p], now, rt, ch, bs⟩ = [⟨false, p.v, p.cost⟩] := by simp [heardT, dropped, e1, heardP]
  have e3 : rolesT ⟨b, [p], now, rt, ch, bs⟩ = [2] := by rw [rolesT, e2]; exact rolesN b _ _
  have e4 : stT ⟨b, [p], now, rt, ch, bs⟩ = (-1, own b) := by rw [stT, e2]; exact bestN b _ _
  have e5 : stepP now 2 { p with keeps := false } = { p with role := 2, keeps := false, since := if p.since = -1 then now else p.since } := by
    have h7 : decide (30 ≤ now - (if p.since = -1 then now else p.since)) = false := decide_eq_false (by omega)
    simp [stepP, roleP, sinceP, fwdP, activeR, h2, h7, h6]
  have e6 : newly now 2 { p with keeps := false } = false := by
    have h7 : decide (30 ≤ now - (if p.since = -1 then now else p.since)) = false := decide_eq_false (by omega)
    simp [newly, fwdP, roleP, sinceP, activeR, h2, h7]
  simp only [settleT, e3, e4]
  simp [dropped, e1, portF, e5, chTo, e6]
theorem link9 (b c : Int) : linkT (newT b [c]) 0 (newP c) true 10 = H9 b c := by
  have := settle_none b c (p := linkP true (newP c)) (now := 10) (ch := -1) (rt := -1) (bs := own b) ⟨rfl, rfl, rfl⟩ (by show (10 : Int) - (if (-1 : Int) = -1 then 10 else -1) < 30; decide)
  exact this
theorem hear9 (h : May9 b v c) {p : Pt} (hp : (H9 b c).ps[0]? = some p) : hearT (H9 b c) 0 p ⟨v, 0, false, false, false⟩ 10 = F9 b v c 10 := by
  simp [H9] at hp
  subst hp
  have := settle_kept h (p := ⟨c, 2, 10, true, true, false, v, 0, false, false, false, 10⟩) (now := 10) (ch := -1) (rt := -1) (bs := own b) ⟨rfl, rfl, rfl, rfl, rfl, rfl⟩ (by show (10 : Int) < 10 + 6; decide) (by show (10 : Int) ≠ -1; decide) (by show (10 : Int) - 10 < 30; decide)
  exact this
theorem tick9 (h : May9 b v c) {m n : Int} (h0 : 10 ≤ m) (h1 : m ≤ n) (h2 : n ≤ 15) : tickT (F9 b v c m) n = F9 b v c n := by
  have := settle_kept h (p := ⟨c, 1, 10, true, true, false, v, 0, false, false, false, 10⟩) (now := max m n) (ch := -1) (rt := 0) (bs := thr v c) ⟨rfl, rfl, rfl, rfl, rfl, rfl⟩ (by show max m n < 10 + 6; omega) (by show (10 : Int) ≠ -1; decide) (by show max m n - 10 < 30; omega)
  rw [show max m n = n by omega] at this
  rw [show F9 b v c n = ⟨b, [⟨c, 1, 10, true, true, false, v, 0, false, false, false, 10⟩], n, 0, -1, thr v c⟩ from rfl, ← this]
  show settleT ⟨b, _, max m n, 0, -1, thr v c⟩ = _
  rw [show max m n = n by omega]
  rfl
theorem tick9' {m : Int} (h1 : m ≤ 15) : tickT (F9 b v c m) 16 = G9 b v c := by
  have := settle_none b c (p := ⟨c, 1, 10, true, true, false, v, 0, false, false, false, 10⟩) (now := 16) (ch := -1) (rt := 0) (bs := thr v c) ⟨rfl, rfl, rfl⟩ (by show (16 : Int) - (if (10 : Int) = -1 then 16 else 10) < 30; decide)
  rw [show G9 b v c = ⟨b, [⟨c, 2, 10, true, false, false, v, 0, false, false, false, 10⟩], 16, -1, -1, own b⟩ from rfl]
  refine Eq.trans ?_ this
  show settleT ⟨b, _, max m 16, 0, -1, thr v c⟩ = _
  rw [show max m 16 = 16 by omega]
  rfl
theorem wfF (b : Int) (v : Vec) (c : Int) {n : Int} (h0 : 10 ≤ n) (h1 : n ≤ 16) : Wf (F9 b v c n) := by
  refine ⟨by show 0 ≤ n; omega, by show n ≤ _; omega, by show 1 ≤ 1; omega, by show 1 ≤ 16; omega, by show (-1 : Int) ≤ -1; omega, by show -1 ≤ n; omega, fun q hq => ?_⟩
  simp [F9] at hq
  subst hq
  exact ⟨by show (-1 : Int) ≤ 10; omega, by show 10 ≤ n; omega, by show (0 : Int) ≤ 10; omega, by show 10 ≤ n; omega, by show (_ : Int) ≤ 0; omega, by show (0 : Int) ≤ _; omega⟩
theorem wfH (b c : Int) : Wf (H9 b c) := by
  refine ⟨by show (0 : Int) ≤ 10; omega, by show (10 : Int) ≤ _; omega, by show 1 ≤ 1; omega, by show 1 ≤ 16; omega, by show (-1 : Int) ≤ -1; omega, by show (-1 : Int) ≤ 10; omega, fun q hq => ?_⟩
  simp [H9] at hq
  subst hq
  exact ⟨by show (-1 : Int) ≤ 10; omega, by show (10 : Int) ≤ 10; omega, by show (0 : Int) ≤ 0; omega, by show (0 : Int) ≤ 10; omega, by show (_ : Int) ≤ 0; omega, by show (0 : Int) ≤ _; omega⟩
theorem wfG (b : Int) (v : Vec) (c : Int) : Wf (G9 b v c) := by
  refine ⟨by show (0 : Int) ≤ 16; omega, by show (16 : Int) ≤ _; omega, by show 1 ≤ 1; omega, by show 1 ≤ 16; omega, by show (-1 : Int) ≤ -1; omega, by show (-1 : Int) ≤ 16; omega, fun q hq => ?_⟩
  simp [G9] at hq
  subst hq
  exact ⟨by show (-1 : Int) ≤ 10; omega, by show (10 : Int) ≤ 16; omega, by show (0 : Int) ≤ 10; omega, by show (10 : Int) ≤ 16; omega, by show (_ : Int) ≤ 0; omega, by show (0 : Int) ≤ _; omega⟩
end
end Go.Proofs.Ytlfoaefilonidaa.Rstp
