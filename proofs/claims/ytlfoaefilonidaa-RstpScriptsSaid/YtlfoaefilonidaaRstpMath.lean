/-
  The plain model of a bridge's part in a tree: what it keeps of each port, how it is set right, what it is told.
-/
import Derived.Test.YtlfoaefilonidaaPrioMath3
namespace Go.Proofs.Ytlfoaefilonidaa.Rstp
set_option linter.unusedVariables false
set_option linter.unusedSimpArgs false
open Go.Proofs.Ytlfoaefilonidaa.Prio
structure Pt where
  cost : Int
  role : Int
  since : Int
  up : Bool
  keeps : Bool
  fwd : Bool
  v : Vec
  age : Int
  chg : Bool
  lrn : Bool
  kf : Bool
  at_ : Int
structure Tr where
  bridge : Int
  ps : List Pt
  now : Int
  root : Int
  change : Int
  best : Vec
structure Bp where
  v : Vec
  age : Int
  chg : Bool
  lrn : Bool
  kf : Bool
/-- a list of which the first k were changed, each as its place says -/
def mapTo {α : Type} (f : Nat → α → α) (xs : List α) (k : Nat) : List α := xs.mapIdx fun i p => if i < k then f i p else p
section
variable {α : Type} {f : Nat → α → α} {xs : List α} {k : Nat} {a : α}
theorem mapTo_zero : mapTo f xs 0 = xs := by
  apply List.ext_getElem?
  intro i
  simp [mapTo]
theorem mapTo_get (h : xs[k]? = some a) : (mapTo f xs k)[k]? = some a := by simp [mapTo, h]
theorem mapTo_step (h : xs[k]? = some a) : (mapTo f xs k).set k (f k a) = mapTo f xs (k + 1) := by
  have hk := (List.getElem?_eq_some_iff.1 h).1
  apply List.ext_getElem?
  intro i
  by_cases hi : i = k
  · subst hi
    rw [List.getElem?_set_self (by simpa [mapTo] using hk)]
    simp only [mapTo, List.getElem?_mapIdx, h, Option.map_some]
    rw [if_pos (by omega)]
  · rw [List.getElem?_set_ne (fun e => hi e.symm)]
    simp only [mapTo, List.getElem?_mapIdx]
    by_cases h1 : i < k
    · have h2 : i < k + 1 := by omega
      simp only [h1, h2, if_true]
    · have h2 : ¬ i < k + 1 := by omega
      simp only [h1, h2, if_false]
theorem mapTo_length : (mapTo f xs k).length = xs.length := by simp [mapTo]
theorem mapTo_all (h : xs.length = k) : mapTo f xs k = xs.mapIdx f := by
  apply List.ext_getElem?
  intro i
  simp only [mapTo, List.getElem?_mapIdx]
  by_cases h1 : i < xs.length
  · rw [List.getElem?_eq_getElem h1]
    simp [h ▸ h1]
  · rw [List.getElem?_eq_none (by omega)]
    rfl
end
theorem mapTo_const {α : Type} (f : α → α) (xs : List α) (k : Nat) (h : xs.length = k) : mapTo (fun _ p => f p) xs k = xs.map f := by
  rw [mapTo_all h]
  apply List.ext_getElem?
  intro i
  simp
def dropP (now : Int) (p : Pt) : Pt := { p with keeps := p.keeps && (decide (now < p.at_ + 6) && decide (p.age < 20)) }
def heardP (p : Pt) : Heard := ⟨p.up && p.keeps, p.v, p.cost⟩
def roleP (r : Int) (p : Pt) : Int := if p.up = true then r else 0
def activeR (r : Int) : Bool := r == 1 || r == 2
def sinceP (now r : Int) (p : Pt) : Int := if activeR (roleP r p) = true then (if p.since = -1 then now else p.since) else -1
def fwdP (now r : Int) (p : Pt) : Bool := activeR (roleP r p) && decide (30 ≤ now - sinceP now r p)
def stepP (now r : Int) (p : Pt) : Pt := { p with role := roleP r p, since := sinceP now r p, fwd := fwdP now r p }
def newly (now r : Int) (p : Pt) : Bool := fwdP now r p && !p.fwd
def dropped (t : Tr) : List Pt := t.ps.map (dropP t.now)
def heardT (t : Tr) : List Heard := (dropped t).map heardP
def rolesT (t : Tr) : List Int := rolesOf t.bridge (heardT t)
def stT (t : Tr) : Int × Vec := bestOf t.bridge (heardT t)
def portF (now : Int) (rs : List Int) (i : Nat) (p : Pt) : Pt := stepP now (rs.getD i 0) p
def chTo (now c : Int) (rs : List Int) (ps : List Pt) : Nat → Int
  | 0 => c
  | k + 1 => match ps[k]? with
    | some p => if newly now (rs.getD k 0) p = true then now else chTo now c rs ps k
    | none => chTo now c rs ps k
theorem chTo_step {now c : Int} {rs : List Int} {ps : List Pt} {k : Nat} {p : Pt} (h : ps[k]? = some p) : chTo now c rs ps (k + 1) = if newly now (rs.getD k 0) p = true then now else chTo now c rs ps k := by
  simp [chTo, h]
def settleT (t : Tr) : Tr := { t with ps := (dropped t).mapIdx (portF t.now (rolesT t)), root := (stT t).1, best := (stT t).2, change := chTo t.now t.change (rolesT t) (dropped t) t.ps.length }
def nowT (t : Tr) (now : Int) : Tr := { t with now := max t.now now }
def okT (t : Tr) (i now : Int) : Bool := decide (0 ≤ now) && (decide (now ≤ 1099511627776) && (decide (0 ≤ i) && decide (i < t.ps.length)))
theorem okT_iff {t : Tr} {i now : Int} : okT t i now = true ↔ 0 ≤ now ∧ now ≤ 1099511627776 ∧ 0 ≤ i ∧ i < t.ps.length := by simp [okT]
def linkP (up : Bool) (p : Pt) : Pt := { p with up := up, keeps := p.keeps && up }
def linkT (t : Tr) (i : Nat) (p : Pt) (up : Bool) (now : Int) : Tr := settleT { nowT t now with ps := t.ps.set i (linkP up p) }
def again (p : Pt) (b : Bp) : Bool := (p.v.bridge == b.v.bridge) && (p.v.port == b.v.port)
def takes (p : Pt) (b : Bp) : Bool := !p.keeps || (again p b || decide (cmpV b.v p.v ≤ 0))
def keepP (now : Int) (b : Bp) (p : Pt) : Pt := { p with keeps := true, v := b.v, age := b.age, chg := b.chg, lrn := b.lrn, kf := b.kf, at_ := now }
/-- what a port's message does to a part whose old messages have gone -/
def heardT1 (t : Tr) (i : Nat) (p : Pt) (b : Bp) : Tr :=
  if takes p b = true then { t with ps := t.ps.set i (keepP t.now b p), change := if (b.chg && (b.v.bridge != t.bridge)) = true then t.now else t.change } else t
def dropT (t : Tr) : Tr := { t with ps := dropped t }
def hearT (t : Tr) (i : Nat) (p : Pt) (b : Bp) (now : Int) : Tr := settleT (heardT1 (dropT (nowT t now)) i (dropP (max t.now now) p) b)
def tickT (t : Tr) (now : Int) : Tr := settleT (nowT t now)
def learnsP (now : Int) (p : Pt) : Bool := (p.since != -1) && decide (15 ≤ now - p.since)
/-- what holds at all times -/
structure WfP (now : Int) (p : Pt) : Prop where
  s0 : -1 ≤ p.since
  s1 : p.since ≤ now
  a0 : 0 ≤ p.at_
  a1 : p.at_ ≤ now
  g0 : -9223372036854775808 ≤ p.age
  g1 : p.age ≤ 9223372036854775807
structure Wf (t : Tr) : Prop where
  n0 : 0 ≤ t.now
  n1 : t.now ≤ 1099511627776
  l0 : 1 ≤ t.ps.length
  l1 : t.ps.length ≤ 16
  c0 : -1 ≤ t.change
  c1 : t.change ≤ t.now
  p : ∀ q ∈ t.ps, WfP t.now q
theorem WfP.mono {now now' : Int} {p : Pt} (h : WfP now p) (hn : now ≤ now') : WfP now' p := ⟨h.s0, by have := h.s1; omega, h.a0, by have := h.a1; omega, h.g0, h.g1⟩
theorem WfP.drop {now : Int} {p : Pt} (h : WfP now p) (n : Int) : WfP now (dropP n p) := ⟨h.s0, h.s1, h.a0, h.a1, h.g0, h.g1⟩
theorem WfP.link {now : Int} {p : Pt} (h : WfP now p) (u : Bool) : WfP now (linkP u p) := ⟨h.s0, h.s1, h.a0, h.a1, h.g0, h.g1⟩
theorem WfP.step {now : Int} {p : Pt} (h : WfP now p) (h0 : 0 ≤ now) (r : Int) : WfP now (stepP now r p) := by
  refine ⟨?_, ?_, h.a0, h.a1, h.g0, h.g1⟩
  · simp only [stepP, sinceP]
    have := h.s0
    split
    · split <;> omega
    · omega
  · simp only [stepP, sinceP]
    have := h.s1
    split
    · split <;> omega
    · omega
theorem WfP.kept {now : Int} {p : Pt} (h : WfP now p) (h0 : 0 ≤ now) (b : Bp) (hb : -9223372036854775808 ≤ b.age ∧ b.age ≤ 9223372036854775807) : WfP now (keepP now b p) := ⟨h.s0, h.s1, h0, Int.le_refl _, hb.1, hb.2⟩
theorem chTo_bd {now c : Int} {rs : List Int} {ps : List Pt} (h0 : 0 ≤ now) (hc0 : -1 ≤ c) (hc1 : c ≤ now) : ∀ k, -1 ≤ chTo now c rs ps k ∧ chTo now c rs ps k ≤ now
  | 0 => ⟨hc0, hc1⟩
  | k + 1 => by
    have ih := chTo_bd (rs := rs) (ps := ps) h0 hc0 hc1 k
    unfold chTo
    split
    · split
      · omega
      · exact ih
    · exact ih
theorem dropped_length (t : Tr) : (dropped t).length = t.ps.length := by simp [dropped]
theorem heardT_length (t : Tr) : (heardT t).length = t.ps.length := by simp [heardT, dropped]
theorem rolesT_length (t : Tr) : (rolesT t).length = t.ps.length := by rw [rolesT, rolesOf, rolesTo_length _ _ _ _ (Nat.le_refl _), heardT_length]
theorem Wf.settle {t : Tr} (h : Wf t) : Wf (settleT t) := by
  have hc := chTo_bd (rs := rolesT t) (ps := dropped t) h.n0 h.c0 h.c1 t.ps.length
  refine ⟨h.n0, h.n1, ?_, ?_, hc.1, hc.2, fun q hq => ?_⟩
  · simp only [settleT, List.length_mapIdx, dropped_length]; exact h.l0
  · simp only [settleT, List.length_mapIdx, dropped_length]; exact h.l1
  · simp only [settleT, List.mem_mapIdx] at hq
    obtain ⟨i, hi, rfl⟩ := hq
    have hm : (dropped t)[i] ∈ dropped t := List.getElem_mem hi
    simp only [dropped, List.mem_map] at hm
    obtain ⟨p, hp, e⟩ := hm
    have e' : (dropped t)[i] = dropP t.now p := e.symm
    rw [e']
    exact ((h.p p hp).drop _).step h.n0 _
theorem Wf.now {t : Tr} (h : Wf t) {now : Int} (hn : now ≤ 1099511627776) : Wf (nowT t now) :=
  ⟨by have := h.n0; simp only [nowT]; omega, by have := h.n1; simp only [nowT]; omega, h.l0, h.l1, h.c0, by have := h.c1; simp only [nowT]; omega, fun q hq => (h.p q hq).mono (by simp only [nowT]; omega)⟩
theorem Wf.set_ {t : Tr} (h : Wf t) (i : Nat) {p : Pt} (hp : WfP t.now p) {c : Int} (hc0 : -1 ≤ c) (hc1 : c ≤ t.now) : Wf { t with ps := t.ps.set i p, change := c } :=
  ⟨h.n0, h.n1, by simpa using h.l0, by simpa using h.l1, hc0, hc1, fun q hq => by
    rcases List.mem_or_eq_of_mem_set hq with h1 | h1
    · exact h.p q h1
    · exact h1 ▸ hp⟩
theorem Wf.at_ {t : Tr} (h : Wf t) {i : Nat} {p : Pt} (hi : t.ps[i]? = some p) : WfP t.now p := h.p p (List.mem_of_getElem? hi)
theorem Wf.link {t : Tr} (h : Wf t) {i : Nat} {p : Pt} (hi : t.ps[i]? = some p) (up : Bool) {now : Int} (hn : now ≤ 1099511627776) : Wf (linkT t i p up now) :=
  ((h.now hn).set_ i (((h.at_ hi).mono (by simp only [nowT]; omega)).link up) (h.now hn).c0 (h.now hn).c1).settle
theorem Wf.tick {t : Tr} (h : Wf t) {now : Int} (hn : now ≤ 1099511627776) : Wf (tickT t now) := (h.now hn).settle
theorem Wf.dropT {t : Tr} (h : Wf t) : Wf (dropT t) :=
  ⟨h.n0, h.n1, by simpa [Rstp.dropT, dropped] using h.l0, by simpa [Rstp.dropT, dropped] using h.l1, h.c0, h.c1, fun q hq => by
    simp only [Rstp.dropT, dropped, List.mem_map] at hq
    obtain ⟨p, hp, rfl⟩ := hq
    exact (h.p p hp).drop _⟩
theorem Wf.heard1 {t : Tr} (h : Wf t) {i : Nat} {p : Pt} (hp : WfP t.now p) (b : Bp) (hb : -9223372036854775808 ≤ b.age ∧ b.age ≤ 9223372036854775807) : Wf (heardT1 t i p b) := by
  unfold heardT1
  split
  · refine h.set_ i (hp.kept h.n0 b hb) ?_ ?_
    · split
      · have := h.n0; omega
      · exact h.c0
    · split
      · exact Int.le_refl _
      · exact h.c1
  · exact h
theorem Wf.hear {t : Tr} (h : Wf t) {i : Nat} {p : Pt} (hi : t.ps[i]? = some p) (b : Bp) {now : Int} (hn : now ≤ 1099511627776) (hb : -9223372036854775808 ≤ b.age ∧ b.age ≤ 9223372036854775807) : Wf (hearT t i p b now) :=
  ((h.now hn).dropT.heard1 (((h.at_ hi).mono (show t.now ≤ max t.now now by omega)).drop _) b hb).settle
end Go.Proofs.Ytlfoaefilonidaa.Rstp
