/-
  A bridge that hears nothing: the plain model.
-/
import Derived.Test.YtlfoaefilonidaaRstpAnyMath
namespace Go.Proofs.Ytlfoaefilonidaa.Rstp
set_option linter.unusedVariables false
set_option linter.unusedSimpArgs false
open Go.Proofs.Ytlfoaefilonidaa.Prio
theorem bestTo_quiet (b : Int) (l : List Heard) (hl : ∀ h ∈ l, h.is = false) : ∀ k, k ≤ l.length → bestTo b l k = (-1, own b)
  | 0, _ => rfl
  | k + 1, hk => by
    have hg : l[k]? = some l[k] := List.getElem?_eq_getElem (by omega)
    have hb : better b (bestTo b l k).2 l[k] = false := by
      have := hl l[k] (List.getElem_mem _)
      simp [better, this]
    rw [bestTo_no hg hb]
    exact bestTo_quiet b l hl k (by omega)
theorem rolesOf_quiet (b : Int) (l : List Heard) (hl : ∀ h ∈ l, h.is = false) {i : Nat} {h : Heard} (hi : l[i]? = some h) : (rolesOf b l)[i]? = some 2 := by
  rw [rolesOf_at hi, bestOf, bestTo_quiet b l hl _ (Nat.le_refl _)]
  have h0 := hl h (List.mem_of_getElem? hi)
  simp [roleAt, h0]
theorem drop_quiet {now : Int} {p : Pt} (h : p.keeps = false) : dropP now p = p := by
  cases p
  simp_all [dropP]
theorem settle_quiet {t : Tr} (h : ∀ p ∈ t.ps, p.keeps = false) : (settleT t).ps = t.ps.map (stepP t.now 2) ∧ (settleT t).root = -1 ∧ (settleT t).best = own t.bridge ∧ (settleT t).now = t.now ∧ (settleT t).bridge = t.bridge := by
  have hd : dropped t = t.ps := by
    unfold dropped
    conv => rhs; rw [← List.map_id t.ps]
    exact List.map_congr_left fun p hp => drop_quiet (h p hp)
  have hq : ∀ x ∈ heardT t, x.is = false := by
    intro x hx
    simp only [heardT, hd, List.mem_map] at hx
    obtain ⟨p, hp, rfl⟩ := hx
    simp [heardP, h p hp]
  have hst : stT t = (-1, own t.bridge) := bestTo_quiet _ _ hq _ (Nat.le_refl _)
  refine ⟨?_, ?_, ?_, rfl, rfl⟩
  · simp only [settleT, hd]
    apply List.ext_getElem?
    intro i
    simp only [List.getElem?_mapIdx, List.getElem?_map]
    cases hi : t.ps[i]? with
    | none => rfl
    | some p =>
      have hr : (rolesT t)[i]? = some 2 := rolesOf_quiet _ _ hq (h := heardP p) (by rw [heardT, hd, List.getElem?_map, hi]; rfl)
      simp [portF, hr]
  · simp only [settleT, hst]
  · simp only [settleT, hst]
/-- a part that heard nothing, at a time: since when each port is up (-1: it is down) -/
structure Al (b : Int) (ss : List Int) (nw : Int) (t : Tr) : Prop where
  bridge : t.bridge = b
  now : t.now = nw
  root : t.root = -1
  best : t.best = own b
  len : t.ps.length = ss.length
  p : ∀ (i : Nat) (p : Pt) (s : Int), t.ps[i]? = some p → ss[i]? = some s → p.keeps = false ∧ p.up = (s != -1) ∧ p.since = s ∧ p.role = (if s = -1 then 0 else 2) ∧ p.fwd = ((s != -1) && decide (30 ≤ nw - s))
section
variable {b now m : Int} {ss : List Int} {t : Tr}
theorem Al.get (h : Al b ss now t) {i : Nat} {p : Pt} (hp : t.ps[i]? = some p) : ∃ s, ss[i]? = some s := by
  have h1 := (List.getElem?_eq_some_iff.1 hp).1
  have h2 := h.len
  exact ⟨_, List.getElem?_eq_getElem (by omega)⟩
theorem Al.new (b : Int) (cs : List Int) : Al b (cs.map fun _ => -1) 0 (newT b cs) := by
  refine ⟨rfl, rfl, rfl, rfl, by simp [newT], fun i p s hp hs => ?_⟩
  simp only [newT, List.getElem?_map] at hp hs
  obtain ⟨c, _, rfl⟩ := Option.map_eq_some_iff.1 hp
  obtain ⟨_, _, rfl⟩ := Option.map_eq_some_iff.1 hs
  simp [newP]
/-- setting right, of ports that are up since ss, or came up just now -/
theorem Al.settle {t : Tr} (hb : t.bridge = b) (hlen : t.ps.length = ss.length) (hp : ∀ (i : Nat) (p : Pt) (s : Int), t.ps[i]? = some p → ss[i]? = some s → p.keeps = false ∧ p.up = (s != -1) ∧ (s ≠ -1 → p.since = s ∨ (p.since = -1 ∧ s = t.now))) : Al b ss t.now (settleT t) := by
  have hk : ∀ p ∈ t.ps, p.keeps = false := by
    intro p hp'
    obtain ⟨i, hi, rfl⟩ := List.getElem_of_mem hp'
    exact (hp i t.ps[i] (ss[i]'(by omega)) (List.getElem?_eq_getElem hi) (List.getElem?_eq_getElem (by omega))).1
  obtain ⟨h1, h2, h3, h4, h5⟩ := settle_quiet hk
  refine ⟨by rw [h5, hb], h4, h2, by rw [h3, hb], by rw [h1, List.length_map, hlen], fun i p s hi hs => ?_⟩
  rw [h1, List.getElem?_map] at hi
  obtain ⟨q, hq, rfl⟩ := Option.map_eq_some_iff.1 hi
  obtain ⟨k1, k2, k3⟩ := hp i q s hq hs
  by_cases hs1 : s = -1
  · subst hs1
    have hu : q.up = false := by simpa using k2
    simp [stepP, roleP, sinceP, fwdP, activeR, hu, k1]
  · have hu : q.up = true := by rw [k2]; simp [hs1]
    have hsn : sinceP t.now 2 q = s := by
      unfold sinceP
      rw [if_pos (by simp [roleP, hu, activeR])]
      rcases k3 hs1 with e | ⟨e, e2⟩
      · rw [e, if_neg hs1]
      · rw [e, if_pos rfl, e2]
    refine ⟨k1, by simp [stepP, hu, hs1], hsn, by simp [stepP, roleP, hu, hs1], ?_⟩
    simp only [stepP, fwdP, hsn]
    simp [roleP, hu, activeR, hs1]
theorem Al.tick (h : Al b ss m t) (hn : m ≤ now) : Al b ss now (tickT t now) := by
  have e : (nowT t now).now = now := by show max t.now now = now; have := h.now; omega
  have := Al.settle (t := nowT t now) (ss := ss) (b := b) h.bridge h.len (fun i p s hp hs => by
    obtain ⟨k1, k2, k3, _⟩ := h.p i p s hp hs
    exact ⟨k1, k2, fun _ => .inl k3⟩)
  rw [e] at this
  exact this
theorem Al.link (h : Al b ss m t) (hn : m ≤ now) (h0 : 0 ≤ now) {k : Nat} {p : Pt} (hk : t.ps[k]? = some p) (hs : ss[k]? = some (-1)) : Al b (ss.set k now) now (linkT t k p true now) := by
  have e : max t.now now = now := by have := h.now; omega
  have := Al.settle (t := { nowT t now with ps := t.ps.set k (linkP true p) }) (ss := ss.set k now) (b := b) h.bridge (by simpa using h.len) (fun i q s hq hs' => by
    by_cases hik : i = k
    · subst hik
      have hl1 := (List.getElem?_eq_some_iff.1 hk).1
      have hl2 := (List.getElem?_eq_some_iff.1 hs).1
      rw [List.getElem?_set_self hl1] at hq
      rw [List.getElem?_set_self hl2] at hs'
      simp only [Option.some.injEq] at hq hs'
      subst hq hs'
      obtain ⟨k1, k2, k3, _⟩ := h.p i p (-1) hk hs
      refine ⟨by simp [linkP, k1], ?_, fun _ => .inr ⟨k3, ?_⟩⟩
      · show true = (now != -1)
        symm
        simp
        omega
      · show now = max t.now now
        omega
    · rw [List.getElem?_set_ne (fun e => hik e.symm)] at hq hs'
      obtain ⟨k1, k2, k3, _⟩ := h.p i q s hq hs'
      exact ⟨k1, k2, fun _ => .inl k3⟩)
  rw [show ({ nowT t now with ps := t.ps.set k (linkP true p) } : Tr).now = now from e] at this
  exact this
end
/-- since when the ports are up, of which the first p have been looked at at a time, the others just before -/
def sl (us : List Int) (n p : Nat) (now : Int) : List Int := (List.range n).map fun j => match us[j]? with
  | some u => if 0 ≤ u ∧ u ≤ (if j < p then now else now - 1) then u else -1
  | none => -1
def cntU (us : List Int) (now : Int) : Nat → Int
  | 0 => 0
  | k + 1 => match us[k]? with
    | some u => if 0 ≤ u ∧ u ≤ now then cntU us now k + 1 else cntU us now k
    | none => cntU us now k
theorem sl_len (us : List Int) (n p : Nat) (now : Int) : (sl us n p now).length = n := by simp [sl]
theorem sl_at {us : List Int} {n p : Nat} {now : Int} {j : Nat} (hj : j < n) : (sl us n p now)[j]? = some (match us[j]? with
  | some u => if 0 ≤ u ∧ u ≤ (if j < p then now else now - 1) then u else -1
  | none => -1) := by
  simp [sl, hj]
theorem sl_start (us : List Int) (cs : List Int) : sl us cs.length 0 0 = cs.map fun _ => -1 := by
  apply List.ext_getElem?
  intro j
  by_cases hj : j < cs.length
  · rw [sl_at hj]
    simp [hj]
    split
    · split
      · omega
      · rfl
    · rfl
  · rw [List.getElem?_eq_none (by rw [sl_len]; omega), List.getElem?_eq_none (by simp; omega)]
theorem sl_none {us : List Int} {n p : Nat} {now u : Int} (hu : us[p]? = some u) (hp : p < n) (h : u = now) : (sl us n p now)[p]? = some (-1) := by
  rw [sl_at hp, hu]
  simp
  omega
theorem sl_set {us : List Int} {n p : Nat} {now u : Int} (hu : us[p]? = some u) (h : u = now) (h0 : 0 ≤ now) : (sl us n p now).set p now = sl us n (p + 1) now := by
  apply List.ext_getElem?
  intro j
  by_cases hj : j < n
  · by_cases hjp : j = p
    · subst hjp
      rw [List.getElem?_set_self (by rw [sl_len]; exact hj), sl_at hj, hu]
      simp
      omega
    · rw [List.getElem?_set_ne (fun e => hjp e.symm), sl_at hj, sl_at hj]
      have : j < p + 1 ↔ j < p := by omega
      simp only [this]
  · rw [List.getElem?_eq_none (by simp [sl_len]; omega), List.getElem?_eq_none (by rw [sl_len]; omega)]
theorem sl_same {us : List Int} {n p : Nat} {now u : Int} (hu : us[p]? = some u) (h : ¬ u = now) : sl us n p now = sl us n (p + 1) now := by
  apply List.ext_getElem?
  intro j
  by_cases hj : j < n
  · rw [sl_at hj, sl_at hj]
    by_cases hjp : j = p
    · subst hjp
      rw [hu]
      simp
      split <;> split <;> omega
    · have : j < p + 1 ↔ j < p := by omega
      simp only [this]
  · rw [List.getElem?_eq_none (by rw [sl_len]; omega), List.getElem?_eq_none (by rw [sl_len]; omega)]
theorem sl_next {us : List Int} {n p : Nat} {now : Int} (h : n ≤ p ∨ us.length ≤ p) : sl us n p now = sl us n 0 (now + 1) := by
  apply List.ext_getElem?
  intro j
  by_cases hj : j < n
  · rw [sl_at hj, sl_at hj]
    cases hu : us[j]? with
    | none => rfl
    | some u =>
      have := (List.getElem?_eq_some_iff.1 hu).1
      have hjp : j < p := by omega
      simp [hjp]
  · rw [List.getElem?_eq_none (by rw [sl_len]; omega), List.getElem?_eq_none (by rw [sl_len]; omega)]
theorem cntU_stop {us : List Int} {now : Int} {p : Nat} (h : us.length ≤ p) : ∀ d, cntU us now (p + d) = cntU us now p
  | 0 => rfl
  | d + 1 => by
    have e : cntU us now ((p + d) + 1) = cntU us now (p + d) := by
      conv => lhs; unfold cntU
      rw [List.getElem?_eq_none (by omega)]
    exact e.trans (cntU_stop h d)
theorem cntU_bd (us : List Int) (now : Int) : ∀ k : Nat, 0 ≤ cntU us now k ∧ cntU us now k ≤ k
  | 0 => ⟨by simp [cntU], by simp [cntU]⟩
  | k + 1 => by
    have ih := cntU_bd us now k
    unfold cntU
    split
    · split <;> omega
    · omega
theorem cntU_yes {us : List Int} {now u : Int} {k : Nat} (hu : us[k]? = some u) (h0 : 0 ≤ u) (h1 : u ≤ now) : cntU us now (k + 1) = cntU us now k + 1 := by
  simp [cntU, hu, h0, h1]
theorem cntU_no {us : List Int} {now u : Int} {k : Nat} (hu : us[k]? = some u) (h : ¬ (0 ≤ u ∧ u ≤ now)) : cntU us now (k + 1) = cntU us now k := by
  simp [cntU, hu, h]
theorem cntU_min {us : List Int} {now : Int} {n p : Nat} (hp : n ≤ p ∨ us.length ≤ p) (hpn : p ≤ n) : cntU us now n = cntU us now p := by
  rcases hp with h | h
  · rw [show n = p by omega]
  · have := cntU_stop (now := now) h (n - p)
    rw [show p + (n - p) = n by omega] at this
    exact this
theorem sl_cases {us : List Int} {n : Nat} {now : Int} {j : Nat} (hj : j < n) : ∃ s, (sl us n n now)[j]? = some s ∧ ((∃ u, us[j]? = some u ∧ 0 ≤ u ∧ u ≤ now ∧ s = u) ∨ (s = -1 ∧ (us[j]? = none ∨ ∃ u, us[j]? = some u ∧ ¬ (0 ≤ u ∧ u ≤ now)))) := by
  refine ⟨_, sl_at hj, ?_⟩
  cases hu : us[j]? with
  | none => exact .inr ⟨rfl, .inl rfl⟩
  | some u =>
    by_cases hc : 0 ≤ u ∧ u ≤ now
    · exact .inl ⟨u, rfl, hc.1, hc.2, by simp [hj, hc]⟩
    · exact .inr ⟨by simp [hj]; omega, .inr ⟨u, rfl, hc⟩⟩
theorem cntU_none {us : List Int} {now : Int} {k : Nat} (hu : us[k]? = none) : cntU us now (k + 1) = cntU us now k := by simp [cntU, hu]
/-- what a part that heard nothing tells -/
theorem outs_alone {b now : Int} {us : List Int} {n : Nat} {t : Tr} (h : Al b (sl us n n now) now t) : ∀ k, k ≤ n → ((outsTo t k).length : Int) = cntU us now k ∧ ∀ o ∈ outsTo t k, o.b.age = 0 ∧ o.b.v = ⟨b, 0, b, o.port⟩
  | 0, _ => ⟨rfl, by simp [outsTo]⟩
  | k + 1, hk => by
    obtain ⟨ih1, ih2⟩ := outs_alone h k (by omega)
    have hl := h.len
    rw [sl_len] at hl
    have hp : t.ps[k]? = some (t.ps[k]'(by omega)) := List.getElem?_eq_getElem (by omega)
    obtain ⟨sk, hs, hc⟩ := sl_cases (us := us) (now := now) (show k < n by omega)
    obtain ⟨_, _, _, hr, _⟩ := h.p k _ _ hp hs
    rcases hc with ⟨u, hu, h0, h1, rfl⟩ | ⟨rfl, hc⟩
    · rw [if_neg (by omega)] at hr
      rw [outsTo_yes hp hr]
      refine ⟨by rw [cntU_yes hu h0 h1, List.length_append, ← ih1]; simp, fun o ho => ?_⟩
      rcases List.mem_append.1 ho with h1 | h1
      · exact ih2 o h1
      · rw [List.mem_singleton.1 h1]
        refine ⟨?_, ?_⟩
        · show ageT t = 0
          simp [ageT, h.root]
        · show (⟨t.best.root, t.best.cost, t.bridge, k⟩ : Vec) = _
          rw [h.best, h.bridge]
          rfl
    · rw [if_pos rfl] at hr
      rw [outsTo_no hp (by omega)]
      refine ⟨?_, ih2⟩
      rcases hc with hu | ⟨u, hu, hc⟩
      · rw [cntU_none hu]; exact ih1
      · rw [cntU_no hu hc]; exact ih1
theorem outsT_alone {b now : Int} {us : List Int} {n : Nat} {t : Tr} (h : Al b (sl us n n now) now t) : ((outsT t now).length : Int) = (if now % 2 = 0 then cntU us now n else 0) ∧ ∀ o ∈ outsT t now, o.b.age = 0 ∧ o.b.v = ⟨b, 0, b, o.port⟩ := by
  have hl := h.len
  rw [sl_len] at hl
  have ha : ageT t = 0 := by simp [ageT, h.root]
  obtain ⟨h1, h2⟩ := outs_alone h n (Nat.le_refl _)
  by_cases ho : now % 2 = 1
  · have hsil : silent t now = true := by simp [silent, ho]
    have e : outsT t now = [] := by simp [outsT, hsil]
    rw [e]
    refine ⟨?_, by simp⟩
    rw [if_neg (by omega)]
    rfl
  · have hsil : silent t now = false := by simp [silent, ho, ha]
    have e : outsT t now = outsTo t n := by simp [outsT, hsil, hl]
    rw [e, if_pos (by omega)]
    exact ⟨h1, h2⟩
theorem al_port {b now : Int} {us : List Int} {n : Nat} {t : Tr} (h : Al b (sl us n n now) now t) {k : Nat} {p : Pt} {u : Int} (hp : t.ps[k]? = some p) (hu : us[k]? = some u) :
    p.fwd = (decide (0 ≤ u ∧ u ≤ now) && decide (30 ≤ now - u)) ∧ learnsP t.now p = (decide (0 ≤ u ∧ u ≤ now) && decide (15 ≤ now - u)) := by
  have hl := h.len
  rw [sl_len] at hl
  have hk : k < n := by have := (List.getElem?_eq_some_iff.1 hp).1; omega
  obtain ⟨sk, hs, hc⟩ := sl_cases (us := us) (now := now) hk
  obtain ⟨_, _, hsn, _, hf⟩ := h.p k p _ hp hs
  rw [learnsP, hsn, h.now, hf]
  rcases hc with ⟨u', hu', h0, h1, rfl⟩ | ⟨rfl, hc⟩
  · rw [hu] at hu'
    injection hu' with hu'
    subst hu'
    have : (u != -1) = true := by simp; omega
    simp [this, h0, h1]
  · rcases hc with hu' | ⟨u', hu', hc⟩
    · rw [hu] at hu'; cases hu'
    · rw [hu] at hu'
      injection hu' with hu'
      subst hu'
      simp [hc]
end Go.Proofs.Ytlfoaefilonidaa.Rstp
