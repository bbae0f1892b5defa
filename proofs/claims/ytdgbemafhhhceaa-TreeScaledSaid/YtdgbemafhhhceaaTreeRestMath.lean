/-
  The rest, as a plain law: what the best vectors are behind all rounds.
-/
import Derived.Test.YtdgbemafhhhceaaTreeSame
import Derived.Test.YtdgbemafhhhceaaTreeConv
import Derived.Test.YtdgbemafhhhceaaPrioMath3
namespace Go.Proofs.Ytdgbemafhhhceaa.Tree
set_option linter.unusedVariables false
set_option linter.unusedSimpArgs false
open Go.Proofs.Ytdgbemafhhhceaa.Prio Go.Proofs.Ytdgbemafhhhceaa.Conv
theorem fold_hit (ids : List Int) (best : List Vec) (b : Int) : ∀ (es : List En) (out : List Heard) (p : Nat) (h : Heard), (es.foldl (stepE ids best b) out)[p]? = some h →
    (∃ e ∈ es, e.at_ = b ∧ e.port.toNat = p ∧ h = hv ids best e.to e.far e.cost) ∨ out[p]? = some h
  | [], out, p, h, hh => .inr hh
  | e :: r, out, p, h, hh => by
    rw [List.foldl_cons] at hh
    rcases fold_hit ids best b r _ p h hh with ⟨x, hx, h1⟩ | h1
    · exact .inl ⟨x, by simp [hx], h1⟩
    · unfold stepE at h1
      split at h1
      · rename_i hb
        by_cases hp : e.port.toNat = p
        · rw [hp, List.getElem?_set] at h1
          simp at h1
          exact .inl ⟨e, by simp, hb, hp, h1.2.symm⟩
        · rw [List.getElem?_set_ne hp] at h1
          exact .inr h1
      · exact .inr h1
theorem fold_free (ids : List Int) (best : List Vec) (b : Int) (p : Nat) : ∀ (es : List En) (out : List Heard), (∀ e ∈ es, ¬ (e.at_ = b ∧ e.port.toNat = p)) → (es.foldl (stepE ids best b) out)[p]? = out[p]?
  | [], out, _ => rfl
  | e :: r, out, h => by
    rw [List.foldl_cons, fold_free ids best b p r _ (fun x hx => h x (by simp [hx]))]
    unfold stepE
    split
    · rename_i hb
      exact List.getElem?_set_ne (fun hp => h e (by simp) ⟨hb, hp⟩)
    · rfl
theorem fold_at' (ids : List Int) (best : List Vec) (b : Int) : ∀ (es : List En) (out : List Heard), Apart2 es → (∀ e ∈ es, 0 ≤ e.port) → ∀ e ∈ es, e.at_ = b → e.port.toNat < out.length → (es.foldl (stepE ids best b) out)[e.port.toNat]? = some (hv ids best e.to e.far e.cost)
  | [], _, _, _, e, he, _, _ => by simp at he
  | x :: r, out, ha, hp, e, he, hb, hl => by
    obtain ⟨h1, h2⟩ := List.pairwise_cons.1 ha
    rw [List.foldl_cons]
    have hlen : (stepE ids best b out x).length = out.length := by unfold stepE; split <;> simp
    rcases List.mem_cons.1 he with e1 | he
    · subst e1
      rw [fold_free ids best b e.port.toNat r _ (fun y hy hh => h1 y hy ⟨hb.trans hh.1.symm, by have := hp e (by simp); have := hp y (by simp [hy]); omega⟩)]
      unfold stepE
      rw [if_pos hb, List.getElem?_set]
      simp [hl]
    · exact fold_at' ids best b r _ h2 (fun y hy => hp y (by simp [hy])) e he hb (by rw [hlen]; exact hl)
theorem bestTo_hit (b : Int) (l : List Heard) : ∀ k, 0 ≤ (bestTo b l k).1 → ∃ h, l[(bestTo b l k).1.toNat]? = some h ∧ h.is = true ∧ h.v.bridge ≠ b ∧ te h.v h.cost = 0 ∧ (bestTo b l k).2 = tv h.v h.cost
  | 0, h => by simp [bestTo] at h
  | k + 1, h => by
    cases hk : l[k]? with
    | none =>
      have e : bestTo b l (k + 1) = bestTo b l k := by simp [bestTo, hk]
      rw [e] at h ⊢
      exact bestTo_hit b l k h
    | some x =>
      cases hb : better b (bestTo b l k).2 x with
      | true =>
        rw [bestTo_yes hk hb]
        rw [better_iff] at hb
        exact ⟨x, by simpa using hk, hb.1, hb.2.1, hb.2.2.1, rfl⟩
      | false =>
        rw [bestTo_no hk hb] at h ⊢
        exact bestTo_hit b l k h
def key (v : Vec) : Nat := v.root.toNat * 1099511627776 + v.cost.toNat
structure GoodV (r : Nat) (v : Vec) : Prop where
  r0 : 0 ≤ v.root
  c0 : 0 ≤ v.cost
  c1 : v.cost ≤ 200000000 * r
theorem key_le {r : Nat} (hr : r ≤ 20) {a b : Vec} (ha : GoodV r a) (hb : GoodV r b) (h : cmpV a b ≤ 0) : key a ≤ key b := by
  rw [cmpV_le_iff] at h
  have h1 := ha.c1
  have h2 := hb.c1
  have h3 := ha.c0
  have h4 := hb.c0
  have h5 := ha.r0
  have h6 := hb.r0
  have hc : (200000000 * r : Int) ≤ 4000000000 := by omega
  unfold key
  rcases h with h | ⟨h, h'⟩
  · have : a.root.toNat + 1 ≤ b.root.toNat := by omega
    have h7 := Nat.mul_le_mul_right 1099511627776 this
    omega
  · have : a.root.toNat = b.root.toNat := by omega
    rw [this]
    omega
/-- equal numbers: equal roots and costs -/
theorem key_eq {r : Nat} (hr : r ≤ 20) {a b : Vec} (ha : GoodV r a) (hb : GoodV r b) (h : key a = key b) : a.root = b.root ∧ a.cost = b.cost := by
  have h1 := ha.c1
  have h2 := hb.c1
  have h3 := ha.c0
  have h4 := hb.c0
  have h5 := ha.r0
  have h6 := hb.r0
  have hc : (200000000 * r : Int) ≤ 4000000000 := by omega
  unfold key at h
  have e1 : a.root.toNat = b.root.toNat := by omega
  exact ⟨by omega, by omega⟩
def edges (es : List En) : List Ed := (es.filter fun e => decide (e.to ≠ e.at_)).map fun e => (e.at_.toNat, e.to.toNat, e.cost.toNat)
def rv (ids : List Int) (es : List En) (r b : Nat) : Vec := (rest ids es r).getD b zv
theorem rv_next {ids : List Int} {es : List En} {r b : Nat} (hb : b < ids.length) : rv ids es (r + 1) b = (bestOf (ids.getD b 0) (heardE ids (rest ids es r) es b)).2 := by
  unfold rv
  show (nextTo ids (rest ids es r) es ids.length).getD b zv = _
  rw [List.getD_eq_getElem?_getD, nextTo_get ids _ es _ b hb]
  rfl
theorem rv_zero {ids : List Int} {es : List En} {b : Nat} (hb : b < ids.length) : rv ids es 0 b = own (ids.getD b 0) := by
  unfold rv
  show (ids.map own).getD b zv = _
  rw [List.getD_eq_getElem?_getD, List.getElem?_map, List.getElem?_eq_getElem hb, List.getD_eq_getElem?_getD, List.getElem?_eq_getElem hb]
  rfl
theorem id_ne {ids : List Int} (h : ids.Pairwise (· ≠ ·)) {a b : Nat} (ha : a < ids.length) (hb : b < ids.length) : ids.getD a 0 = ids.getD b 0 ↔ a = b := by
  rw [List.getD_eq_getElem?_getD, List.getElem?_eq_getElem ha, List.getD_eq_getElem?_getD, List.getElem?_eq_getElem hb]
  simp only [Option.getD_some]
  constructor
  · intro e
    rcases Nat.lt_trichotomy a b with h1 | h1 | h1
    · exact absurd e ((List.pairwise_iff_getElem.1 h) a b ha hb h1)
    · exact h1
    · exact absurd e.symm ((List.pairwise_iff_getElem.1 h) b a hb ha h1)
  · intro e
    subst e
    rfl
theorem id_pos {ids : List Int} (h : ∀ x ∈ ids, 0 ≤ x) (b : Nat) : 0 ≤ ids.getD b 0 := by
  rw [List.getD_eq_getElem?_getD]
  cases hb : ids[b]? with
  | none => simp
  | some x => exact h x (List.mem_of_getElem? hb)
section
variable {ids : List Int} {ls : List Lk}
/-- what comes in at an end whose far bridge is good -/
theorem tv_hv {es : List En} {r : Nat} (hr : r ≤ 15) {e : En} (hc : 1 ≤ e.cost ∧ e.cost ≤ 200000000) {t : Nat} (ht : e.to = t) (hg : GoodV r (rv ids es r t)) :
    te (hv ids (rest ids es r) e.to e.far e.cost).v (hv ids (rest ids es r) e.to e.far e.cost).cost = 0 ∧
    tv (hv ids (rest ids es r) e.to e.far e.cost).v (hv ids (rest ids es r) e.to e.far e.cost).cost = ⟨(rv ids es r t).root, (rv ids es r t).cost + e.cost, ids.getD t 0, e.far⟩ := by
  have h1 := hg.c0
  have h2 := hg.c1
  have e1 : hv ids (rest ids es r) e.to e.far e.cost = ⟨true, ⟨(rv ids es r t).root, (rv ids es r t).cost, ids.getD t 0, e.far⟩, e.cost⟩ := by
    unfold hv rv
    rw [ht, Int.toNat_natCast]
  rw [e1]
  have h3 := thr_yes ⟨(rv ids es r t).root, (rv ids es r t).cost, ids.getD t 0, e.far⟩ e.cost hc.1 hc.2 h1 (by simp only; omega)
  refine ⟨h3.2, ?_⟩
  rw [h3.1]
  rcases costTo_cases (rv ids es r t).cost e.cost with ⟨_, h⟩ | ⟨h, _⟩
  · simp only [h]
  · exfalso
    apply h
    omega
/-- one round: what it gives at a bridge -/
structure Step (ids : List Int) (es : List En) (r b : Nat) : Prop where
  own : cmpV (rv ids es (r + 1) b) (own (ids.getD b 0)) ≤ 0
  lo : ∀ e ∈ es, ∀ t : Nat, e.at_ = (b : Int) → e.to = (t : Int) → t ≠ b → cmpV (rv ids es (r + 1) b) ⟨(rv ids es r t).root, (rv ids es r t).cost + e.cost, ids.getD t 0, e.far⟩ ≤ 0
  at_ : ((bestOf (ids.getD b 0) (heardE ids (rest ids es r) es b)).1 = -1 ∧ rv ids es (r + 1) b = Prio.own (ids.getD b 0)) ∨
    ∃ e ∈ es, ∃ t : Nat, e.at_ = (b : Int) ∧ e.to = (t : Int) ∧ t ≠ b ∧ (bestOf (ids.getD b 0) (heardE ids (rest ids es r) es b)).1 = e.port ∧ rv ids es (r + 1) b = ⟨(rv ids es r t).root, (rv ids es r t).cost + e.cost, ids.getD t 0, e.far⟩
theorem not_lt_le {a b : Vec} (h : ¬ cmpV a b < 0) : cmpV b a ≤ 0 := by
  have := cmpV_anti a b
  omega
theorem step_of (hm : May ids ls) (r : Nat) (hr : r ≤ 15) (hg : ∀ b, b < ids.length → GoodV r (rv ids (endsOf ls) r b)) (b : Nat) (hb : b < ids.length) : Step ids (endsOf ls) r b := by
  have hlen : (none16 : List Heard).length = 16 := by simp [none16]
  have hports : ∀ e ∈ endsOf ls, 0 ≤ e.port := fun e he => (hm.ok e he).p0
  refine ⟨?_, fun e he t hat hto htb => ?_, ?_⟩
  · rw [rv_next hb]
    rcases bestOf_cases (ids.getD b 0) (heardE ids (rest ids (endsOf ls) r) (endsOf ls) b) with ⟨_, h⟩ | ⟨_, _, h⟩
    · rw [h, cmpV_self]; exact Int.le_refl _
    · omega
  · rw [rv_next hb]
    have hok := hm.ok e he
    have ht := hm.to_ he
    have htn : t < ids.length := by omega
    obtain ⟨h1, h2⟩ := tv_hv hr ⟨hok.c0, hok.c1⟩ hto (hg t htn)
    have hat' : (heardE ids (rest ids (endsOf ls) r) (endsOf ls) b)[e.port.toNat]? = some (hv ids (rest ids (endsOf ls) r) e.to e.far e.cost) := by
      unfold heardE
      exact fold_at' ids _ b _ _ hm.ap hports e he hat (by rw [hlen]; have := hok.p0; have := hok.p1; omega)
    have hbr : (hv ids (rest ids (endsOf ls) r) e.to e.far e.cost).v.bridge ≠ ids.getD b 0 := by
      show ids.getD e.to.toNat 0 ≠ _
      rw [hto, Int.toNat_natCast]
      exact fun h => htb ((id_ne hm.nd htn hb).1 h)
    have h3 := bestOf_least hat' rfl hbr h1
    rw [h2] at h3
    exact not_lt_le h3
  · rcases bestOf_cases (ids.getD b 0) (heardE ids (rest ids (endsOf ls) r) (endsOf ls) b) with ⟨h1, h2⟩ | ⟨h1, h2, _⟩
    · exact .inl ⟨h1, by rw [rv_next hb, h2]⟩
    · right
      obtain ⟨h, hl, hi, hbr, _, htv⟩ := bestTo_hit (ids.getD b 0) (heardE ids (rest ids (endsOf ls) r) (endsOf ls) b) _ h1
      generalize hj : (bestTo (ids.getD b 0) (heardE ids (rest ids (endsOf ls) r) (endsOf ls) b) (heardE ids (rest ids (endsOf ls) r) (endsOf ls) b).length).1 = j at *
      rcases fold_hit ids _ b _ _ _ _ hl with ⟨e, he, hat, hpt, rfl⟩ | h0
      · have hok := hm.ok e he
        have ht := hm.to_ he
        obtain ⟨t, hto⟩ : ∃ t : Nat, e.to = t := ⟨e.to.toNat, by omega⟩
        have htn : t < ids.length := by omega
        obtain ⟨_, h4⟩ := tv_hv hr ⟨hok.c0, hok.c1⟩ hto (hg t htn)
        have htb : t ≠ b := fun e2 => hbr (by
          show ids.getD e.to.toNat 0 = _
          rw [hto, Int.toNat_natCast, e2])
        refine ⟨e, he, t, hat, hto, htb, ?_, ?_⟩
        · have := hok.p0
          show (bestTo (ids.getD b 0) _ _).1 = e.port
          have h1' : 0 ≤ (bestTo (ids.getD b 0) (heardE ids (rest ids (endsOf ls) r) (endsOf ls) b) (heardE ids (rest ids (endsOf ls) r) (endsOf ls) b).length).1 := h1
          rw [hj] at h1' ⊢
          omega
        · rw [rv_next hb]
          show (bestTo (ids.getD b 0) _ _).2 = _
          rw [htv, h4]
      · exfalso
        have h9 := List.mem_of_getElem? h0
        unfold none16 at h9
        rw [List.eq_of_mem_replicate h9] at hi
        cases hi
theorem good_step (hm : May ids ls) (hid : ∀ x ∈ ids, 0 ≤ x) : ∀ r, r ≤ 14 → ∀ b, b < ids.length → GoodV r (rv ids (endsOf ls) r b)
  | 0, _, b, hb => by
    rw [rv_zero hb]
    exact ⟨id_pos hid b, Int.le_refl _, by simp [own]⟩
  | r + 1, hr, b, hb => by
    have hg := good_step hm hid r (by omega)
    have hs := step_of hm r (by omega) hg b hb
    rcases hs.at_ with ⟨_, h⟩ | ⟨e, he, t, _, hto, _, _, h⟩
    · rw [h]
      exact ⟨id_pos hid b, Int.le_refl _, by show (0 : Int) ≤ _; omega⟩
    · have hok := hm.ok e he
      have ht := hm.to_ he
      have hgt := hg t (by omega)
      have h1 := hgt.c0
      have h2 := hgt.c1
      have h3 := hok.c0
      have h4 := hok.c1
      rw [h]
      exact ⟨hgt.r0, by show 0 ≤ _ + _; omega, by show _ + _ ≤ _; omega⟩
end
end Go.Proofs.Ytdgbemafhhhceaa.Tree
