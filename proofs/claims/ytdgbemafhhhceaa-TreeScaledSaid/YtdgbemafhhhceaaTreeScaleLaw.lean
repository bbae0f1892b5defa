/-
  Scaled, as a plain law: other ids of the same order, and one bridge more that has no link, change no role.
-/
import Derived.Test.YtdgbemafhhhceaaTreeRootLaw
namespace Go.Proofs.Ytdgbemafhhhceaa.Tree
set_option linter.unusedVariables false
set_option linter.unusedSimpArgs false
open Go.Proofs.Ytdgbemafhhhceaa.Prio Go.Proofs.Ytdgbemafhhhceaa.Conv
def Mono (f : Int → Int) : Prop := ∀ x y, x < y → f x < f y
theorem Mono.lt {f : Int → Int} (hf : Mono f) (x y : Int) : f x < f y ↔ x < y := by
  constructor
  · intro h
    rcases Int.lt_trichotomy x y with h1 | h1 | h1
    · exact h1
    · subst h1; omega
    · have := hf y x h1; omega
  · exact hf x y
theorem Mono.eq {f : Int → Int} (hf : Mono f) (x y : Int) : f x = f y ↔ x = y := by
  constructor
  · intro h
    rcases Int.lt_trichotomy x y with h1 | h1 | h1
    · have := hf x y h1; omega
    · exact h1
    · have := hf y x h1; omega
  · intro h; rw [h]
def scV (f : Int → Int) (v : Vec) : Vec := ⟨f v.root, v.cost, f v.bridge, v.port⟩
def RelH (f : Int → Int) (h h' : Heard) : Prop := h'.is = h.is ∧ (h.is = true → h'.v = scV f h.v ∧ h'.cost = h.cost)
def RelL (f : Int → Int) (l l' : List Heard) : Prop := l'.length = l.length ∧ ∀ (i : Nat) (h h' : Heard), l[i]? = some h → l'[i]? = some h' → RelH f h h'
section
variable {f : Int → Int}
theorem cmp_sc (hf : Mono f) (a b : Vec) : cmpV (scV f a) (scV f b) = cmpV a b := by
  have h1 := hf.lt a.root b.root
  have h2 := hf.lt b.root a.root
  have h3 := hf.lt a.bridge b.bridge
  have h4 := hf.lt b.bridge a.bridge
  unfold cmpV scV cmpI
  simp only [h1, h2, h3, h4]
theorem te_sc (v : Vec) (c : Int) : te (scV f v) c = te v c := rfl
theorem tv_sc {v : Vec} {c : Int} (h : te v c = 0) : tv (scV f v) c = scV f (tv v c) := by
  unfold te at h
  have h1 : thrOk v c = true := by
    cases h2 : thrOk v c with
    | true => rfl
    | false => rw [h2] at h; simp at h
  have h2 : thrOk (scV f v) c = true := h1
  unfold tv
  rw [h1, h2]
  rfl
theorem own_sc (b : Int) : own (f b) = scV f (own b) := rfl
theorem better_sc (hf : Mono f) {b : Int} {best : Vec} {h h' : Heard} (hr : RelH f h h') : better (f b) (scV f best) h' = better b best h := by
  obtain ⟨h1, h2⟩ := hr
  cases hi : h.is with
  | false =>
    unfold better
    rw [h1, hi]
    rfl
  | true =>
    obtain ⟨h3, h4⟩ := h2 hi
    have e : better (f b) (scV f best) h' = true ↔ better b best h = true := by
      rw [better_iff, better_iff, h1, h3, h4, te_sc]
      have e1 : (scV f h.v).bridge ≠ f b ↔ h.v.bridge ≠ b := not_congr (hf.eq _ _)
      rw [e1]
      constructor
      · rintro ⟨k1, k2, k3, k4⟩
        rw [tv_sc k3, cmp_sc hf] at k4
        exact ⟨k1, k2, k3, k4⟩
      · rintro ⟨k1, k2, k3, k4⟩
        rw [tv_sc k3, cmp_sc hf]
        exact ⟨k1, k2, k3, k4⟩
    cases h5 : better b best h with
    | true => exact e.2 h5
    | false =>
      cases h6 : better (f b) (scV f best) h' with
      | false => rfl
      | true => rw [e.1 h6] at h5; cases h5
theorem bestTo_sc (hf : Mono f) (b : Int) {l l' : List Heard} (hl : RelL f l l') : ∀ k, bestTo (f b) l' k = ((bestTo b l k).1, scV f (bestTo b l k).2)
  | 0 => rfl
  | k + 1 => by
    have ih := bestTo_sc hf b hl k
    by_cases hk : k < l.length
    · have e1 : l[k]? = some l[k] := List.getElem?_eq_getElem hk
      have hk' : k < l'.length := by rw [hl.1]; exact hk
      have e2 : l'[k]? = some l'[k] := List.getElem?_eq_getElem hk'
      have hr := hl.2 k _ _ e1 e2
      have hb := better_sc hf (b := b) (best := (bestTo b l k).2) hr
      cases h5 : better b (bestTo b l k).2 l[k] with
      | true =>
        rw [h5] at hb
        have h6 := (better_iff _ _ _).1 h5
        obtain ⟨h7, h8⟩ := hr.2 h6.1
        rw [bestTo_yes e1 h5, bestTo_yes e2 (by rw [ih]; exact hb), h7, h8, tv_sc h6.2.2.1]
      | false =>
        rw [h5] at hb
        rw [bestTo_no e1 h5, bestTo_no e2 (by rw [ih]; exact hb), ih]
    · have e1 : l[k]? = none := List.getElem?_eq_none (by omega)
      have e2 : l'[k]? = none := List.getElem?_eq_none (by rw [hl.1]; omega)
      have e3 : bestTo b l (k + 1) = bestTo b l k := by simp [bestTo, e1]
      have e4 : bestTo (f b) l' (k + 1) = bestTo (f b) l' k := by simp [bestTo, e2]
      rw [e3, e4, ih]
theorem bestOf_sc (hf : Mono f) (b : Int) {l l' : List Heard} (hl : RelL f l l') : bestOf (f b) l' = ((bestOf b l).1, scV f (bestOf b l).2) := by
  unfold bestOf
  rw [hl.1]
  exact bestTo_sc hf b hl _
theorem roleAt_sc (hf : Mono f) {b : Int} {st : Int × Vec} {i : Nat} {h h' : Heard} (hr : RelH f h h') : roleAt (f b) (st.1, scV f st.2) i h' = roleAt b st i h := by
  have e : (h'.is = false ∨ cmpV ⟨(scV f st.2).root, (scV f st.2).cost, f b, i⟩ h'.v ≤ 0) ↔ (h.is = false ∨ cmpV ⟨st.2.root, st.2.cost, b, i⟩ h.v ≤ 0) := by
    rw [hr.1]
    cases hi : h.is with
    | false => simp
    | true =>
      rw [(hr.2 hi).1]
      have := cmp_sc hf ⟨st.2.root, st.2.cost, b, i⟩ h.v
      have e2 : scV f ⟨st.2.root, st.2.cost, b, i⟩ = ⟨(scV f st.2).root, (scV f st.2).cost, f b, i⟩ := rfl
      rw [e2] at this
      rw [this]
  unfold roleAt
  simp only [e]
theorem rolesTo_sc (hf : Mono f) (b : Int) (st : Int × Vec) {l l' : List Heard} (hl : RelL f l l') : ∀ k, rolesTo (f b) (st.1, scV f st.2) l' k = rolesTo b st l k
  | 0 => rfl
  | k + 1 => by
    have ih := rolesTo_sc hf b st hl k
    by_cases hk : k < l.length
    · have e1 : l[k]? = some l[k] := List.getElem?_eq_getElem hk
      have hk' : k < l'.length := by rw [hl.1]; exact hk
      have e2 : l'[k]? = some l'[k] := List.getElem?_eq_getElem hk'
      rw [rolesTo_step e1 rfl, rolesTo_step e2 (roleAt_sc hf (hl.2 k _ _ e1 e2)), ih]
    · have e1 : l[k]? = none := List.getElem?_eq_none (by omega)
      have e2 : l'[k]? = none := List.getElem?_eq_none (by rw [hl.1]; omega)
      have e3 : rolesTo b st l (k + 1) = rolesTo b st l k := by simp [rolesTo, e1]
      have e4 : rolesTo (f b) (st.1, scV f st.2) l' (k + 1) = rolesTo (f b) (st.1, scV f st.2) l' k := by simp [rolesTo, e2]
      rw [e3, e4, ih]
theorem rolesOf_sc (hf : Mono f) (b : Int) {l l' : List Heard} (hl : RelL f l l') : rolesOf (f b) l' = rolesOf b l := by
  unfold rolesOf
  rw [bestOf_sc hf b hl, hl.1]
  exact rolesTo_sc hf b (bestOf b l) hl _
theorem RelL.set {l l' : List Heard} (hl : RelL f l l') (p : Nat) {h h' : Heard} (hr : RelH f h h') : RelL f (l.set p h) (l'.set p h') := by
  refine ⟨by simp [hl.1], fun i x x' hx hx' => ?_⟩
  by_cases hp : p = i
  · rw [hp, List.getElem?_set] at hx hx'
    simp at hx hx'
    rw [← hx.2, ← hx'.2]
    exact hr
  · rw [List.getElem?_set_ne hp] at hx hx'
    exact hl.2 i x x' hx hx'
theorem rel_none : RelL f none16 none16 := by
  refine ⟨rfl, fun i h h' e1 e2 => ?_⟩
  have h1 : h = zh := by
    have := List.mem_of_getElem? e1
    unfold none16 at this
    exact List.eq_of_mem_replicate this
  have h2 : h' = zh := by
    have := List.mem_of_getElem? e2
    unfold none16 at this
    exact List.eq_of_mem_replicate this
  subst h1
  subst h2
  exact ⟨rfl, fun h => by cases h⟩
/-- bridges and their best, in other words -/
def Sim (f : Int → Int) (n : Nat) (ids ids' : List Int) (best best' : List Vec) : Prop := ∀ b, b < n → ids'.getD b 0 = f (ids.getD b 0) ∧ (best'.getD b zv).root = f (best.getD b zv).root ∧ (best'.getD b zv).cost = (best.getD b zv).cost
theorem hv_sc {n : Nat} {ids ids' : List Int} {best best' : List Vec} (hs : Sim f n ids ids' best best') {to : Int} (h0 : 0 ≤ to) (h1 : to < n) (far cost : Int) : RelH f (hv ids best to far cost) (hv ids' best' to far cost) := by
  obtain ⟨k1, k2, k3⟩ := hs to.toNat (by omega)
  refine ⟨rfl, fun _ => ⟨?_, rfl⟩⟩
  unfold hv scV
  simp only
  rw [k1, k2, k3]
theorem fold_sc {n : Nat} {ids ids' : List Int} {best best' : List Vec} (hs : Sim f n ids ids' best best') (b : Int) : ∀ (es : List En), (∀ e ∈ es, 0 ≤ e.to ∧ e.to < n) → ∀ (out out' : List Heard), RelL f out out' → RelL f (es.foldl (stepE ids best b) out) (es.foldl (stepE ids' best' b) out')
  | [], _, _, _, h => h
  | e :: r, he, out, out', h => by
    rw [List.foldl_cons, List.foldl_cons]
    refine fold_sc hs b r (fun x hx => he x (by simp [hx])) _ _ ?_
    unfold stepE
    obtain ⟨h0, h1⟩ := he e (by simp)
    by_cases hb : e.at_ = b
    · rw [if_pos hb, if_pos hb]
      exact h.set _ (hv_sc hs h0 h1 _ _)
    · rw [if_neg hb, if_neg hb]
      exact h
theorem heard_sc {n : Nat} {ids ids' : List Int} {best best' : List Vec} (hs : Sim f n ids ids' best best') {es : List En} (he : ∀ e ∈ es, 0 ≤ e.to ∧ e.to < n) (b : Int) : RelL f (heardE ids best es b) (heardE ids' best' es b) := fold_sc hs b es he _ _ rel_none
theorem next_at {ids : List Int} {es : List En} {r b : Nat} (hb : b < ids.length) : (rest ids es (r + 1)).getD b zv = (bestOf (ids.getD b 0) (heardE ids (rest ids es r) es b)).2 := rv_next hb
theorem rest_sc (hf : Mono f) {ids ids' : List Int} {es : List En} (hlen : ids.length ≤ ids'.length) (hid : ∀ b, b < ids.length → ids'.getD b 0 = f (ids.getD b 0)) (he : ∀ e ∈ es, 0 ≤ e.to ∧ e.to < ids.length) : ∀ r, Sim f ids.length ids ids' (rest ids es r) (rest ids' es r)
  | 0 => by
    intro b hb
    have h1 : (rest ids es 0).getD b zv = own (ids.getD b 0) := rv_zero hb
    have h2 : (rest ids' es 0).getD b zv = own (ids'.getD b 0) := rv_zero (Nat.lt_of_lt_of_le hb hlen)
    rw [h1, h2, hid b hb]
    exact ⟨rfl, rfl, rfl⟩
  | r + 1 => by
    intro b hb
    have ih := rest_sc hf hlen hid he r
    have hr := heard_sc ih he (b : Int)
    rw [next_at hb, next_at (Nat.lt_of_lt_of_le hb hlen), hid b hb, bestOf_sc hf _ hr]
    exact ⟨rfl, rfl, rfl⟩
end
section
variable {ids : List Int} {ls : List Lk}
theorem pairs_sc {f : Int → Int} (hf : Mono f) (hm : May ids ls) {ids' : List Int} (hs : Sim f ids.length ids ids' (atRest ids ls) (atRest ids' ls)) : restOf ids' ls = restOf ids ls := by
  unfold restOf
  refine List.map_congr_left fun l hl => ?_
  obtain ⟨a, b, e1, e2, ha, hb⟩ := link_nat hm hl
  have he : ∀ e ∈ endsOf ls, 0 ≤ e.to ∧ e.to < ids.length := fun e he => by
    have := hm.to_ he
    exact ⟨this.1, this.2.1⟩
  have hro : ∀ c : Nat, c < ids.length → rolesB ids' ls (c : Int) = rolesB ids ls (c : Int) := fun c hc => by
    unfold rolesB
    rw [Int.toNat_natCast, (hs c hc).1]
    exact rolesOf_sc hf _ (heard_sc hs he _)
  unfold pairOf
  rw [e1, e2, hro a ha, hro b hb]
def sc (x : Int) : Int := 2 * (x + 1)
theorem sc_mono : Mono sc := fun x y h => by unfold sc; omega
theorem sc_at {b : Nat} (hb : b < ids.length) : (ids.map sc).getD b 0 = sc (ids.getD b 0) := by
  rw [List.getD_eq_getElem?_getD, List.getElem?_map, List.getElem?_eq_getElem hb, List.getD_eq_getElem?_getD, List.getElem?_eq_getElem hb]
  rfl
theorem sc1_at {b : Nat} (hb : b < ids.length) : (ids.map sc ++ [1]).getD b 0 = sc (ids.getD b 0) := by
  rw [← sc_at hb, List.getD_eq_getElem?_getD, List.getElem?_append_left (by rw [List.length_map]; exact hb), List.getD_eq_getElem?_getD]
theorem scaled_one (hm : May ids ls) : restOf (ids.map sc) ls = restOf ids ls := by
  refine pairs_sc sc_mono hm ?_
  unfold atRest
  rw [List.length_map]
  exact rest_sc sc_mono (by rw [List.length_map]; exact Nat.le_refl _) (fun b hb => sc_at hb) (fun e he => ⟨(hm.to_ he).1, (hm.to_ he).2.1⟩) _
theorem scaled_two (hm : May ids ls) (hid : ∀ x ∈ ids, 0 ≤ x) : restOf (ids.map sc ++ [1]) ls = restOf ids ls := by
  refine pairs_sc sc_mono hm ?_
  unfold atRest
  have hlen : (ids.map sc ++ [1]).length = ids.length + 1 := by rw [List.length_append, List.length_map]; rfl
  rw [hlen]
  have h := rest_sc sc_mono (ids := ids) (ids' := ids.map sc ++ [1]) (es := endsOf ls) (by omega) (fun b hb => sc1_at hb) (fun e he => ⟨(hm.to_ he).1, (hm.to_ he).2.1⟩) (ids.length + 1)
  intro b hb
  obtain ⟨h1, h2, h3⟩ := h b hb
  have hn := hm.n2
  obtain ⟨e1, e2⟩ := rest_more hm hid (r := ids.length) (by omega) (by omega) hb
  unfold rv at e1 e2
  exact ⟨h1, by rw [h2, e1], by rw [h3, e2]⟩
theorem may_sc (hm : May ids ls) : May (ids.map sc) ls := by
  refine ⟨by rw [List.length_map]; exact hm.n1, by rw [List.length_map]; exact hm.n2, hm.l, ?_, by rw [List.length_map]; exact hm.ok, hm.ap⟩
  rw [List.pairwise_map]
  exact hm.nd.imp fun h e => h ((sc_mono.eq _ _).1 e)
theorem may_sc1 (hm : May ids ls) (hn : ids.length ≤ 11) : May (ids.map sc ++ [1]) ls := by
  have hlen : (ids.map sc ++ [1]).length = ids.length + 1 := by rw [List.length_append, List.length_map]; rfl
  refine ⟨by omega, by omega, hm.l, ?_, fun e he => ?_, hm.ap⟩
  · rw [List.pairwise_append]
    refine ⟨(may_sc hm).nd, List.pairwise_singleton _ _, fun x hx y hy => ?_⟩
    obtain ⟨z, _, rfl⟩ := List.mem_map.1 hx
    have := List.mem_singleton.1 hy
    subst this
    unfold sc
    omega
  · have h := hm.ok e he
    rw [hlen]
    exact ⟨h.a0, by have := h.a1; omega, h.p0, h.p1, h.c0, h.c1⟩
end
end Go.Proofs.Ytdgbemafhhhceaa.Tree
