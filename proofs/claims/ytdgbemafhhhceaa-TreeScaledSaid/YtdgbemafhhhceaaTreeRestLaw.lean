/-
  The rest, as a plain law, continued: nothing changes any more; what the roles at the ends are.
-/
import Derived.Test.YtdgbemafhhhceaaTreeRestMath
namespace Go.Proofs.Ytdgbemafhhhceaa.Tree
set_option linter.unusedVariables false
set_option linter.unusedSimpArgs false
open Go.Proofs.Ytdgbemafhhhceaa.Prio Go.Proofs.Ytdgbemafhhhceaa.Conv
section
variable {ids : List Int} {ls : List Lk}
theorem edges_ok (hm : May ids ls) : EOk ids.length (edges (endsOf ls)) := by
  intro x hx
  obtain ⟨e, he, rfl⟩ := List.mem_map.1 hx
  have he := (List.mem_filter.1 he).1
  have h1 := hm.ok e he
  have h2 := hm.to_ he
  have a0 := h1.a0
  have a1 := h1.a1
  have c0 := h1.c0
  exact ⟨by show e.at_.toNat < _; omega, by show e.to.toNat < _; omega, by show 1 ≤ e.cost.toNat; omega⟩
def D0 (ids : List Int) (b : Nat) : Nat := key (own (ids.getD b 0))
theorem good_own (hid : ∀ x ∈ ids, 0 ≤ x) (r b : Nat) : GoodV r (own (ids.getD b 0)) := ⟨id_pos hid b, Int.le_refl _, by show (0 : Int) ≤ _; omega⟩
theorem good_far (hm : May ids ls) {r : Nat} {e : En} (he : e ∈ endsOf ls) {v : Vec} (hv : GoodV r v) (x y : Int) : GoodV (r + 1) ⟨v.root, v.cost + e.cost, x, y⟩ := by
  have hok := hm.ok e he
  have h1 := hv.c0
  have h2 := hv.c1
  have h3 := hok.c0
  have h4 := hok.c1
  exact ⟨hv.r0, by show 0 ≤ _ + _; omega, by show _ + _ ≤ _; omega⟩
theorem key_far {v : Vec} {c : Int} (h0 : 0 ≤ v.cost) (hc : 0 ≤ c) (x y : Int) : key ⟨v.root, v.cost + c, x, y⟩ = key v + c.toNat := by
  unfold key
  simp only
  omega
theorem isF_of (hm : May ids ls) (hid : ∀ x ∈ ids, 0 ≤ x) (r : Nat) (hr : r ≤ 13) : IsF ids.length (D0 ids) (edges (endsOf ls)) (fun b => key (rv ids (endsOf ls) r b)) (fun b => key (rv ids (endsOf ls) (r + 1) b)) := by
  have hg := good_step hm hid r (by omega)
  have hg1 := good_step hm hid (r + 1) (by omega)
  refine ⟨fun b hb => ?_, fun x hx hxb => ?_, fun b hb => ?_⟩
  · exact key_le (r := r + 1) (by omega) (hg1 b hb) (good_own hid _ b) (step_of hm r (by omega) hg b hb).own
  · obtain ⟨e, he, rfl⟩ := List.mem_map.1 hx
    obtain ⟨he, hne⟩ := List.mem_filter.1 he
    have hne : e.to ≠ e.at_ := of_decide_eq_true hne
    have hok := hm.ok e he
    have ht := hm.to_ he
    have a0 := hok.a0
    have c0 := hok.c0
    obtain ⟨b, hb⟩ : ∃ b : Nat, e.at_ = b := ⟨e.at_.toNat, by omega⟩
    obtain ⟨t, hto⟩ : ∃ t : Nat, e.to = t := ⟨e.to.toNat, by omega⟩
    have hbn : b < ids.length := by have := hok.a1; omega
    have htn : t < ids.length := by omega
    have h1 := (step_of hm r (by omega) hg b hbn).lo e he t hb hto (by omega)
    have h2 := key_le (r := r + 1) (by omega) (hg1 b hbn) (good_far hm he (hg t htn) _ _) h1
    rw [key_far (hg t htn).c0 (by omega)] at h2
    show key (rv ids (endsOf ls) (r + 1) e.at_.toNat) ≤ key (rv ids (endsOf ls) r e.to.toNat) + e.cost.toNat
    rw [hb, hto, Int.toNat_natCast, Int.toNat_natCast]
    exact h2
  · rcases (step_of hm r (by omega) hg b hb).at_ with ⟨_, h⟩ | ⟨e, he, t, hat, hto, htb, _, h⟩
    · exact .inl (by show key _ = _; rw [h]; rfl)
    · right
      have hok := hm.ok e he
      have ht := hm.to_ he
      have c0 := hok.c0
      refine ⟨(e.at_.toNat, e.to.toNat, e.cost.toNat), List.mem_map.2 ⟨e, List.mem_filter.2 ⟨he, decide_eq_true (by omega)⟩, rfl⟩, by show e.at_.toNat = b; omega, ?_⟩
      show key _ = key (rv ids (endsOf ls) r e.to.toNat) + e.cost.toNat
      rw [h, hto, Int.toNat_natCast, key_far (hg t (by omega)).c0 (by omega)]
theorem key_S (hm : May ids ls) (hid : ∀ x ∈ ids, 0 ≤ x) : ∀ r, r ≤ 14 → ∀ b, b < ids.length → key (rv ids (endsOf ls) r b) = S (D0 ids) (edges (endsOf ls)) r b
  | 0, _, b, hb => by rw [rv_zero hb]; rfl
  | r + 1, hr, b, hb => IsF.one (edges_ok hm) (isF_of hm hid r (by omega)) (S_is r) (key_S hm hid r (by omega)) b hb
/-- behind all rounds nothing changes any more -/
theorem rest_more (hm : May ids ls) (hid : ∀ x ∈ ids, 0 ≤ x) {r : Nat} (h1 : ids.length ≤ r + 1) (h2 : r ≤ 13) {b : Nat} (hb : b < ids.length) : (rv ids (endsOf ls) (r + 1) b).root = (rv ids (endsOf ls) r b).root ∧ (rv ids (endsOf ls) (r + 1) b).cost = (rv ids (endsOf ls) r b).cost := by
  have e := rests (edges_ok hm) (D0 := D0 ids) r b h1 hb
  rw [← key_S hm hid (r + 1) (by omega) b hb, ← key_S hm hid r (by omega) b hb] at e
  have g0 := good_step hm hid r (by omega) b hb
  have g1 := good_step hm hid (r + 1) (by omega) b hb
  exact key_eq (r := r + 1) (by omega) g1 ⟨g0.r0, g0.c0, by have := g0.c1; omega⟩ e
end
/-- root and cost at rest; the best of a bridge then -/
def Rt (ids : List Int) (ls : List Lk) (b : Nat) : Int := (rv ids (endsOf ls) ids.length b).root
def Ct (ids : List Int) (ls : List Lk) (b : Nat) : Int := (rv ids (endsOf ls) ids.length b).cost
def St (ids : List Int) (ls : List Lk) (b : Nat) : Int × Vec := bestOf (ids.getD b 0) (heardE ids (atRest ids ls) (endsOf ls) b)
structure RestAt (ids : List Int) (ls : List Lk) (b : Nat) : Prop where
  root : (St ids ls b).2.root = Rt ids ls b
  cost : (St ids ls b).2.cost = Ct ids ls b
  own : Rt ids ls b ≤ ids.getD b 0
  lo : ∀ e ∈ endsOf ls, ∀ t : Nat, e.at_ = (b : Int) → e.to = (t : Int) → t ≠ b → Rt ids ls b < Rt ids ls t ∨ (Rt ids ls b = Rt ids ls t ∧ Ct ids ls b ≤ Ct ids ls t + e.cost)
  at_ : ((St ids ls b).1 = -1 ∧ Rt ids ls b = ids.getD b 0 ∧ Ct ids ls b = 0) ∨
    ∃ e ∈ endsOf ls, ∃ t : Nat, e.at_ = (b : Int) ∧ e.to = (t : Int) ∧ t ≠ b ∧ (St ids ls b).1 = e.port ∧ Rt ids ls b = Rt ids ls t ∧ Ct ids ls b = Ct ids ls t + e.cost ∧ cmpV (St ids ls b).2 (Prio.own (ids.getD b 0)) < 0
  c0 : 0 ≤ Ct ids ls b
  c1 : Ct ids ls b ≤ 200000000 * ids.length
section
variable {ids : List Int} {ls : List Lk}
theorem rest_at (hm : May ids ls) (hid : ∀ x ∈ ids, 0 ≤ x) {b : Nat} (hb : b < ids.length) : RestAt ids ls b := by
  have hn := hm.n2
  have hg := good_step hm hid ids.length (by omega)
  have hs := step_of hm ids.length (by omega) hg b hb
  obtain ⟨e1, e2⟩ := rest_more hm hid (r := ids.length) (by omega) (by omega) hb
  have e3 : rv ids (endsOf ls) (ids.length + 1) b = (St ids ls b).2 := rv_next hb
  have hgb := hg b hb
  have hown := hs.own
  rw [e3] at e1 e2
  refine ⟨e1, e2, ?_, fun e he t h1 h2 h3 => ?_, ?_, hgb.c0, hgb.c1⟩
  · rw [e3, cmpV_le_iff, e1, e2] at hown
    show (rv ids (endsOf ls) ids.length b).root ≤ _
    have h5 : (own (ids.getD b 0)).root = ids.getD b 0 := rfl
    rw [h5] at hown
    omega
  · have h4 := hs.lo e he t h1 h2 h3
    rw [e3, cmpV_le_iff, e1, e2] at h4
    unfold Rt Ct
    simp only at h4
    omega
  · rcases hs.at_ with ⟨h1, h2⟩ | ⟨e, he, t, h1, h2, h3, h4, h5⟩
    · left
      rw [e3] at h2
      refine ⟨h1, ?_, ?_⟩
      · show (rv ids (endsOf ls) ids.length b).root = _
        rw [← e1, h2]
        rfl
      · show (rv ids (endsOf ls) ids.length b).cost = _
        rw [← e2, h2]
        rfl
    · right
      rw [e3] at h5
      refine ⟨e, he, t, h1, h2, h3, h4, ?_, ?_, ?_⟩
      · show (rv ids (endsOf ls) ids.length b).root = (rv ids (endsOf ls) ids.length t).root
        rw [← e1, h5]
      · show (rv ids (endsOf ls) ids.length b).cost = (rv ids (endsOf ls) ids.length t).cost + e.cost
        rw [← e2, h5]
      · rcases bestOf_cases (ids.getD b 0) (heardE ids (atRest ids ls) (endsOf ls) b) with ⟨k, _⟩ | ⟨_, _, k⟩
        · have h6 := (hm.ok e he).p0
          have h7 : (St ids ls b).1 = -1 := k
          have h8 : (St ids ls b).1 = e.port := h4
          omega
        · exact k
/-- the role at an end -/
def roleE (ids : List Int) (ls : List Lk) (e : En) : Int := (rolesB ids ls e.at_).getD e.port.toNat 0
theorem pair_roles (l : Lk) : pairOf ids ls l = (roleE ids ls ⟨l.a, l.pa, l.b, l.pb, l.cost⟩, roleE ids ls ⟨l.b, l.pb, l.a, l.pa, l.cost⟩) := rfl
theorem same_end (hm : May ids ls) {x y : En} (hx : x ∈ endsOf ls) (hy : y ∈ endsOf ls) (h : SamePort x y) : x = y := by
  have : ∀ {l : List En}, Apart2 l → ∀ x ∈ l, ∀ y ∈ l, SamePort x y → x = y := by
    intro l
    induction l with
    | nil => intro _ x hx; simp at hx
    | cons a r ih =>
      intro ha x hx y hy hs
      obtain ⟨h1, h2⟩ := List.pairwise_cons.1 ha
      rcases List.mem_cons.1 hx with ex | hx2
      · rcases List.mem_cons.1 hy with ey | hy2
        · rw [ex, ey]
        · exact absurd (ex ▸ hs) (h1 y hy2)
      · rcases List.mem_cons.1 hy with ey | hy2
        · exact absurd ⟨(ey ▸ hs).1.symm, (ey ▸ hs).2.symm⟩ (h1 x hx2)
        · exact ih h2 x hx2 y hy2 hs
  exact this hm.ap x hx y hy h
def keyV (ids : List Int) (ls : List Lk) (b : Nat) (p : Int) : Vec := ⟨Rt ids ls b, Ct ids ls b, ids.getD b 0, p⟩
theorem role_cases (hm : May ids ls) (hid : ∀ x ∈ ids, 0 ≤ x) {e : En} (he : e ∈ endsOf ls) {b t : Nat} (hb : e.at_ = (b : Int)) (ht : e.to = (t : Int)) :
    ((St ids ls b).1 = e.port ∧ roleE ids ls e = 1 ∧ t ≠ b ∧ Rt ids ls b = Rt ids ls t ∧ Ct ids ls b = Ct ids ls t + e.cost) ∨
    ((St ids ls b).1 ≠ e.port ∧ roleE ids ls e = 2 ∧ cmpV (keyV ids ls b e.port) (keyV ids ls t e.far) ≤ 0) ∨
    ((St ids ls b).1 ≠ e.port ∧ roleE ids ls e = 3 ∧ ¬ cmpV (keyV ids ls b e.port) (keyV ids ls t e.far) ≤ 0) := by
  have hok := hm.ok e he
  have hto := hm.to_ he
  have hbn : b < ids.length := by have := hok.a1; omega
  have htn : t < ids.length := by omega
  have hr := rest_at hm hid hbn
  have hp0 := hok.p0
  have hp1 := hok.p1
  have hat : (heardE ids (atRest ids ls) (endsOf ls) b)[e.port.toNat]? = some (hv ids (atRest ids ls) e.to e.far e.cost) := by
    unfold heardE
    exact fold_at' ids _ b _ _ hm.ap (fun e he => (hm.ok e he).p0) e he hb (by simp [none16]; omega)
  have hro := rolesOf_at (b := ids.getD b 0) hat
  have e1 : roleE ids ls e = roleAt (ids.getD b 0) (St ids ls b) e.port.toNat (hv ids (atRest ids ls) e.to e.far e.cost) := by
    unfold roleE rolesB
    rw [hb, Int.toNat_natCast, List.getD_eq_getElem?_getD, hro]
    rfl
  have e2 : (hv ids (atRest ids ls) e.to e.far e.cost).v = keyV ids ls t e.far := by
    unfold hv keyV Rt Ct rv
    rw [ht, Int.toNat_natCast]
    rfl
  by_cases h1 : ((e.port.toNat : Nat) : Int) = (St ids ls b).1
  · left
    have h2 : (St ids ls b).1 = e.port := by omega
    refine ⟨h2, by rw [e1, roleAt_1 h1], ?_⟩
    rcases hr.at_ with ⟨h3, _⟩ | ⟨x, hx, t', k1, k2, k3, k4, k5, k6, _⟩
    · omega
    · have hxe : x = e := same_end hm hx he ⟨k1.trans hb.symm, by omega⟩
      subst hxe
      have : t' = t := by omega
      subst this
      exact ⟨k3, k5, k6⟩
  · right
    have h2 : (St ids ls b).1 ≠ e.port := by omega
    have h3 : (⟨(St ids ls b).2.root, (St ids ls b).2.cost, ids.getD b 0, (e.port.toNat : Nat)⟩ : Vec) = keyV ids ls b e.port := by
      unfold keyV
      rw [hr.root, hr.cost, Int.toNat_of_nonneg hp0]
    by_cases h4 : cmpV (keyV ids ls b e.port) (keyV ids ls t e.far) ≤ 0
    · left
      refine ⟨h2, ?_, h4⟩
      rw [e1]
      unfold roleAt
      rw [if_neg h1, e2, h3, if_pos (.inr h4)]
    · right
      refine ⟨h2, ?_, h4⟩
      rw [e1]
      unfold roleAt
      rw [if_neg h1, e2, h3, if_neg]
      rintro (h | h)
      · cases h
      · exact h4 h
theorem two_apart (hm : May ids ls) {l : Lk} (hl : l ∈ ls) : ¬ SamePort (⟨l.a, l.pa, l.b, l.pb, l.cost⟩ : En) ⟨l.b, l.pb, l.a, l.pa, l.cost⟩ := by
  obtain ⟨s, t, rfl⟩ := List.append_of_mem hl
  have h := hm.ap
  unfold endsOf Apart2 at h
  rw [List.flatMap_append, List.pairwise_append] at h
  have h2 := h.2.1
  rw [List.flatMap_cons] at h2
  exact (List.pairwise_cons.1 h2).1 _ (by simp)
/-- of each link just one end is Designated; the other one is Root or Alternate -/
theorem one_of (hm : May ids ls) (hid : ∀ x ∈ ids, 0 ≤ x) {l : Lk} (hl : l ∈ ls) : ((pairOf ids ls l).1 = 2 ∧ ((pairOf ids ls l).2 = 1 ∨ (pairOf ids ls l).2 = 3)) ∨ ((pairOf ids ls l).2 = 2 ∧ ((pairOf ids ls l).1 = 1 ∨ (pairOf ids ls l).1 = 3)) := by
  rw [pair_roles]
  have h1 : (⟨l.a, l.pa, l.b, l.pb, l.cost⟩ : En) ∈ endsOf ls := List.mem_flatMap.2 ⟨l, hl, by simp [two]⟩
  have h2 : (⟨l.b, l.pb, l.a, l.pa, l.cost⟩ : En) ∈ endsOf ls := List.mem_flatMap.2 ⟨l, hl, by simp [two]⟩
  have k1 := hm.ok _ h1
  have k2 := hm.ok _ h2
  have c0 : 1 ≤ l.cost := k1.c0
  obtain ⟨a, ha⟩ : ∃ a : Nat, l.a = a := ⟨l.a.toNat, by have : 0 ≤ l.a := k1.a0; omega⟩
  obtain ⟨b, hb⟩ : ∃ b : Nat, l.b = b := ⟨l.b.toNat, by have : 0 ≤ l.b := k2.a0; omega⟩
  have han : a < ids.length := by have : l.a < ids.length := k1.a1; omega
  have hbn : b < ids.length := by have : l.b < ids.length := k2.a1; omega
  have r1 := role_cases hm hid h1 ha hb
  have r2 := role_cases hm hid h2 hb ha
  simp only at r1 r2
  have hne : ¬ (cmpV (keyV ids ls a l.pa) (keyV ids ls b l.pb) ≤ 0 ∧ cmpV (keyV ids ls b l.pb) (keyV ids ls a l.pa) ≤ 0) := by
    rintro ⟨q1, q2⟩
    have q3 := cmpV_anti (keyV ids ls a l.pa) (keyV ids ls b l.pb)
    have q4 := cmpV_zero _ _ (show cmpV (keyV ids ls a l.pa) (keyV ids ls b l.pb) = 0 by omega)
    unfold keyV at q4
    simp only [Vec.mk.injEq] at q4
    obtain ⟨_, _, q5, q6⟩ := q4
    have q7 : a = b := (id_ne hm.nd han hbn).1 q5
    have q8 := two_apart hm hl
    exact q8 ⟨by show l.a = l.b; omega, q6⟩
  have hor : cmpV (keyV ids ls a l.pa) (keyV ids ls b l.pb) ≤ 0 ∨ cmpV (keyV ids ls b l.pb) (keyV ids ls a l.pa) ≤ 0 := by
    have q3 := cmpV_anti (keyV ids ls a l.pa) (keyV ids ls b l.pb)
    omega
  have hroot : ∀ {x y : Nat} {p q : Int}, Rt ids ls x = Rt ids ls y → Ct ids ls x = Ct ids ls y + l.cost → ¬ cmpV (keyV ids ls x p) (keyV ids ls y q) ≤ 0 := by
    intro x y p q q1 q2 q3
    rw [cmpV_le_iff] at q3
    unfold keyV at q3
    simp only at q3
    omega
  rcases r1 with ⟨_, s1, _, s3, s4⟩ | ⟨_, s1, s2⟩ | ⟨_, s1, s2⟩
  · have q := hroot (p := l.pa) (q := l.pb) s3 s4
    rcases r2 with ⟨_, t1, _, t3, t4⟩ | ⟨_, t1, t2⟩ | ⟨_, t1, t2⟩
    · have q' := hroot (p := l.pb) (q := l.pa) t3 t4
      omega
    · exact .inr ⟨t1, .inl s1⟩
    · exact absurd hor (by rintro (h | h); exact q h; exact t2 h)
  · rcases r2 with ⟨_, t1, _, t3, t4⟩ | ⟨_, t1, t2⟩ | ⟨_, t1, t2⟩
    · exact .inl ⟨s1, .inl t1⟩
    · exact absurd ⟨s2, t2⟩ hne
    · exact .inl ⟨s1, .inr t1⟩
  · rcases r2 with ⟨_, t1, _, t3, t4⟩ | ⟨_, t1, t2⟩ | ⟨_, t1, t2⟩
    · have q' := hroot (p := l.pb) (q := l.pa) t3 t4
      exact absurd hor (by rintro (h | h); exact s2 h; exact q' h)
    · exact .inr ⟨t1, .inr s1⟩
    · exact absurd hor (by rintro (h | h); exact s2 h; exact t2 h)
end
end Go.Proofs.Ytdgbemafhhhceaa.Tree
