/-
  Roots, as a plain law: a bridge has just one Root end, if a lesser one hangs together with it, and else none.
-/
import Derived.Test.YtdgbemafhhhceaaTreeRestLaw
import Derived.Test.YtdgbemafhhhceaaTreeConn
namespace Go.Proofs.Ytdgbemafhhhceaa.Tree
set_option linter.unusedVariables false
set_option linter.unusedSimpArgs false
open Go.Proofs.Ytdgbemafhhhceaa.Prio Go.Proofs.Ytdgbemafhhhceaa.Conv
section
variable {ids : List Int} {ls : List Lk}
theorem linkAt_all {k : Nat} (hk : k < ls.length) : linkAt ls (iota ls.length) k = ls[k] := by
  unfold linkAt
  rw [List.getD_eq_getElem?_getD (l := iota ls.length), iota_at hk]
  simp only [Option.getD_some, Int.toNat_natCast]
  rw [List.getD_eq_getElem?_getD, List.getElem?_eq_getElem hk]
  rfl
theorem link_nat (hm : May ids ls) {l : Lk} (hl : l ∈ ls) : ∃ a b : Nat, l.a = a ∧ l.b = b ∧ a < ids.length ∧ b < ids.length := by
  have h1 := hm.ok ⟨l.a, l.pa, l.b, l.pb, l.cost⟩ (List.mem_flatMap.2 ⟨l, hl, by simp [two]⟩)
  have h2 := hm.ok ⟨l.b, l.pb, l.a, l.pa, l.cost⟩ (List.mem_flatMap.2 ⟨l, hl, by simp [two]⟩)
  have a0 : 0 ≤ l.a := h1.a0
  have a1 : l.a < ids.length := h1.a1
  have b0 : 0 ≤ l.b := h2.a0
  have b1 : l.b < ids.length := h2.a1
  exact ⟨l.a.toNat, l.b.toNat, by omega, by omega, by omega, by omega⟩
theorem links_all (hm : May ids ls) : LinksOk ids.length ls (iota ls.length) := by
  intro k hk
  rw [iota_len] at hk
  rw [linkAt_all hk]
  exact link_nat hm (List.getElem_mem hk)
theorem joins_all {x y : Nat} (h : Joins ls (iota ls.length) x y) : ∃ l ∈ ls, l.a = (x : Int) ∧ l.b = (y : Int) := by
  obtain ⟨k, hk, e1, e2⟩ := h
  rw [iota_len] at hk
  rw [linkAt_all hk] at e1 e2
  exact ⟨_, List.getElem_mem hk, e1, e2⟩
theorem joins_of {l : Lk} (hl : l ∈ ls) {x y : Nat} (h1 : l.a = (x : Int)) (h2 : l.b = (y : Int)) : Joins ls (iota ls.length) x y := by
  obtain ⟨k, hk, e⟩ := List.getElem_of_mem hl
  exact ⟨k, by rw [iota_len]; exact hk, by rw [linkAt_all hk, e]; exact h1, by rw [linkAt_all hk, e]; exact h2⟩
/-- an end joins its bridges -/
theorem joins_end {e : En} (he : e ∈ endsOf ls) {x y : Nat} (h1 : e.at_ = (x : Int)) (h2 : e.to = (y : Int)) : Joins ls (iota ls.length) x y ∨ Joins ls (iota ls.length) y x := by
  obtain ⟨l, hl, h⟩ := List.mem_flatMap.1 he
  simp [two] at h
  rcases h with rfl | rfl
  · exact .inl (joins_of hl h1 h2)
  · exact .inr (joins_of hl h2 h1)
/-- over a link the root is the same -/
theorem root_link (hm : May ids ls) (hid : ∀ x ∈ ids, 0 ≤ x) {x y : Nat} (h : Joins ls (iota ls.length) x y) : Rt ids ls x = Rt ids ls y := by
  obtain ⟨l, hl, e1, e2⟩ := joins_all h
  have h1 : (⟨l.a, l.pa, l.b, l.pb, l.cost⟩ : En) ∈ endsOf ls := List.mem_flatMap.2 ⟨l, hl, by simp [two]⟩
  have h2 : (⟨l.b, l.pb, l.a, l.pa, l.cost⟩ : En) ∈ endsOf ls := List.mem_flatMap.2 ⟨l, hl, by simp [two]⟩
  by_cases hxy : x = y
  · rw [hxy]
  · have hx : x < ids.length := by have := (hm.ok _ h1).a1; simp only at this; omega
    have hy : y < ids.length := by have := (hm.ok _ h2).a1; simp only at this; omega
    have k1 := (rest_at hm hid hx).lo _ h1 y e1 e2 (Ne.symm hxy)
    have k2 := (rest_at hm hid hy).lo _ h2 x e2 e1 hxy
    omega
theorem root_conn (hm : May ids ls) (hid : ∀ x ∈ ids, 0 ≤ x) {x y : Nat} (h : Conn (Joins ls (iota ls.length)) x y) : Rt ids ls x = Rt ids ls y := by
  induction h with
  | refl => rfl
  | step _ hp ih =>
    rcases hp with hp | hp
    · exact ih.trans (root_link hm hid hp)
    · exact ih.trans (root_link hm hid hp).symm
/-- the root is the id of a bridge that hangs together with it, over ends that lead to it -/
theorem root_from (hm : May ids ls) (hid : ∀ x ∈ ids, 0 ≤ x) : ∀ (c b : Nat), b < ids.length → (Ct ids ls b).toNat ≤ c → ∃ s, s < ids.length ∧ Conn (Joins ls (iota ls.length)) b s ∧ Rt ids ls b = ids.getD s 0 := by
  intro c
  induction c with
  | zero =>
    intro b hb hc
    have hr := rest_at hm hid hb
    rcases hr.at_ with ⟨_, h, _⟩ | ⟨e, he, t, _, hto, _, _, _, h2, _⟩
    · exact ⟨b, hb, .refl b, h⟩
    · have ht := hm.to_ he
      have h3 := (rest_at hm hid (b := t) (by omega)).c0
      have h4 := (hm.ok e he).c0
      omega
  | succ c ih =>
    intro b hb hc
    have hr := rest_at hm hid hb
    rcases hr.at_ with ⟨_, h, _⟩ | ⟨e, he, t, hat, hto, _, _, h1, h2, _⟩
    · exact ⟨b, hb, .refl b, h⟩
    · have ht := hm.to_ he
      have htn : t < ids.length := by omega
      have h3 := (rest_at hm hid htn).c0
      have h4 := (hm.ok e he).c0
      obtain ⟨s, hs, k1, k2⟩ := ih t htn (by omega)
      exact ⟨s, hs, (Conn.step (.refl b) (joins_end he hat hto)).trans k1, h1.trans k2⟩
/-- a bridge's best leads on just if its root is not itself -/
theorem leads (hm : May ids ls) (hid : ∀ x ∈ ids, 0 ≤ x) {b : Nat} (hb : b < ids.length) : ((St ids ls b).1 = -1 ∧ Rt ids ls b = ids.getD b 0) ∨ (0 ≤ (St ids ls b).1 ∧ Rt ids ls b < ids.getD b 0) := by
  have hr := rest_at hm hid hb
  rcases hr.at_ with ⟨h, h1, _⟩ | ⟨e, he, t, hat, hto, htb, h1, h2, h3, h4⟩
  · exact .inl ⟨h, h1⟩
  · right
    have ht := hm.to_ he
    have hok := hm.ok e he
    have p0 := hok.p0
    have c0 := hok.c0
    have h5 := (rest_at hm hid (b := t) (by omega)).c0
    rw [cmpV_lt_iff, hr.root, hr.cost] at h4
    have h6 : (own (ids.getD b 0)).root = ids.getD b 0 := rfl
    have h7 : (own (ids.getD b 0)).cost = 0 := rfl
    rw [h6, h7] at h4
    exact ⟨by omega, by omega⟩
theorem lesser_iff (hm : May ids ls) (hid : ∀ x ∈ ids, 0 ≤ x) {b : Nat} (hb : b < ids.length) : (0 ≤ (St ids ls b).1) ↔ ∃ c, c < ids.length ∧ (tog ids.length ls (iota ls.length))[c]? = (tog ids.length ls (iota ls.length))[b]? ∧ ids.getD c 0 < ids.getD b 0 := by
  have hl := links_all hm
  constructor
  · intro h
    rcases leads hm hid hb with ⟨h1, _⟩ | ⟨_, h2⟩
    · omega
    · obtain ⟨s, hs, k1, k2⟩ := root_from hm hid _ b hb (Nat.le_refl _)
      exact ⟨s, hs, (tog_same hl hs hb).2 k1.symm, by omega⟩
  · rintro ⟨c, hc, h1, h2⟩
    have h3 := root_conn hm hid ((tog_same hl hc hb).1 h1)
    have h4 := (rest_at hm hid hc).own
    rcases leads hm hid hb with ⟨_, h5⟩ | ⟨h5, _⟩
    · omega
    · exact h5
/-- is this end one of a bridge's, and Root? -/
def isRoot (ids : List Int) (ls : List Lk) (b : Nat) (e : En) : Bool := decide (e.at_ = (b : Int)) && decide (roleE ids ls e = 1)
def rootsTo (ids : List Int) (ls : List Lk) (b k : Nat) : Nat := (endsOf (ls.take k)).countP (isRoot ids ls b)
theorem rootsTo_step {b k : Nat} {l : Lk} (h : ls[k]? = some l) : rootsTo ids ls b (k + 1) = rootsTo ids ls b k + (if l.a = (b : Int) ∧ (pairOf ids ls l).1 = 1 then 1 else 0) + (if l.b = (b : Int) ∧ (pairOf ids ls l).2 = 1 then 1 else 0) := by
  unfold rootsTo
  rw [endsOf_take h, List.countP_append, pair_roles]
  have e1 : (two l).countP (isRoot ids ls b) = (if l.a = (b : Int) ∧ roleE ids ls ⟨l.a, l.pa, l.b, l.pb, l.cost⟩ = 1 then 1 else 0) + (if l.b = (b : Int) ∧ roleE ids ls ⟨l.b, l.pb, l.a, l.pa, l.cost⟩ = 1 then 1 else 0) := by
    unfold two
    rw [List.countP_cons, List.countP_cons, List.countP_nil]
    unfold isRoot
    simp only [Bool.and_eq_true, decide_eq_true_eq]
    omega
  rw [e1]
  simp only
  omega
theorem countP_one {α : Type} (f : α → Bool) : ∀ l : List α, (l.Pairwise fun x y => ¬ (f x = true ∧ f y = true)) → l.countP f ≤ 1
  | [], _ => by simp
  | a :: r, h => by
    obtain ⟨h1, h2⟩ := List.pairwise_cons.1 h
    have ih := countP_one f r h2
    rw [List.countP_cons]
    by_cases ha : f a = true
    · have h0 : r.countP f = 0 := by
        rw [List.countP_eq_zero]
        intro x hx hfx
        exact h1 x hx ⟨ha, hfx⟩
      rw [h0, ha]
      simp
    · have : f a = false := by simpa using ha
      rw [this]
      simp
      exact ih
theorem root_end (hm : May ids ls) (hid : ∀ x ∈ ids, 0 ≤ x) {b : Nat} {e : En} (he : e ∈ endsOf ls) : isRoot ids ls b e = true ↔ e.at_ = (b : Int) ∧ (St ids ls b).1 = e.port := by
  unfold isRoot
  rw [Bool.and_eq_true, decide_eq_true_eq, decide_eq_true_eq]
  have ht := hm.to_ he
  constructor
  · rintro ⟨h1, h2⟩
    rcases role_cases hm hid he h1 (t := e.to.toNat) (by omega) with ⟨h, _⟩ | ⟨_, h, _⟩ | ⟨_, h, _⟩
    · exact ⟨h1, h⟩
    · omega
    · omega
  · rintro ⟨h1, h2⟩
    rcases role_cases hm hid he h1 (t := e.to.toNat) (by omega) with ⟨_, h, _⟩ | ⟨h, _⟩ | ⟨h, _⟩
    · exact ⟨h1, h⟩
    · exact absurd h2 h
    · exact absurd h2 h
theorem roots_all (hm : May ids ls) (hid : ∀ x ∈ ids, 0 ≤ x) {b : Nat} (hb : b < ids.length) : rootsTo ids ls b ls.length = if 0 ≤ (St ids ls b).1 then 1 else 0 := by
  unfold rootsTo
  rw [List.take_length]
  have hle : (endsOf ls).countP (isRoot ids ls b) ≤ 1 := by
    refine countP_one _ _ ?_
    refine List.Pairwise.imp_of_mem (fun {x y} hx hy hxy => ?_) hm.ap
    rintro ⟨h1, h2⟩
    obtain ⟨k1, k2⟩ := (root_end hm hid hx).1 h1
    obtain ⟨k3, k4⟩ := (root_end hm hid hy).1 h2
    exact hxy ⟨k1.trans k3.symm, k2.symm.trans k4⟩
  by_cases h0 : 0 ≤ (St ids ls b).1
  · rw [if_pos h0]
    rcases (rest_at hm hid hb).at_ with ⟨h, _⟩ | ⟨e, he, t, hat, _, _, h1, _⟩
    · omega
    · have hpos : 0 < (endsOf ls).countP (isRoot ids ls b) := List.countP_pos_iff.2 ⟨e, he, (root_end hm hid he).2 ⟨hat, h1⟩⟩
      omega
  · rw [if_neg h0, List.countP_eq_zero]
    intro e he h
    obtain ⟨_, h2⟩ := (root_end hm hid he).1 h
    have := (hm.ok e he).p0
    omega
end
end Go.Proofs.Ytdgbemafhhhceaa.Tree
