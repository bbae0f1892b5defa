/-
  Spans, as a plain law: the links that stay up hang together what hung together, and are less by one than the bridges of each part.
-/
import Derived.Test.YtdgbemafhhhceaaTreeRootLaw
namespace Go.Proofs.Ytdgbemafhhhceaa.Tree
set_option linter.unusedVariables false
set_option linter.unusedSimpArgs false
open Go.Proofs.Ytdgbemafhhhceaa.Prio Go.Proofs.Ytdgbemafhhhceaa.Conv
section
theorem act_yes {r : List (Int × Int)} {k : Nat} {p : Int × Int} (h : r[k]? = some p) (h1 : p.1 ≠ 3 ∧ p.2 ≠ 3) : activeTo r (k + 1) = activeTo r k ++ [(k : Int)] := by simp [activeTo, h, h1]
theorem act_no {r : List (Int × Int)} {k : Nat} {p : Int × Int} (h : r[k]? = some p) (h1 : ¬ (p.1 ≠ 3 ∧ p.2 ≠ 3)) : activeTo r (k + 1) = activeTo r k := by
  simp only [activeTo, h]
  rw [if_neg h1]
theorem act_none {r : List (Int × Int)} {k : Nat} (h : r[k]? = none) : activeTo r (k + 1) = activeTo r k := by
  simp only [activeTo, h]
theorem act_mem {r : List (Int × Int)} {x : Int} : ∀ k, x ∈ activeTo r k ↔ ∃ j : Nat, j < k ∧ x = (j : Int) ∧ ∃ p, r[j]? = some p ∧ p.1 ≠ 3 ∧ p.2 ≠ 3
  | 0 => by
    constructor
    · intro h; cases h
    · rintro ⟨j, h, _⟩; omega
  | k + 1 => by
    have ih := act_mem (r := r) (x := x) k
    cases h : r[k]? with
    | none =>
      rw [act_none h, ih]
      constructor
      · rintro ⟨j, h1, h2⟩; exact ⟨j, by omega, h2⟩
      · rintro ⟨j, h1, h2, p, h3, h4⟩
        by_cases hj : j = k
        · subst hj; rw [h] at h3; cases h3
        · exact ⟨j, by omega, h2, p, h3, h4⟩
    | some p =>
      by_cases h1 : p.1 ≠ 3 ∧ p.2 ≠ 3
      · rw [act_yes h h1, List.mem_append, ih, List.mem_singleton]
        constructor
        · rintro (⟨j, h1, h2⟩ | h2)
          · exact ⟨j, by omega, h2⟩
          · exact ⟨k, by omega, h2, p, h, h1⟩
        · rintro ⟨j, h1, h2, q, h3, h4⟩
          by_cases hj : j = k
          · subst hj; exact .inr h2
          · exact .inl ⟨j, by omega, h2, q, h3, h4⟩
      · rw [act_no h h1, ih]
        constructor
        · rintro ⟨j, h1, h2⟩; exact ⟨j, by omega, h2⟩
        · rintro ⟨j, h2, h3, q, h4, h5⟩
          by_cases hj : j = k
          · subst hj; rw [h] at h4; injection h4 with h4; subst h4; exact absurd h5 h1
          · exact ⟨j, by omega, h3, q, h4, h5⟩
end
section
variable {ids : List Int} {ls : List Lk}
theorem active_mem {x : Int} : x ∈ activeOf ids ls ↔ ∃ (j : Nat) (h : j < ls.length), x = (j : Int) ∧ (pairOf ids ls ls[j]).1 ≠ 3 ∧ (pairOf ids ls ls[j]).2 ≠ 3 := by
  unfold activeOf
  rw [act_mem]
  constructor
  · rintro ⟨j, hj, hx, p, hp, h1, h2⟩
    unfold restOf at hp
    rw [List.getElem?_map, List.getElem?_eq_getElem hj] at hp
    injection hp with hp
    subst hp
    exact ⟨j, hj, hx, h1, h2⟩
  · rintro ⟨j, hj, hx, h1, h2⟩
    exact ⟨j, hj, hx, pairOf ids ls ls[j], by unfold restOf; rw [List.getElem?_map, List.getElem?_eq_getElem hj]; rfl, h1, h2⟩
theorem active_range {x : Int} (h : x ∈ activeOf ids ls) : 0 ≤ x ∧ x < ls.length := by
  obtain ⟨j, hj, rfl, _⟩ := active_mem.1 h
  omega
theorem linkAt_is {sm : List Int} {k j : Nat} (hk : k < sm.length) (h : sm[k] = (j : Int)) (hj : j < ls.length) : linkAt ls sm k = ls[j] := by
  unfold linkAt
  rw [List.getD_eq_getElem?_getD (l := sm), List.getElem?_eq_getElem hk]
  simp only [Option.getD_some]
  rw [h, Int.toNat_natCast, List.getD_eq_getElem?_getD, List.getElem?_eq_getElem hj]
  rfl
theorem links_active (hm : May ids ls) : LinksOk ids.length ls (activeOf ids ls) := by
  intro k hk
  obtain ⟨j, hj, hx, _⟩ := active_mem.1 (List.getElem_mem hk)
  rw [linkAt_is hk hx hj]
  exact link_nat hm (List.getElem_mem hj)
theorem joins_active {l : Lk} (hl : l ∈ ls) (h3 : (pairOf ids ls l).1 ≠ 3 ∧ (pairOf ids ls l).2 ≠ 3) {x y : Nat} (h1 : l.a = (x : Int)) (h2 : l.b = (y : Int)) : Joins ls (activeOf ids ls) x y := by
  obtain ⟨j, hj, e⟩ := List.getElem_of_mem hl
  have hmem : (j : Int) ∈ activeOf ids ls := active_mem.2 ⟨j, hj, rfl, by rw [e]; exact h3⟩
  obtain ⟨k, hk, e2⟩ := List.getElem_of_mem hmem
  have e3 := linkAt_is hk e2 hj
  exact ⟨k, hk, by rw [e3, e]; exact h1, by rw [e3, e]; exact h2⟩
theorem active_joins {x y : Nat} (h : Joins ls (activeOf ids ls) x y) : Joins ls (iota ls.length) x y := by
  obtain ⟨k, hk, e1, e2⟩ := h
  obtain ⟨j, hj, hx, _⟩ := active_mem.1 (List.getElem_mem hk)
  rw [linkAt_is hk hx hj] at e1 e2
  exact joins_of (List.getElem_mem hj) e1 e2
/-- the link of a Root end stays up -/
theorem root_active (hm : May ids ls) (hid : ∀ x ∈ ids, 0 ≤ x) {e : En} (he : e ∈ endsOf ls) {x y : Nat} (h1 : e.at_ = (x : Int)) (h2 : e.to = (y : Int)) (hr : roleE ids ls e = 1) : Joins ls (activeOf ids ls) x y ∨ Joins ls (activeOf ids ls) y x := by
  obtain ⟨l, hl, h⟩ := List.mem_flatMap.1 he
  have hone := one_of hm hid hl
  have hp := pair_roles (ids := ids) (ls := ls) l
  simp [two] at h
  rcases h with rfl | rfl
  · have e1 : (pairOf ids ls l).1 = 1 := by rw [hp]; exact hr
    exact .inl (joins_active hl (by omega) h1 h2)
  · have e1 : (pairOf ids ls l).2 = 1 := by rw [hp]; exact hr
    exact .inr (joins_active hl (by omega) h2 h1)
theorem active_from (hm : May ids ls) (hid : ∀ x ∈ ids, 0 ≤ x) : ∀ (c b : Nat), b < ids.length → (Ct ids ls b).toNat ≤ c → ∃ s, s < ids.length ∧ Conn (Joins ls (activeOf ids ls)) b s ∧ Rt ids ls b = ids.getD s 0 := by
  intro c
  induction c with
  | zero =>
    intro b hb hc
    have hr := rest_at hm hid hb
    rcases hr.at_ with ⟨_, h, _⟩ | ⟨e, he, t, _, hto, _, _, _, h2, _⟩
    · exact ⟨b, hb, .refl b, h⟩
    · have ht := hm.to_ he
      have h3 := (rest_at hm hid (b := t) (by omega)).c0
      have h4 := (hm.ok e he).c0
      omega
  | succ c ih =>
    intro b hb hc
    have hr := rest_at hm hid hb
    rcases hr.at_ with ⟨_, h, _⟩ | ⟨e, he, t, hat, hto, _, hport, h1, h2, _⟩
    · exact ⟨b, hb, .refl b, h⟩
    · have ht := hm.to_ he
      have htn : t < ids.length := by omega
      have h3 := (rest_at hm hid htn).c0
      have h4 := (hm.ok e he).c0
      have hro : roleE ids ls e = 1 := by
        have h5 := (root_end hm hid (b := b) he).2 ⟨hat, hport⟩
        unfold isRoot at h5
        rw [Bool.and_eq_true, decide_eq_true_eq, decide_eq_true_eq] at h5
        exact h5.2
      obtain ⟨s, hs, k1, k2⟩ := ih t htn (by omega)
      exact ⟨s, hs, (Conn.step (.refl b) (root_active hm hid he hat hto hro)).trans k1, h1.trans k2⟩
theorem conn_active (hm : May ids ls) (hid : ∀ x ∈ ids, 0 ≤ x) {x y : Nat} (hx : x < ids.length) (hy : y < ids.length) : Conn (Joins ls (activeOf ids ls)) x y ↔ Conn (Joins ls (iota ls.length)) x y := by
  constructor
  · exact fun h => Conn.mono (fun _ _ k => .step (.refl _) (.inl (active_joins k))) h
  · intro h
    have h1 := root_conn hm hid h
    obtain ⟨s, hs, k1, k2⟩ := active_from hm hid _ x hx (Nat.le_refl _)
    obtain ⟨t, ht, k3, k4⟩ := active_from hm hid _ y hy (Nat.le_refl _)
    have e : s = t := (id_ne hm.nd hs ht).1 (by omega)
    subst e
    exact k1.trans k3.symm
theorem tog_active (hm : May ids ls) (hid : ∀ x ∈ ids, 0 ≤ x) : tog ids.length ls (activeOf ids ls) = tog ids.length ls (iota ls.length) := by
  apply List.ext_getElem?
  intro b
  by_cases hb : b < ids.length
  · obtain ⟨m, hm1, ⟨c1, l1⟩, e1⟩ := tog_least (links_active hm) hb
    obtain ⟨m', hm2, ⟨c2, l2⟩, e2⟩ := tog_least (links_all hm) hb
    have h1 := l1 m' hm2 ((conn_active hm hid hm2 hb).2 c2)
    have h2 := l2 m hm1 ((conn_active hm hid hm1 hb).1 c1)
    have e : m = m' := by omega
    rw [e1, e2, e]
  · rw [List.getElem?_eq_none (by rw [tog_len]; omega), List.getElem?_eq_none (by rw [tog_len]; omega)]
/-- how many of the first k labels are their own bridge's -/
def groupsTo (W : List Int) (k : Nat) : Nat := (List.range k).countP fun (i : Nat) => decide (W[i]? = some (i : Int))
theorem groupsTo_step {W : List Int} {k : Nat} {x : Int} (h : W[k]? = some x) : groupsTo W (k + 1) = groupsTo W k + if x = (k : Int) then 1 else 0 := by
  unfold groupsTo
  rw [List.range_succ, List.countP_append, List.countP_cons, List.countP_nil, h]
  by_cases e : x = (k : Int) <;> simp [e]
theorem groupsTo_le (W : List Int) (k : Nat) : groupsTo W k ≤ k := by
  unfold groupsTo
  have := List.countP_le_length (p := fun i : Nat => decide (W[i]? = some (i : Int))) (l := List.range k)
  rwa [List.length_range] at this
theorem sub_len : ∀ l1 l2 : List Nat, l1.Nodup → (∀ x ∈ l1, x ∈ l2) → l1.length ≤ l2.length
  | [], _, _, _ => Nat.zero_le _
  | a :: r, l2, h, hs => by
    obtain ⟨h1, h2⟩ := List.nodup_cons.1 h
    have ha := hs a (by simp)
    have ih := sub_len r (l2.erase a) h2 (fun x hx => (List.mem_erase_of_ne (by rintro rfl; exact h1 hx)).2 (hs x (by simp [hx])))
    have hl := List.length_erase_of_mem ha
    have hp := List.length_pos_of_mem ha
    rw [List.length_cons]
    omega
theorem map_nodup (f : Nat → Nat) : ∀ l : List Nat, l.Nodup → (∀ x ∈ l, ∀ y ∈ l, f x = f y → x = y) → (l.map f).Nodup
  | [], _, _ => List.nodup_nil
  | a :: r, h, hf => by
    obtain ⟨h1, h2⟩ := List.nodup_cons.1 h
    rw [List.map_cons, List.nodup_cons]
    refine ⟨fun hm => ?_, map_nodup f r h2 (fun x hx y hy => hf x (by simp [hx]) y (by simp [hy]))⟩
    obtain ⟨y, hy, e⟩ := List.mem_map.1 hm
    have := hf y (by simp [hy]) a (by simp) e
    subst this
    exact h1 hy
theorem inj_count (n : Nat) (p q : Nat → Bool) (f : Nat → Nat) (h1 : ∀ x, x < n → p x = true → f x < n ∧ q (f x) = true) (h2 : ∀ x y, x < n → y < n → p x = true → p y = true → f x = f y → x = y) : (List.range n).countP p ≤ (List.range n).countP q := by
  rw [List.countP_eq_length_filter, List.countP_eq_length_filter, ← List.length_map (f := f)]
  refine sub_len _ _ (map_nodup f _ (List.nodup_range.filter _) fun x hx y hy e => ?_) fun x hx => ?_
  · obtain ⟨a1, a2⟩ := List.mem_filter.1 hx
    obtain ⟨b1, b2⟩ := List.mem_filter.1 hy
    exact h2 x y (List.mem_range.1 a1) (List.mem_range.1 b1) a2 b2 e
  · obtain ⟨y, hy, rfl⟩ := List.mem_map.1 hx
    obtain ⟨a1, a2⟩ := List.mem_filter.1 hy
    obtain ⟨k1, k2⟩ := h1 y (List.mem_range.1 a1) a2
    exact List.mem_filter.2 ⟨List.mem_range.2 k1, k2⟩
open Classical in
/-- as many parts as bridges that are their own root -/
theorem groups_roots (hm : May ids ls) (hid : ∀ x ∈ ids, 0 ≤ x) : groupsTo (tog ids.length ls (iota ls.length)) ids.length = (List.range ids.length).countP fun b => decide (¬ 0 ≤ (St ids ls b).1) := by
  have hl := links_all hm
  have own : ∀ b, b < ids.length → (¬ 0 ≤ (St ids ls b).1 ↔ Rt ids ls b = ids.getD b 0) := fun b hb => by
    rcases leads hm hid hb with ⟨h1, h2⟩ | ⟨h1, h2⟩
    · exact ⟨fun _ => h2, fun _ => by omega⟩
    · exact ⟨fun h => absurd h1 h, fun h => by omega⟩
  have hs : ∀ b, ∃ s, b < ids.length → s < ids.length ∧ Conn (Joins ls (iota ls.length)) b s ∧ Rt ids ls b = ids.getD s 0 := fun b => by
    by_cases hb : b < ids.length
    · obtain ⟨s, h1, h2⟩ := root_from hm hid _ b hb (Nat.le_refl _)
      exact ⟨s, fun _ => ⟨h1, h2⟩⟩
    · exact ⟨0, fun h => absurd h hb⟩
  have hg : ∀ b, ∃ m, b < ids.length → m < ids.length ∧ Least ids.length ls (iota ls.length) b m ∧ (tog ids.length ls (iota ls.length))[b]? = some (m : Int) := fun b => by
    by_cases hb : b < ids.length
    · obtain ⟨s, h1, h2⟩ := tog_least hl hb
      exact ⟨s, fun _ => ⟨h1, h2⟩⟩
    · exact ⟨0, fun h => absurd h hb⟩
  obtain ⟨f, hf⟩ := Classical.axiomOfChoice hs
  obtain ⟨g, hg⟩ := Classical.axiomOfChoice hg
  unfold groupsTo
  apply Nat.le_antisymm
  · refine inj_count _ _ _ f (fun x hx _ => ?_) (fun x y hx hy px py e => ?_)
    · obtain ⟨h1, h2, h3⟩ := hf x hx
      refine ⟨h1, decide_eq_true ((own _ h1).2 ?_)⟩
      rw [← root_conn hm hid h2, h3]
    · obtain ⟨h1, h2, _⟩ := hf x hx
      obtain ⟨_, k2, _⟩ := hf y hy
      have hc : Conn (Joins ls (iota ls.length)) x y := h2.trans (e ▸ k2.symm)
      have := (tog_same hl hx hy).2 hc
      rw [of_decide_eq_true px, of_decide_eq_true py] at this
      injection this with this
      omega
  · refine inj_count _ _ _ g (fun x hx _ => ?_) (fun x y hx hy px py e => ?_)
    · obtain ⟨h1, h2, h3⟩ := hg x hx
      refine ⟨h1, decide_eq_true ?_⟩
      rw [(tog_same hl h1 hx).2 h2.1, h3]
    · obtain ⟨h1, h2, _⟩ := hg x hx
      obtain ⟨_, k2, _⟩ := hg y hy
      have hc : Conn (Joins ls (iota ls.length)) x y := h2.1.symm.trans (e ▸ k2.1)
      have h3 := root_conn hm hid hc
      rw [(own x hx).1 (of_decide_eq_true px), (own y hy).1 (of_decide_eq_true py)] at h3
      exact (id_ne hm.nd hx hy).1 h3
/-- as many links stay up as there are Root ends -/
theorem active_count (hm : May ids ls) (hid : ∀ x ∈ ids, 0 ≤ x) : ∀ k, k ≤ ls.length → (activeTo (restOf ids ls) k).length = (endsOf (ls.take k)).countP fun e => decide (roleE ids ls e = 1)
  | 0, _ => rfl
  | k + 1, hk => by
    have ih := active_count hm hid k (by omega)
    have hat : ls[k]? = some ls[k] := List.getElem?_eq_getElem (by omega)
    have hp : (restOf ids ls)[k]? = some (pairOf ids ls ls[k]) := by
      unfold restOf
      rw [List.getElem?_map, hat]
      rfl
    have hone := one_of hm hid (List.getElem_mem (l := ls) (n := k) (by omega))
    rw [endsOf_take hat, List.countP_append, ← ih]
    generalize ls[k] = l at *
    have e1 : (two l).countP (fun e => decide (roleE ids ls e = 1)) = (if (pairOf ids ls l).1 = 1 then 1 else 0) + (if (pairOf ids ls l).2 = 1 then 1 else 0) := by
      rw [pair_roles]
      unfold two
      rw [List.countP_cons, List.countP_cons, List.countP_nil]
      simp only [decide_eq_true_eq]
      omega
    rw [e1]
    by_cases h1 : (pairOf ids ls l).1 ≠ 3 ∧ (pairOf ids ls l).2 ≠ 3
    · rw [act_yes hp h1, List.length_append, List.length_singleton]
      rcases hone with ⟨h2, h3⟩ | ⟨h2, h3⟩
      · rw [if_neg (by omega), if_pos (by omega)]
      · rw [if_pos (by omega), if_neg (by omega)]
    · rw [act_no hp h1]
      rw [if_neg (by omega), if_neg (by omega)]
      rfl
theorem total_add (f : Nat → Nat) (c x : Nat) : ∀ n, total (fun b => f b + if b = c then x else 0) n = total f n + if c < n then x else 0
  | 0 => by simp [total]
  | n + 1 => by
    have ih := total_add f c x n
    unfold total at *
    rw [List.range_succ, List.map_append, List.sum_append, List.map_append, List.sum_append, ih]
    simp only [List.map_cons, List.map_nil, List.sum_cons, List.sum_nil]
    by_cases h1 : n = c
    · subst h1
      rw [if_neg (by omega), if_pos rfl, if_pos (by omega)]
      omega
    · rw [if_neg h1]
      by_cases h2 : c < n
      · rw [if_pos h2, if_pos (by omega)]; omega
      · rw [if_neg h2, if_neg (by omega)]; omega
theorem total_count (p : Nat → Bool) : ∀ n, total (fun b => if p b = true then 1 else 0) n = (List.range n).countP p
  | 0 => rfl
  | n + 1 => by
    have ih := total_count p n
    unfold total at *
    rw [List.range_succ, List.map_append, List.sum_append, ih, List.countP_append, List.countP_cons, List.countP_nil]
    simp
theorem zeros : ∀ n : Nat, ((List.range n).map fun _ => 0).sum = 0
  | 0 => rfl
  | n + 1 => by rw [List.range_succ, List.map_append, List.sum_append, zeros n]; rfl
theorem ends_total (n : Nat) (f : En → Bool) : ∀ E : List En, (∀ e ∈ E, ∃ b : Nat, b < n ∧ e.at_ = (b : Int)) → total (fun (b : Nat) => E.countP fun e => decide (e.at_ = (b : Int)) && f e) n = E.countP f
  | [], _ => by
    unfold total
    simp only [List.countP_nil]
    exact zeros n
  | e :: r, h => by
    have ih := ends_total n f r (fun x hx => h x (by simp [hx]))
    obtain ⟨c, hc, ec⟩ := h e (by simp)
    have e1 : (fun b : Nat => (e :: r).countP fun e => decide (e.at_ = (b : Int)) && f e) = fun (b : Nat) => (r.countP fun e => decide (e.at_ = (b : Int)) && f e) + if b = c then (if f e = true then 1 else 0) else 0 := by
      funext b
      rw [List.countP_cons]
      congr 1
      by_cases h1 : b = c
      · subst h1
        simp [ec]
      · have h2 : ¬ (c : Int) = (b : Int) := by omega
        simp [ec, h1, h2]
    rw [e1, total_add, ih, List.countP_cons, if_pos hc]
theorem active_len (hm : May ids ls) (hid : ∀ x ∈ ids, 0 ≤ x) : (activeOf ids ls).length = (List.range ids.length).countP fun b => decide (0 ≤ (St ids ls b).1) := by
  unfold activeOf
  rw [active_count hm hid _ (Nat.le_refl _), List.take_length, ← ends_total ids.length _ _ (fun e he => by
    have h := hm.ok e he
    have h0 := h.a0
    have h1 := h.a1
    exact ⟨e.at_.toNat, by omega, by omega⟩), ← total_count]
  have hle : ∀ b, b < ids.length → ((endsOf ls).countP fun e => decide (e.at_ = (b : Int)) && decide (roleE ids ls e = 1)) = if decide (0 ≤ (St ids ls b).1) = true then 1 else 0 := fun b hb => by
    have := roots_all hm hid hb
    unfold rootsTo at this
    rw [List.take_length] at this
    have h2 : (endsOf ls).countP (isRoot ids ls b) = ((endsOf ls).countP fun e => decide (e.at_ = (b : Int)) && decide (roleE ids ls e = 1)) := rfl
    rw [← h2, this]
    simp
  apply Nat.le_antisymm
  · exact total_le _ fun b hb => Nat.le_of_eq (hle b hb)
  · exact total_le _ fun b hb => Nat.le_of_eq (hle b hb).symm
theorem two_count (p q : Nat → Bool) (h : ∀ b, q b = !p b) : ∀ l : List Nat, l.countP p + l.countP q = l.length
  | [] => rfl
  | a :: r => by
    have ih := two_count p q h r
    rw [List.countP_cons, List.countP_cons, List.length_cons, h]
    cases p a
    · simp; omega
    · simp; omega
/-- the links that stay up: less by one than the bridges of each part -/
theorem spans_len (hm : May ids ls) (hid : ∀ x ∈ ids, 0 ≤ x) : (activeOf ids ls).length + groupsTo (tog ids.length ls (iota ls.length)) ids.length = ids.length := by
  rw [active_len hm hid, groups_roots hm hid]
  have h := two_count (fun b => decide (0 ≤ (St ids ls b).1)) (fun b => decide (¬ 0 ≤ (St ids ls b).1)) (fun b => by by_cases h : 0 ≤ (St ids ls b).1 <;> simp [h]) (List.range ids.length)
  rw [List.length_range] at h
  exact Eq.trans (by congr 1) h
end
end Go.Proofs.Ytdgbemafhhhceaa.Tree
