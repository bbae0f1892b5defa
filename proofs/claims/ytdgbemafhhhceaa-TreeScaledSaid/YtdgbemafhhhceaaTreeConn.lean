/-
  What hangs together: the labels of the document's Together are the least numbers of what hangs together; a plain law.
-/
import Derived.Test.YtdgbemafhhhceaaTreeTogMath
import Derived.Test.YtdgbemafhhhceaaTreeConv
namespace Go.Proofs.Ytdgbemafhhhceaa.Tree
set_option linter.unusedVariables false
set_option linter.unusedSimpArgs false
open Go.Proofs.Ytdgbemafhhhceaa.Conv
inductive Conn (P : Nat → Nat → Prop) : Nat → Nat → Prop
  | refl (x : Nat) : Conn P x x
  | step {x y z : Nat} : Conn P x y → (P y z ∨ P z y) → Conn P x z
section
variable {P Q : Nat → Nat → Prop}
theorem Conn.trans {x y z : Nat} (h : Conn P x y) (k : Conn P y z) : Conn P x z := by
  induction k with
  | refl => exact h
  | step _ hp ih => exact .step ih hp
theorem Conn.symm {x y : Nat} (h : Conn P x y) : Conn P y x := by
  induction h with
  | refl => exact .refl _
  | step _ hp ih => exact (Conn.step (.refl _) hp.symm).trans ih
theorem Conn.mono (hPQ : ∀ x y, P x y → Conn Q x y) {x y : Nat} (h : Conn P x y) : Conn Q x y := by
  induction h with
  | refl => exact .refl _
  | step _ hp ih =>
    rcases hp with hp | hp
    · exact ih.trans (hPQ _ _ hp)
    · exact ih.trans (hPQ _ _ hp).symm
theorem Conn.keeps {T : Nat → Prop} (hT : ∀ x y, P x y → (T x ↔ T y)) {x y : Nat} (h : Conn P x y) : T x ↔ T y := by
  induction h with
  | refl => exact Iff.rfl
  | step _ hp ih =>
    rcases hp with hp | hp
    · exact ih.trans (hT _ _ hp)
    · exact ih.trans (hT _ _ hp).symm
end
theorem least_of {T : Nat → Prop} : ∀ n, T n → ∃ m, T m ∧ ∀ x, T x → m ≤ x := by
  intro n
  induction n using Nat.strongRecOn with
  | _ n ih =>
    intro h
    by_cases hx : ∃ x, x < n ∧ T x
    · obtain ⟨x, hx1, hx2⟩ := hx
      exact ih x hx1 hx2
    · exact ⟨n, h, fun x hx2 => by
        rcases Nat.lt_or_ge x n with h3 | h3
        · exact absurd ⟨x, h3, hx2⟩ hx
        · exact h3⟩
/-- the links that are meant join these bridges -/
def Joins (ls : List Lk) (sm : List Int) (x y : Nat) : Prop := ∃ k, k < sm.length ∧ (linkAt ls sm k).a = (x : Int) ∧ (linkAt ls sm k).b = (y : Int)
/-- all links that are meant are of bridges that there are -/
def LinksOk (n : Nat) (ls : List Lk) (sm : List Int) : Prop := ∀ k, k < sm.length → ∃ a b : Nat, (linkAt ls sm k).a = a ∧ (linkAt ls sm k).b = b ∧ a < n ∧ b < n
section
variable {n : Nat} {ls : List Lk} {sm : List Int}
/-- all labels are numbers of bridges that hang together with theirs -/
def LabOk (n : Nat) (ls : List Lk) (sm : List Int) (lab : List Int) : Prop := lab.length = n ∧ ∀ b, b < n → ∃ s : Nat, lab[b]? = some (s : Int) ∧ s < n ∧ Conn (Joins ls sm) s b
theorem iota_at {b : Nat} (hb : b < n) : (iota n)[b]? = some (b : Int) := by
  unfold iota
  rw [List.getElem?_map, List.getElem?_range hb]
  rfl
theorem start_ok (n : Nat) (ls : List Lk) (sm : List Int) : LabOk n ls sm (iota n) := ⟨iota_len n, fun b hb => ⟨b, iota_at hb, hb, .refl b⟩⟩
theorem step_at {lab : List Int} {l : Lk} {a b : Nat} {x y : Int} (ha : l.a = a) (hb : l.b = b) (hx : lab[a]? = some x) (hy : lab[b]? = some y) (c : Nat) : (step1 lab l)[c]? = if c = a ∨ c = b then some (min x y) else lab[c]? := by
  have hal := (List.getElem?_eq_some_iff.1 hx).1
  have hbl := (List.getElem?_eq_some_iff.1 hy).1
  have hm : lesser lab l = min x y := by
    unfold lesser
    rw [ha, hb, Int.toNat_natCast, Int.toNat_natCast, List.getD_eq_getElem?_getD, hx, List.getD_eq_getElem?_getD, hy]
    rfl
  unfold step1
  rw [hm, ha, hb, Int.toNat_natCast, Int.toNat_natCast]
  by_cases h2 : c = b
  · subst h2
    rw [if_pos (.inr rfl), List.getElem?_set_self (by simpa using hbl)]
  · rw [List.getElem?_set_ne (Ne.symm h2)]
    by_cases h1 : c = a
    · subst h1
      rw [if_pos (.inl rfl), List.getElem?_set_self hal]
    · rw [List.getElem?_set_ne (Ne.symm h1), if_neg (by rintro (h | h); exact h1 h; exact h2 h)]
theorem step_ok (hl : LinksOk n ls sm) {lab : List Int} (h : LabOk n ls sm lab) {k : Nat} (hk : k < sm.length) : LabOk n ls sm (step1 lab (linkAt ls sm k)) := by
  obtain ⟨a, b, ea, eb, ha, hb⟩ := hl k hk
  refine ⟨(step1_len _ _).trans h.1, fun c hc => ?_⟩
  obtain ⟨s, hs, hsn, hsc⟩ := h.2 a ha
  obtain ⟨t, ht, htn, htc⟩ := h.2 b hb
  rw [step_at ea eb hs ht]
  have hj : Joins ls sm a b := ⟨k, hk, ea, eb⟩
  have hab : Conn (Joins ls sm) a b := .step (.refl a) (.inl hj)
  by_cases hcc : c = a ∨ c = b
  · rw [if_pos hcc]
    have hca : Conn (Joins ls sm) a c := by
      rcases hcc with h | h
      · rw [h]; exact .refl a
      · rw [h]; exact hab
    by_cases hst : s ≤ t
    · exact ⟨s, by congr 1; omega, hsn, hsc.trans hca⟩
    · exact ⟨t, by congr 1; omega, htn, htc.trans (hab.symm.trans hca)⟩
  · rw [if_neg hcc]
    exact h.2 c hc
/-- what a sweep does: labels fall; over each link that was passed the label is not more than that of either side was -/
theorem sweep_ok (hl : LinksOk n ls sm) {lab : List Int} (h : LabOk n ls sm lab) : ∀ k, k ≤ sm.length → LabOk n ls sm (sweepTo ls sm lab k) ∧
    (∀ c, c < n → (sweepTo ls sm lab k).getD c 0 ≤ lab.getD c 0) ∧
    ∀ j, j < k → ∀ a b : Nat, (linkAt ls sm j).a = a → (linkAt ls sm j).b = b → (sweepTo ls sm lab k).getD a 0 ≤ lab.getD b 0 ∧ (sweepTo ls sm lab k).getD b 0 ≤ lab.getD a 0
  | 0, _ => ⟨h, fun _ _ => Int.le_refl _, fun j hj => by omega⟩
  | k + 1, hk => by
    obtain ⟨h1, h2, h3⟩ := sweep_ok hl h k (by omega)
    obtain ⟨a, b, ea, eb, ha, hb⟩ := hl k (by omega)
    obtain ⟨s, hs, _⟩ := h1.2 a ha
    obtain ⟨t, ht, _⟩ := h1.2 b hb
    have hat := step_at ea eb hs ht
    have hsa := h2 a ha
    have htb := h2 b hb
    rw [List.getD_eq_getElem?_getD, hs] at hsa
    rw [List.getD_eq_getElem?_getD, ht] at htb
    simp only [Option.getD_some] at hsa htb
    have hfall : ∀ c, c < n → (sweepTo ls sm lab (k + 1)).getD c 0 ≤ (sweepTo ls sm lab k).getD c 0 := by
      intro c hc
      show (step1 (sweepTo ls sm lab k) (linkAt ls sm k)).getD c 0 ≤ _
      rw [List.getD_eq_getElem?_getD, hat]
      by_cases hcc : c = a ∨ c = b
      · rw [if_pos hcc]
        rcases hcc with rfl | rfl
        · rw [List.getD_eq_getElem?_getD, hs]; simp only [Option.getD_some]; omega
        · rw [List.getD_eq_getElem?_getD, ht]; simp only [Option.getD_some]; omega
      · rw [if_neg hcc, List.getD_eq_getElem?_getD]
        exact Int.le_refl _
    refine ⟨step_ok hl h1 (by omega), fun c hc => Int.le_trans (hfall c hc) (h2 c hc), fun j hj x y ex ey => ?_⟩
    by_cases hjk : j < k
    · obtain ⟨h4, h5⟩ := h3 j hjk x y ex ey
      obtain ⟨x', y', ex', ey', hx', hy'⟩ := hl j (by omega)
      have e1 : x = x' := by omega
      have e2 : y = y' := by omega
      subst e1; subst e2
      exact ⟨Int.le_trans (hfall x hx') h4, Int.le_trans (hfall y hy') h5⟩
    · have e : j = k := by omega
      subst e
      have e1 : x = a := by omega
      have e2 : y = b := by omega
      subst e1; subst e2
      show (step1 (sweepTo ls sm lab j) (linkAt ls sm j)).getD x 0 ≤ _ ∧ (step1 (sweepTo ls sm lab j) (linkAt ls sm j)).getD y 0 ≤ _
      rw [List.getD_eq_getElem?_getD, hat, if_pos (.inl rfl), List.getD_eq_getElem?_getD (l := step1 _ _), hat, if_pos (.inr rfl)]
      simp only [Option.getD_some]
      constructor <;> omega
theorem tog_ok (hl : LinksOk n ls sm) : ∀ r, LabOk n ls sm (togTo n ls sm r)
  | 0 => start_ok n ls sm
  | r + 1 => (sweep_ok hl (tog_ok hl r) sm.length (Nat.le_refl _)).1
theorem tog_falls (hl : LinksOk n ls sm) (r : Nat) {c : Nat} (hc : c < n) : (togTo n ls sm (r + 1)).getD c 0 ≤ (togTo n ls sm r).getD c 0 := (sweep_ok hl (tog_ok hl r) sm.length (Nat.le_refl _)).2.1 c hc
theorem tog_link (hl : LinksOk n ls sm) (r : Nat) {x y : Nat} (h : Joins ls sm x y ∨ Joins ls sm y x) : (togTo n ls sm (r + 1)).getD y 0 ≤ (togTo n ls sm r).getD x 0 := by
  have h3 := (sweep_ok hl (tog_ok hl r) sm.length (Nat.le_refl _)).2.2
  rcases h with ⟨k, hk, e1, e2⟩ | ⟨k, hk, e1, e2⟩
  · exact (h3 k hk x y e1 e2).2
  · exact (h3 k hk y x e1 e2).1
def Least (n : Nat) (ls : List Lk) (sm : List Int) (b m : Nat) : Prop := Conn (Joins ls sm) m b ∧ ∀ x, x < n → Conn (Joins ls sm) x b → m ≤ x
theorem least_is (b : Nat) (hb : b < n) : ∃ m, m < n ∧ Least n ls sm b m := by
  obtain ⟨m, ⟨h1, h2⟩, h3⟩ := least_of (T := fun x => x < n ∧ Conn (Joins ls sm) x b) b ⟨hb, .refl b⟩
  exact ⟨m, h1, h2, fun x hx hc => h3 x ⟨hx, hc⟩⟩
theorem Least.same {b c m : Nat} (h : Least n ls sm b m) (hc : Conn (Joins ls sm) b c) : Least n ls sm c m := ⟨h.1.trans hc, fun x hx hx2 => h.2 x hx (hx2.trans hc.symm)⟩
theorem Least.one {b m m' : Nat} (h : Least n ls sm b m) (h' : Least n ls sm b m') (hm : m < n) (hm' : m' < n) : m = m' := Nat.le_antisymm (h.2 m' hm' h'.1) (h'.2 m hm h.1)
/-- the label is the least -/
def Done (n : Nat) (ls : List Lk) (sm : List Int) (r b : Nat) : Prop := ∃ m, m < n ∧ Least n ls sm b m ∧ (togTo n ls sm r).getD b 0 = (m : Int)
theorem lab_ge (hl : LinksOk n ls sm) (r : Nat) {b m : Nat} (hb : b < n) (hm : Least n ls sm b m) : (m : Int) ≤ (togTo n ls sm r).getD b 0 := by
  obtain ⟨s, hs, hsn, hsc⟩ := (tog_ok hl r).2 b hb
  rw [List.getD_eq_getElem?_getD, hs]
  simp only [Option.getD_some]
  have := hm.2 s hsn hsc
  omega
theorem done_more (hl : LinksOk n ls sm) {r b : Nat} (hb : b < n) (h : Done n ls sm r b) : Done n ls sm (r + 1) b := by
  obtain ⟨m, hm, h1, h2⟩ := h
  exact ⟨m, hm, h1, Int.le_antisymm (h2 ▸ tog_falls hl r hb) (lab_ge hl (r + 1) hb h1)⟩
theorem done_link (hl : LinksOk n ls sm) {r x y : Nat} (hy : y < n) (h : Done n ls sm r x) (hj : Joins ls sm x y ∨ Joins ls sm y x) : Done n ls sm (r + 1) y := by
  obtain ⟨m, hm, h1, h2⟩ := h
  have h3 : Least n ls sm y m := h1.same (.step (.refl x) hj)
  exact ⟨m, hm, h3, Int.le_antisymm (h2 ▸ tog_link hl r hj) (lab_ge hl (r + 1) hy h3)⟩
theorem done_zero {m b : Nat} (hm : m < n) (h : Least n ls sm b m) : Done n ls sm 0 m := by
  refine ⟨m, hm, h.same h.1.symm, ?_⟩
  show (iota n).getD m 0 = _
  rw [List.getD_eq_getElem?_getD, iota_at hm]
  rfl
theorem done_from (hl : LinksOk n ls sm) {b : Nat} (hb : b < n) (h : Done n ls sm 0 b) : ∀ r, Done n ls sm r b
  | 0 => h
  | r + 1 => done_more hl hb (done_from hl hb h r)
theorem joins_lt (hl : LinksOk n ls sm) {x y : Nat} (h : Joins ls sm x y ∨ Joins ls sm y x) : x < n ∧ y < n := by
  rcases h with ⟨k, hk, e1, e2⟩ | ⟨k, hk, e1, e2⟩
  · obtain ⟨a, b, ea, eb, ha, hb⟩ := hl k hk
    exact ⟨by omega, by omega⟩
  · obtain ⟨a, b, ea, eb, ha, hb⟩ := hl k hk
    exact ⟨by omega, by omega⟩
/-- as long as one isn't done, a round does one more -/
theorem done_grows (hl : LinksOk n ls sm) (r : Nat) (h : ∃ b, b < n ∧ ¬ Done n ls sm r b) : ∃ y, y < n ∧ ¬ Done n ls sm r y ∧ Done n ls sm (r + 1) y := by
  obtain ⟨b, hb, hnd⟩ := h
  obtain ⟨m, hm, hle⟩ := least_is (ls := ls) (sm := sm) b hb
  have h0 := done_from hl hm (done_zero hm hle) r
  have key : ∀ {z : Nat}, Conn (Joins ls sm) m z → z < n → Done n ls sm r z ∨ ∃ y, y < n ∧ ¬ Done n ls sm r y ∧ Done n ls sm (r + 1) y := by
    intro z hc
    induction hc with
    | refl => intro _; exact .inl h0
    | @step y z hy hj ih =>
      intro hz
      rcases ih (joins_lt hl hj).1 with h1 | h1
      · by_cases h2 : Done n ls sm r z
        · exact .inl h2
        · exact .inr ⟨z, hz, h2, done_link hl hz h1 hj⟩
      · exact .inr h1
  rcases key hle.1 hb with h1 | h1
  · exact absurd h1 hnd
  · exact h1
open Classical in
theorem done_count (hl : LinksOk n ls sm) : ∀ r, (∀ b, b < n → Done n ls sm r b) ∨ r < (List.range n).countP (fun b => decide (Done n ls sm r b))
  | 0 => by
    by_cases h : ∃ b, b < n
    · obtain ⟨b, hb⟩ := h
      obtain ⟨m, hm, hle⟩ := least_is (ls := ls) (sm := sm) b hb
      right
      rw [List.countP_pos_iff]
      exact ⟨m, List.mem_range.2 hm, decide_eq_true (done_zero hm hle)⟩
    · exact .inl fun b hb => absurd ⟨b, hb⟩ h
  | r + 1 => by
    by_cases hall : ∀ b, b < n → Done n ls sm (r + 1) b
    · exact .inl hall
    · right
      have hnot : ¬ ∀ b, b < n → Done n ls sm r b := fun h => hall fun b hb => done_more hl hb (h b hb)
      have hex : ∃ b, b < n ∧ ¬ Done n ls sm r b := by
        apply Classical.byContradiction
        intro h
        exact hnot fun b hb => Classical.byContradiction fun h2 => h ⟨b, hb, h2⟩
      obtain ⟨y, hy, h1, h2⟩ := done_grows hl r hex
      have h3 := countP_lt (fun b => decide (Done n ls sm r b)) (fun b => decide (Done n ls sm (r + 1) b)) (List.range n)
        (fun x hx hd => decide_eq_true (done_more hl (List.mem_range.1 hx) (of_decide_eq_true hd))) ⟨y, List.mem_range.2 hy, decide_eq_true h2, decide_eq_false h1⟩
      rcases done_count hl r with h4 | h4
      · exact absurd h4 hnot
      · omega
/-- behind all rounds each label is the least number of what hangs together with it -/
theorem tog_least (hl : LinksOk n ls sm) {b : Nat} (hb : b < n) : ∃ m, m < n ∧ Least n ls sm b m ∧ (tog n ls sm)[b]? = some (m : Int) := by
  have hall : Done n ls sm n b := by
    rcases done_count hl n with h | h
    · exact h b hb
    · have := List.countP_le_length (p := fun b => @decide (Done n ls sm n b) (Classical.propDecidable _)) (l := List.range n)
      rw [List.length_range] at this
      omega
  obtain ⟨m, hm, h1, h2⟩ := hall
  refine ⟨m, hm, h1, ?_⟩
  obtain ⟨x, hx⟩ : ∃ x, (tog n ls sm)[b]? = some x := ⟨_, List.getElem?_eq_getElem (by rw [tog_len]; exact hb)⟩
  have e : (togTo n ls sm n).getD b 0 = x := by
    rw [List.getD_eq_getElem?_getD]
    show ((tog n ls sm)[b]?).getD 0 = x
    rw [hx]
    rfl
  rw [hx, ← e, h2]
/-- two labels are the same just if their bridges hang together -/
theorem tog_same (hl : LinksOk n ls sm) {b c : Nat} (hb : b < n) (hc : c < n) : (tog n ls sm)[b]? = (tog n ls sm)[c]? ↔ Conn (Joins ls sm) b c := by
  obtain ⟨m, hm, h1, e1⟩ := tog_least hl hb
  obtain ⟨m', hm', h2, e2⟩ := tog_least hl hc
  rw [e1, e2]
  constructor
  · intro h
    have e : m = m' := by injection h with h; omega
    subst e
    exact h1.1.symm.trans h2.1
  · intro h
    rw [(h1.same h).one h2 hm hm']
end
end Go.Proofs.Ytdgbemafhhhceaa.Tree
