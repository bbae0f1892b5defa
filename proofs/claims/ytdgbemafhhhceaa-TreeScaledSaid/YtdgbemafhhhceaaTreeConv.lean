/-
  Rounds of least ways come to rest: a plain law. D' b is the least of D0 b and of D to + c over the ends (b, to, c); begun with D0, nothing changes any more behind n - 1 rounds.
-/
namespace Go.Proofs.Ytdgbemafhhhceaa.Conv
set_option linter.unusedVariables false
set_option linter.unusedSimpArgs false
theorem countP_lt {α : Type} (p q : α → Bool) : ∀ (l : List α), (∀ x ∈ l, p x = true → q x = true) → (∃ y ∈ l, q y = true ∧ p y = false) → l.countP p < l.countP q
  | [], _, ⟨y, hy, _⟩ => by simp at hy
  | a :: r, h, hy => by
    have hle : r.countP p ≤ r.countP q := List.countP_mono_left (fun x hx hp => h x (by simp [hx]) hp)
    rw [List.countP_cons, List.countP_cons]
    obtain ⟨y, hy, h1, h2⟩ := hy
    rcases List.mem_cons.1 hy with e | hy
    · rw [← e, h1, h2]
      simp
      omega
    · have ih := countP_lt p q r (fun x hx => h x (by simp [hx])) ⟨y, hy, h1, h2⟩
      have ha := h a (by simp)
      by_cases hp : p a = true
      · rw [hp, ha hp]
        omega
      · have hp' : p a = false := by simpa using hp
        rw [hp']
        simp
        omega
abbrev Ed := Nat × Nat × Nat
structure IsF (n : Nat) (D0 : Nat → Nat) (E : List Ed) (D D' : Nat → Nat) : Prop where
  lo0 : ∀ b, b < n → D' b ≤ D0 b
  lo : ∀ e ∈ E, e.1 < n → D' e.1 ≤ D e.2.1 + e.2.2
  at_ : ∀ b, b < n → D' b = D0 b ∨ ∃ e ∈ E, e.1 = b ∧ D' b = D e.2.1 + e.2.2
def EOk (n : Nat) (E : List Ed) : Prop := ∀ e ∈ E, e.1 < n ∧ e.2.1 < n ∧ 1 ≤ e.2.2
def minTo (D : Nat → Nat) (b : Nat) : List Ed → Nat → Nat
  | [], m => m
  | e :: r, m => minTo D b r (if e.1 = b then min m (D e.2.1 + e.2.2) else m)
theorem minTo_le (D : Nat → Nat) (b : Nat) : ∀ (E : List Ed) (m : Nat), minTo D b E m ≤ m
  | [], m => Nat.le_refl _
  | e :: r, m => by
    unfold minTo
    have := minTo_le D b r (if e.1 = b then min m (D e.2.1 + e.2.2) else m)
    split at this <;> split <;> omega
theorem minTo_lo (D : Nat → Nat) (b : Nat) : ∀ (E : List Ed) (m : Nat), ∀ e ∈ E, e.1 = b → minTo D b E m ≤ D e.2.1 + e.2.2
  | [], m, e, he, _ => by simp at he
  | x :: r, m, e, he, hb => by
    unfold minTo
    rcases List.mem_cons.1 he with h | h
    · subst h
      rw [if_pos hb]
      have := minTo_le D b r (min m (D e.2.1 + e.2.2))
      omega
    · exact minTo_lo D b r _ e h hb
theorem minTo_at (D : Nat → Nat) (b : Nat) : ∀ (E : List Ed) (m : Nat), minTo D b E m = m ∨ ∃ e ∈ E, e.1 = b ∧ minTo D b E m = D e.2.1 + e.2.2
  | [], m => .inl rfl
  | x :: r, m => by
    unfold minTo
    rcases minTo_at D b r (if x.1 = b then min m (D x.2.1 + x.2.2) else m) with h | ⟨e, he, h1, h2⟩
    · by_cases hx : x.1 = b
      · rw [if_pos hx] at h ⊢
        rcases Nat.le_total m (D x.2.1 + x.2.2) with hm | hm
        · left; rw [h]; omega
        · exact .inr ⟨x, by simp, hx, by rw [h]; omega⟩
      · rw [if_neg hx] at h ⊢
        exact .inl h
    · exact .inr ⟨e, by simp [he], h1, h2⟩
section
variable {n : Nat} {D0 : Nat → Nat} {E : List Ed}
def S (D0 : Nat → Nat) (E : List Ed) : Nat → Nat → Nat
  | 0 => D0
  | r + 1 => fun b => minTo (S D0 E r) b E (D0 b)
theorem S_is (r : Nat) : IsF n D0 E (S D0 E r) (S D0 E (r + 1)) :=
  ⟨fun b _ => minTo_le _ _ _ _, fun e he _ => minTo_lo _ _ _ _ e he rfl, fun b _ => minTo_at _ _ _ _⟩
theorem IsF.one (hE : EOk n E) {D D' A A' : Nat → Nat} (h : IsF n D0 E D D') (k : IsF n D0 E A A') (he : ∀ b, b < n → D b = A b) : ∀ b, b < n → D' b = A' b := by
  have key : ∀ {D D' A A' : Nat → Nat}, IsF n D0 E D D' → IsF n D0 E A A' → (∀ b, b < n → D b = A b) → ∀ b, b < n → D' b ≤ A' b := by
    intro D D' A A' h k he b hb
    rcases k.at_ b hb with e | ⟨e, he1, h1, h2⟩
    · rw [e]; exact h.lo0 b hb
    · have := h.lo e he1 (by rw [h1]; exact hb)
      rw [h1, he _ (hE e he1).2.1] at this
      omega
  intro b hb
  exact Nat.le_antisymm (key h k he b hb) (key k h (fun b hb => (he b hb).symm) b hb)
theorem falls : ∀ (r b : Nat), S D0 E (r + 1) b ≤ S D0 E r b
  | 0, b => (S_is (n := b + 1) (D0 := D0) (E := E) 0).lo0 b (by omega)
  | r + 1, b => by
    rcases (S_is (n := b + 1) (D0 := D0) (E := E) r).at_ b (by omega) with e | ⟨e, he, h1, h2⟩
    · rw [e]; exact (S_is (n := b + 1) (D0 := D0) (E := E) (r + 1)).lo0 b (by omega)
    · have h3 := (S_is (n := b + 1) (D0 := D0) (E := E) (r + 1)).lo e he (by omega)
      rw [h1] at h3
      have h4 := falls r e.2.1
      omega
theorem falls_to (r d b : Nat) : S D0 E (r + d) b ≤ S D0 E r b := by
  induction d with
  | zero => exact Nat.le_refl _
  | succ d ih => exact Nat.le_trans (falls (r + d) b) ih
def total (f : Nat → Nat) (n : Nat) : Nat := ((List.range n).map f).sum
theorem total_le {f g : Nat → Nat} : ∀ n, (∀ b, b < n → f b ≤ g b) → total f n ≤ total g n
  | 0, _ => Nat.le_refl _
  | n + 1, h => by
    have ih := total_le n (fun b hb => h b (by omega))
    have h1 := h n (by omega)
    unfold total at *
    rw [List.range_succ, List.map_append, List.sum_append, List.map_append, List.sum_append]
    simp
    omega
theorem total_eq {f g : Nat → Nat} : ∀ n, (∀ b, b < n → f b ≤ g b) → total f n = total g n → ∀ b, b < n → f b = g b
  | 0, _, _, b, hb => by omega
  | n + 1, h, he, b, hb => by
    have h1 := h n (by omega)
    have h2 := total_le n (fun b hb => h b (by omega))
    have e : total f n + f n = total g n + g n := by
      unfold total at *
      rw [List.range_succ, List.map_append, List.sum_append, List.map_append, List.sum_append] at he
      simpa using he
    by_cases hbn : b < n
    · exact total_eq n (fun b hb => h b (by omega)) (by omega) b hbn
    · have : b = n := by omega
      subst this
      omega
theorem stops (n : Nat) : ∃ m, ∀ b, b < n → S D0 E (m + 1) b = S D0 E m b := by
  have key : ∀ t r, total (S D0 E r) n ≤ t → ∃ m, ∀ b, b < n → S D0 E (m + 1) b = S D0 E m b := by
    intro t
    induction t with
    | zero =>
      intro r hr
      refine ⟨r, total_eq n (fun b _ => falls r b) ?_⟩
      have := total_le n (fun b _ => falls (D0 := D0) (E := E) r b)
      omega
    | succ t ih =>
      intro r hr
      have h1 := total_le n (fun b _ => falls (D0 := D0) (E := E) r b)
      by_cases h2 : total (S D0 E (r + 1)) n = total (S D0 E r) n
      · exact ⟨r, total_eq n (fun b _ => falls r b) h2⟩
      · exact ih (r + 1) (by omega)
  exact key _ 0 (Nat.le_refl _)
theorem stands (hE : EOk n E) {m : Nat} (hm : ∀ b, b < n → S D0 E (m + 1) b = S D0 E m b) : ∀ d b, b < n → S D0 E (m + d) b = S D0 E m b
  | 0, b, _ => rfl
  | d + 1, b, hb => by
    have ih := stands hE hm d
    have h := IsF.one hE (S_is (n := n) (D0 := D0) (E := E) (m + d)) (S_is m) ih b hb
    exact h.trans (hm b hb)
/-- behind n - 1 rounds nothing changes any more -/
theorem rests (hE : EOk n E) : ∀ r b, n ≤ r + 1 → b < n → S D0 E (r + 1) b = S D0 E r b := by
  obtain ⟨m, hm⟩ := stops (D0 := D0) (E := E) n
  have hst := stands hE hm
  have hge : ∀ r b, b < n → S D0 E m b ≤ S D0 E r b := by
    intro r b hb
    by_cases h : r ≤ m
    · have := falls_to (D0 := D0) (E := E) r (m - r) b
      rw [Nat.add_sub_cancel' h] at this
      exact this
    · have := hst (r - m) b hb
      rw [Nat.add_sub_cancel' (by omega)] at this
      omega
  have hfix := fun b hb => (S_is (n := n) (D0 := D0) (E := E) m).at_ b hb
  have hrank : ∀ k b, b < n → (List.range n).countP (fun x => decide (S D0 E m x < S D0 E m b)) ≤ k → S D0 E k b = S D0 E m b := by
    intro k
    induction k with
    | zero =>
      intro b hb hr
      refine Nat.le_antisymm ?_ (hge 0 b hb)
      rcases hfix b hb with e | ⟨e, he, h1, h2⟩
      · rw [hm b hb] at e
        rw [e]
        exact Nat.le_refl _
      · rw [hm b hb] at h2
        have h3 : 0 < (List.range n).countP (fun x => decide (S D0 E m x < S D0 E m b)) := by
          rw [List.countP_pos_iff]
          exact ⟨e.2.1, List.mem_range.2 (hE e he).2.1, by have := (hE e he).2.2; simp; omega⟩
        omega
    | succ k ih =>
      intro b hb hr
      refine Nat.le_antisymm ?_ (hge (k + 1) b hb)
      rcases hfix b hb with e | ⟨e, he, h1, h2⟩
      · rw [hm b hb] at e
        rw [e]
        exact (S_is (n := n) k).lo0 b hb
      · rw [hm b hb] at h2
        have hc := (hE e he).2.2
        have h3 : (List.range n).countP (fun x => decide (S D0 E m x < S D0 E m e.2.1)) < (List.range n).countP (fun x => decide (S D0 E m x < S D0 E m b)) :=
          countP_lt _ _ _ (fun x _ hx => by simp at hx ⊢; omega) ⟨e.2.1, List.mem_range.2 (hE e he).2.1, by simp; omega, by simp⟩
        have h4 := ih e.2.1 (hE e he).2.1 (by omega)
        have h5 := (S_is (n := n) (D0 := D0) (E := E) k).lo e he (by rw [h1]; exact hb)
        rw [h1, h4] at h5
        omega
  have hlt : ∀ b, b < n → (List.range n).countP (fun x => decide (S D0 E m x < S D0 E m b)) < n := by
    intro b hb
    have h := countP_lt (fun x => decide (S D0 E m x < S D0 E m b)) (fun _ => true) (List.range n) (fun _ _ _ => rfl) ⟨b, List.mem_range.2 hb, rfl, by simp⟩
    simpa using h
  intro r b hr hb
  have h1 := hlt b hb
  rw [hrank r b hb (by omega), hrank (r + 1) b hb (by omega)]
end
end Go.Proofs.Ytdgbemafhhhceaa.Conv
