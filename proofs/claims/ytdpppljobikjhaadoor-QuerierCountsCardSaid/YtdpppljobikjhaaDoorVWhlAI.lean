/-
  Wheel[int]: its methods' contracts in one form, over a wheel that keeps the rules.
-/
import Derived.Test.YtdpppljobikjhaaDoorVWhlDI
namespace Go.Proofs.YtdpppljobikjhaaDoor
set_option linter.unusedVariables false
set_option linter.unusedSimpArgs false
open Go.RowKit Go.Maps
namespace WhlI
open Whl WhlC
structure Good (tu : Int) (ts : List Tm) : Prop where
  keys : ts.Pairwise fun x y => x.1 ≠ y.1
  rise : ts.Pairwise fun x y => x.2.2 < y.2.2
  top : ∀ x ∈ ts, x.2.2 ≤ tu
  wf : ∀ x ∈ ts, (Lit.int .i64 x.1).wf = true
theorem Good.nil (tu : Int) : Good tu [] := ⟨List.Pairwise.nil, List.Pairwise.nil, by simp, by simp⟩
theorem Good.filter {tu : Int} {ts : List Tm} (h : Good tu ts) (p : Tm → Bool) : Good tu (ts.filter p) :=
  ⟨h.keys.filter _, h.rise.filter _, fun x hx => h.top x (List.mem_filter.1 hx).1, fun x hx => h.wf x (List.mem_filter.1 hx).1⟩
theorem Good.arm {tu : Int} {ts : List Tm} (h : Good tu ts) {k : Int} (hk : (Lit.int .i64 k).wf = true) (t : Int) : Good (tu + 1) ((ts.filter fun x => !keyIs k x) ++ [(k, t, tu + 1)]) := by
  have hf := h.filter fun x => !keyIs k x
  refine ⟨?_, ?_, ?_, ?_⟩
  · rw [List.pairwise_append]
    refine ⟨hf.keys, List.pairwise_singleton _ _, fun x hx y hy => ?_⟩
    simp at hy; subst hy
    have := (List.mem_filter.1 hx).2
    simpa [keyIs] using this
  · rw [List.pairwise_append]
    refine ⟨hf.rise, List.pairwise_singleton _ _, fun x hx y hy => ?_⟩
    simp at hy; subst hy
    have := hf.top x hx
    simp only
    omega
  · intro x hx
    rcases List.mem_append.1 hx with hx | hx
    · have := hf.top x hx; omega
    · simp at hx; subst hx; exact Int.le_refl _
  · intro x hx
    rcases List.mem_append.1 hx with hx | hx
    · exact hf.wf x hx
    · simp at hx; subst hx; exact hk
theorem rise_tri : ∀ (ts : List Tm), (ts.Pairwise fun x y => x.2.2 < y.2.2) → ∀ {a b : Tm}, a ∈ ts → b ∈ ts → a.2.2 < b.2.2 ∨ a = b ∨ b.2.2 < a.2.2
  | [], _, _, _, ha, _ => absurd ha (by simp)
  | t :: r, h, a, b, ha, hb => by
    rw [List.pairwise_cons] at h
    rcases List.mem_cons.1 ha with e | ha'
    · rcases List.mem_cons.1 hb with e' | hb'
      · exact Or.inr (Or.inl (e.trans e'.symm))
      · exact Or.inl (e ▸ h.1 _ hb')
    · rcases List.mem_cons.1 hb with e' | hb'
      · exact Or.inr (Or.inr (e' ▸ h.1 _ ha'))
      · exact rise_tri r h.2 ha' hb'
/-- there is one list of what is due -/
theorem due_one {tu : Int} {ts : List Tm} (h : Good tu ts) {now : Int} {l1 l2 : List Tm} (h1 : DueIs ts now l1) (h2 : DueIs ts now l2) : l1 = l2 := by
  obtain ⟨p1, s1⟩ := h1
  obtain ⟨p2, s2⟩ := h2
  have hp := p1.trans p2.symm
  have e : ∀ (a b : Tm), a ∈ l1 → b ∈ l2 → (¬ cmpT b.2 a.2 < 0) → (¬ cmpT a.2 b.2 < 0) → a = b := by
    intro a b ha hb hab hba
    rw [cmpT_neg] at hab hba
    have ha' := (List.mem_filter.1 (p1.mem_iff.1 ha)).1
    have hb' := (List.mem_filter.1 (p2.mem_iff.1 hb)).1
    rcases rise_tri ts h.rise ha' hb' with h3 | h3 | h3
    · omega
    · exact h3
    · omega
  exact List.Perm.eq_of_pairwise e s1 s2 hp
theorem HasT.keep {ys : List Nat} {w w' : World} {b : Nat} {ts : List Tm} (h : HasT Tryd.prog 3 kl w b ts) (hk : Keep ys w w') (hb : b ∉ ys) : HasT Tryd.prog 3 kl w' b ts := by
  have hlt := h.lt
  obtain ⟨es, ⟨es0, clock, h1, F, hs, hD⟩, hp⟩ := h
  exact ⟨es, ⟨es0, clock, (hk.block b hlt hb).trans h1, F, hs, hD⟩, hp⟩
structure On (w : World) (g b : Nat) (room tu : Int) (ts : List Tm) : Prop where
  at_ : At w g b room tu ts
  good : Good tu ts
section
variable {w w' : World} {g b : Nat} {room tu : Int} {ts : List Tm}
theorem On.lt (h : On w g b room tu ts) : g < w.heap.size ∧ b < w.heap.size := h.at_.lt
theorem On.keep {ys : List Nat} (h : On w g b room tu ts) (hk : Keep ys w w') (hg : g ∉ ys) (hb : b ∉ ys) : On w' g b room tu ts := ⟨⟨Keep.blk hk h.at_.blk hg, HasT.keep h.at_.map hk hb, h.at_.ne⟩, h.good⟩
theorem On.below (h : On w g b room tu ts) (hb : Below w.heap.size w w') : On w' g b room tu ts := h.keep (Keep.of_below hb []) (by simp) (by simp)
def armS (room tu : Int) (ts : List Tm) (k : Int) (t : Int) : Int × Int × List Tm :=
  if t < 0 then (1, tu, ts) else if ts.any (keyIs k) = false ∧ room ≤ ts.length then (5, tu, ts) else (0, tu + 1, (ts.filter fun x => !keyIs k x) ++ [(k, t, tu + 1)])
theorem arm_ (h : On w g b room tu ts) {k : Int} (hk : (Lit.int .i64 k).wf = true) (t : Int) (hn : ts.length ≤ 5000) (h0 : 0 ≤ tu) (h1 : tu < 4611686018427387904) :
    Calls Tryd.prog 24 #[.pointer (some ⟨g, 0, none⟩), (.int .i64 k), .int .i64 t] w fun e w' => e = .returned (.int .i64 (armS room tu ts k t).1) ∧ Keep [g, b] w w' ∧ On w' g b room (armS room tu ts k t).2.1 (armS room tu ts k t).2.2 := by
  unfold armS
  by_cases ht : t < 0
  · rw [if_pos ht]
    exact (arm_neg w g b room tu ts h.at_ h.good.keys k hk t ht).mono fun _ _ q => ⟨q.1, Keep.of_below q.2 _, h.below q.2⟩
  · rw [if_neg ht]
    by_cases hf : ts.any (keyIs k) = false ∧ room ≤ ts.length
    · rw [if_pos hf]
      exact (arm_full w g b room tu ts h.at_ h.good.keys k hk t (by omega) hf.1 hf.2).mono fun _ _ q => ⟨q.1, q.2.mono (by simp), h.keep q.2 (by simp) (by simp)⟩
    · rw [if_neg hf]
      refine (arm_ok w g b room tu ts h.at_ h.good.keys k hk t (by omega) ?_ (by unfold maxLen; omega) h0 h1).mono fun _ _ q => ⟨q.1, q.2.1, q.2.2, h.good.arm hk t⟩
      cases ha : ts.any (keyIs k)
      · right
        rw [ha] at hf
        simp at hf
        omega
      · left; rfl
theorem dueO (h : On w g b room tu ts) (hn : ts.length ≤ 5000) (now : Int) :
    Calls Tryd.prog 28 #[.pointer (some ⟨g, 0, none⟩), .int .i64 now] w fun e w' => ∃ (l : List Tm) (v : Value), DueIs ts now l ∧ e = .returned v ∧ w'.ownsRow w.heap.size 3 1 v l.length (l.map fun x => kv x.1) ∧
      Keep [b] w w' ∧ On w' g b room tu (ts.filter fun x => !isDue now x) :=
  (due_ w g b room tu ts h.at_ h.good.keys h.good.wf hn now).mono fun _ _ ⟨l, v, h1, h2, h3, h4, h5⟩ => ⟨l, v, h1, h2, h3, h4, ⟨Keep.blk h4 h.at_.blk (by simpa using h.at_.ne), h5, h.at_.ne⟩, h.good.filter _⟩
/-- what Next says -/
def NextV (ts : List Tm) (m : Int) (is : Bool) : Prop := (ts = [] ∧ m = 0 ∧ is = false) ∨ (NextIs ts m ∧ is = true)
theorem nextO (h : On w g b room tu ts) (hn : ts.length ≤ 5000) :
    Calls Tryd.prog 27 #[.pointer (some ⟨g, 0, none⟩)] w fun e w' => (∃ m is, NextV ts m is ∧ e = .returned (.tuple #[.int .i64 m, .bool is])) ∧ Below w.heap.size w w' := by
  cases ts with
  | nil => exact (next_none w g b room tu h.at_).mono fun _ _ q => ⟨⟨0, false, Or.inl ⟨rfl, rfl, rfl⟩, q.1⟩, q.2⟩
  | cons x r => exact (next_ w g b room tu _ h.at_ h.good.keys hn (by simp)).mono fun _ _ ⟨⟨m, h1, h2⟩, h3⟩ => ⟨⟨m, true, Or.inr ⟨h1, rfl⟩, h2⟩, h3⟩
theorem next_one {m m' : Int} {is is' : Bool} (h : NextV ts m is) (h' : NextV ts m' is') : m = m' ∧ is = is' := by
  rcases h with ⟨h1, h2, h3⟩ | ⟨⟨⟨x, hx, e⟩, h1⟩, h2⟩
  · rcases h' with ⟨_, h2', h3'⟩ | ⟨⟨⟨x, hx, _⟩, _⟩, _⟩
    · exact ⟨by rw [h2, h2'], by rw [h3, h3']⟩
    · rw [h1] at hx; cases hx
  · rcases h' with ⟨h1', _, _⟩ | ⟨⟨⟨y, hy, e'⟩, h1'⟩, h2'⟩
    · rw [h1'] at hx; cases hx
    · have := h1 y hy; have := h1' x hx
      exact ⟨by omega, by rw [h2, h2']⟩
theorem newO (w : World) (n : Int) (h1 : 1 ≤ n) (h2 : n ≤ 4096) :
    Calls Tryd.prog 23 #[.int .i64 n] w fun e w' => e = .returned (.tuple #[.pointer (some ⟨w.heap.size + 1, 0, none⟩), .int .i64 0]) ∧ Below w.heap.size w w' ∧ On w' (w.heap.size + 1) w.heap.size n 0 [] :=
  (new_ok w n h1 h2).mono fun _ _ q => ⟨q.1, q.2.1, q.2.2, Good.nil 0⟩
end
end WhlI
end Go.Proofs.YtdpppljobikjhaaDoor
