/-
  Words for a range over a map: 'Rg E P K w b r ts lf': the loop at block r over the map in block b, which holds ts, has still to hand out the things lf.
-/
import Derived.Test.YtdgbemafhhhceaaMap
namespace Go.Proofs.Ytdgbemafhhhceaa
set_option linter.unusedVariables false
set_option linter.unusedSimpArgs false
open Go.RowKit Go.Maps
namespace Mp
set_option linter.unusedSectionVars false
section
variable {κ ε : Type} [DecidableEq κ] {E : Enc κ ε} {P : Program} {K : TypeId} {w w' : World} {b r : Nat} {ts lf : List ε}
def Rg (E : Enc κ ε) (P : Program) (K : TypeId) (w : World) (b r : Nat) (ts lf : List ε) : Prop :=
  ∃ es left cnt n, w.ranges P K E.R b r n (.map es) left cnt ∧ ts.length ≤ n ∧ es.Perm (ts.map (ent E)) ∧ (∀ z, left z = true ↔ ∃ x ∈ lf, E.kl (E.key x) = z) ∧ (∀ x ∈ lf, x ∈ ts) ∧ Apart E lf
theorem Rg.start (ok : Same E) (hd : Apart E ts) {es : List (Lit × DataW Unit)} (hp : es.Perm (ts.map (ent E))) (h : w.ranges P K E.R b r ts.length (.map es) (Maps.has (.map es)) (Maps.size (.map es))) : Rg E P K w b r ts ts :=
  ⟨es, _, _, _, h, Nat.le_refl _, hp, fun z => by
    rw [has_eq, List.any_eq_true]
    constructor
    · rintro ⟨p, h1, h2⟩
      obtain ⟨x, hx, rfl⟩ := List.mem_map.1 (hp.mem_iff.1 h1)
      exact ⟨x, hx, WideAt.sameKey_eq h2⟩
    · rintro ⟨x, hx, rfl⟩
      exact ⟨ent E x, hp.mem_iff.2 (List.mem_map.2 ⟨x, hx, rfl⟩), by show (E.kl (E.key x)).sameKey (E.kl (E.key x)) = true; rw [ok]; simp⟩, fun _ h => h, hd⟩
theorem Rg.kept {row : Option Nat} (h : Rg E P K w b r ts lf) (hg : w.grownBy w' row) (hb : some b ≠ row) (hr : some r ≠ row) : Rg E P K w' b r ts lf := by
  obtain ⟨es, left, cnt, n, h1, h2⟩ := h
  exact ⟨es, left, cnt, n, h1.kept hg hb hr, h2⟩
theorem Rg.alloc (h : Rg E P K w b r ts lf) (o : Obj) : Rg E P K (w.alloc o) b r ts lf := h.kept (World.grownBy_alloc w o none) (by simp) (by simp)
theorem Rg.has (h : Rg E P K w b r ts lf) : Has E P K w b ts := by
  obtain ⟨es, left, cnt, n, h1, _, h2, _⟩ := h
  exact ⟨es, tight h1.owns (by rw [h2.length_eq, List.length_map]), h2⟩
theorem Rg.lt (h : Rg E P K w b r ts lf) : r < w.heap.size := by
  obtain ⟨es, left, cnt, n, h1, _⟩ := h
  exact h1.lt
theorem Rg.left_kept {row : Option Nat} (h : Rg E P K w b r ts lf) (hg : w.grownBy w' row) (hb : some b ≠ row) (hr : some r ≠ row) : w'.rangeLeft b r = w.rangeLeft b r := by
  obtain ⟨es, left, cnt, n, h1, h2⟩ := h
  rw [(h1.kept hg hb hr).left_eq, h1.left_eq]
theorem Rg.left_alloc (h : Rg E P K w b r ts lf) (o : Obj) : (w.alloc o).rangeLeft b r = w.rangeLeft b r := h.left_kept (World.grownBy_alloc w o none) (by simp) (by simp)
variable (w : World) {ops : Array Oper} {rest : List Oper} {o : Oper} {a : Act} {Q : Exit → Act → World → Prop}
theorem wpList_rng (hg : o.guard = none) (m : Operand) (t : TypeId) (hop : o.op = Op.range t m) (k e : TypeId) (K : Keyed P k) (ht : P.underlying t = some (.map k e)) (ok : Same E) (b : Nat) (ts : List ε) (hd : Apart E ts) (hm : a.eval m = .map (some b)) (hown : Has E P k w b ts)
    (hK : ∀ w', Rg E P k w' b w.heap.size ts ts → w.grownBy w' none → w'.heap.size = w.heap.size + 1 → wpList P ops Q rest (a.put o.dst (.pointer (some ⟨w.heap.size, 0, none⟩))) w') : wpList P ops Q (o :: rest) a w := by
  obtain ⟨es, hes, hp⟩ := hown
  exact wpList_range_own w hg m t hop k e K ht E.R b _ _ hm hes (fun w' h1 h2 h3 => hK w' (Rg.start ok hd hp h1) h2 h3)
theorem wpList_nxt (hg : o.guard = none) (it : Operand) (hop : o.op = Op.next it false) (k : TypeId) (K : Keyed P k) (ok : Same E) (kv : κ → Value) (invK : ∀ key kl', keyOf P k key = some kl' → ∃ x, key = kv x) (kvK : ∀ y kl', keyOf P k (kv y) = some kl' → kl' = E.kl y) (b r : Nat) (ts lf : List ε) (hd : Apart E ts)
    (hit : a.eval it = .pointer (some ⟨r, 0, none⟩)) (h : Rg E P k w b r ts lf)
    (hDone : lf = [] → wpList P ops Q rest (a.put o.dst (.tuple #[.bool false])) w)
    (hMore : ∀ (x : ε) (l : List ε) (w' : World), lf.Perm (x :: l) → x ∈ ts → Rg E P k w' b r ts l → w'.rangeLeft b r < w.rangeLeft b r → w.grownBy w' (some r) → w'.heap.size = w.heap.size →
      (Instr.entry (.pointer (some ⟨r, 0, none⟩))).run P w' = .ok (.tuple #[kv (E.key x), E.val x]) w' → wpList P ops Q rest (a.put o.dst (.tuple #[.bool true, kv (E.key x), E.val x])) w') : wpList P ops Q (o :: rest) a w := by
  obtain ⟨es, left, cnt, n, hrg, hnl, hp, hleft, hsub, hdl⟩ := h
  refine wpList_next_ranges w hg it hop k K E.R kv E.val invK (fun v y hv => by obtain ⟨c, h1, _⟩ := E.inv hv; exact ⟨c, h1⟩) b r _ _ left cnt hit hrg ?_ ?_
  · intro _ hl
    refine hDone ?_
    cases lf with
    | nil => rfl
    | cons x l => have := (hleft (E.kl (E.key x))).2 ⟨x, by simp, rfl⟩; rw [hl] at this; cases this
  · intro y c kl' z w1 cnt1 hkey hlk hv hat hrg1 hlt hgr hsz hen
    obtain ⟨x, hx, e1⟩ := (hleft kl').1 hlk
    have hxt : x ∈ ts := hsub x hx
    have ey : y = E.key x := by
      have h2 := kvK _ _ hkey
      have h3 : (E.kl y).sameKey (E.kl (E.key x)) = true := by rw [← h2, ← e1, ok]; simp
      rw [ok] at h3
      simpa using h3
    subst ey
    have hz := at_perm ok hp hd hxt (.agg [])
    rw [e1, hat] at hz
    have hc : E.val c = E.val x := by
      rw [E.out] at hv
      injection hv with hv
      rw [← hv] at hz
      exact E.inj hz
    rw [hc] at hen ⊢
    obtain ⟨l, hl⟩ := perm_mid hx
    have hdl' : Apart E (x :: l) := (hl.pairwise_iff (fun {x y} (h : E.key x ≠ E.key y) => Ne.symm h)).1 hdl
    have hdc := List.pairwise_cons.1 hdl'
    refine hMore x l w1 hl hxt ⟨es, _, cnt1, n, hrg1, hnl, hp, ?_, fun y hy => hsub y (hl.mem_iff.2 (List.mem_cons_of_mem _ hy)), hdc.2⟩ (by rw [hrg1.left_eq, hrg.left_eq]; exact hlt) hgr hsz hen
    intro z
    rw [Bool.and_eq_true, hleft, ← e1]
    constructor
    · rintro ⟨⟨x2, h1, rfl⟩, h2⟩
      rcases List.mem_cons.1 (hl.mem_iff.1 h1) with rfl | h3
      · rw [ok] at h2; simp at h2
      · exact ⟨x2, h3, rfl⟩
    · rintro ⟨x2, h1, rfl⟩
      refine ⟨⟨x2, hl.mem_iff.2 (List.mem_cons_of_mem _ h1), rfl⟩, ?_⟩
      rw [ok]
      have := hdc.1 x2 h1
      simp [Ne.symm this]
theorem wpList_delR (hg : o.guard = none) (m x : Operand) (t k : TypeId) (hop : o.op = Op.call { callee := Callee.builtin Builtin.delete, args := #[m, x], argTypes := #[t, k] }) (e : TypeId) (K : Keyed P k) (ht : P.underlying t = some (.map k e))
    (ok : Same E) (b r : Nat) (ts lf : List ε) (hm : a.eval m = .map (some b)) (h : Rg E P k w b r ts lf) (key : Value) (y : κ) (hx : a.eval x = key) (hkey : keyOf P k key = some (E.kl y))
    (hK : ∀ w', Rg E P k w' b r (ts.filter fun x => !keyIs E y x) (lf.filter fun x => !keyIs E y x) → w'.rangeLeft b r ≤ w.rangeLeft b r → w.grownBy w' (some b) → wpList P ops Q rest (a.put o.dst (.tuple #[])) w') : wpList P ops Q (o :: rest) a w := by
  obtain ⟨es, left, cnt, n, hrg, hnl, hp, hleft, hsub, hdl⟩ := h
  refine wpList_delete_ranges w hg m x t k hop e K ht E.R b r _ _ left cnt hm hrg key (E.kl y) hx hkey (fun w' cnt' h1 h2 h3 => hK w' ?_ (by rw [h1.left_eq, hrg.left_eq]; exact h2) h3.grown)
  obtain ⟨es', he, hp'⟩ := del_perm ok hp y
  rw [he] at h1
  refine ⟨es', _, cnt', n, h1, Nat.le_trans (List.length_filter_le _ _) hnl, hp', fun z => ?_, fun x hx => ?_, hdl.filter _⟩
  · rw [Bool.and_eq_true, hleft]
    constructor
    · rintro ⟨⟨x2, h1, rfl⟩, h2⟩
      rw [ok] at h2
      exact ⟨x2, List.mem_filter.2 ⟨h1, by simpa [keyIs] using h2⟩, rfl⟩
    · rintro ⟨x2, h1, rfl⟩
      have h2 := List.mem_filter.1 h1
      refine ⟨⟨x2, h2.1, rfl⟩, ?_⟩
      rw [ok]
      simpa [keyIs] using h2.2
  · have h2 := List.mem_filter.1 hx
    exact List.mem_filter.2 ⟨hsub x h2.1, h2.2⟩
end
end Mp
end Go.Proofs.Ytdgbemafhhhceaa
