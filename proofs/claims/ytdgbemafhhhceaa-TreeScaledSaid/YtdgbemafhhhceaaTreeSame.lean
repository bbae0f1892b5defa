/-
  The program's way of hearing (a bridge's own sides, in whatever order) and the document's (all ends of all links) give the same.
-/
import Derived.Test.YtdgbemafhhhceaaTreeMath
namespace Go.Proofs.Ytdgbemafhhhceaa.Tree
set_option linter.unusedVariables false
set_option linter.unusedSimpArgs false
open Go.Proofs.Ytdgbemafhhhceaa.Prio
def sdAt (sides : List Sd) (i : Nat) : List Sd := sides.filter fun s => decide (s.at_ = (i : Int))
theorem fold_at (ids : List Int) (best : List Vec) (i : Nat) : ∀ (sides : List Sd) (out : List Heard), (sdAt sides i).foldl (stepS ids best) out = (sides.map asEn).foldl (stepE ids best i) out
  | [], out => rfl
  | s :: r, out => by
    unfold sdAt
    rw [List.map_cons, List.foldl_cons]
    by_cases h : s.at_ = (i : Int)
    · rw [List.filter_cons_of_pos (by simp [h]), List.foldl_cons]
      have e : stepE ids best i out (asEn s) = stepS ids best out s := by
        unfold stepE stepS asEn
        rw [if_pos h]
      rw [e]
      exact fold_at ids best i r _
    · rw [List.filter_cons_of_neg (by simp [h])]
      have e : stepE ids best i out (asEn s) = out := by
        unfold stepE asEn
        rw [if_neg h]
      rw [e]
      exact fold_at ids best i r _
theorem heardS_at (ids : List Int) (best : List Vec) (ls : List Lk) (i : Nat) : heardS ids best (sdAt (sidesOf ls) i) = heardE ids best (endsOf ls) i := by
  unfold heardS heardE
  rw [fold_at, sidesOf_ends]
/-- the ports of a bridge's sides are apart -/
theorem sides_apart {ids : List Int} {ls : List Lk} (h : May ids ls) : (sidesOf ls).Pairwise fun x y => ¬ SamePort (asEn x) (asEn y) := by
  have := h.ap
  unfold Apart2 at this
  rw [← sidesOf_ends, List.pairwise_map] at this
  exact this
theorem same_side {l : List Sd} (h : l.Pairwise fun x y => ¬ SamePort (asEn x) (asEn y)) : ∀ x ∈ l, ∀ y ∈ l, SamePort (asEn x) (asEn y) → x = y := by
  induction l with
  | nil => intro x hx; simp at hx
  | cons a r ih =>
    obtain ⟨h1, h2⟩ := List.pairwise_cons.1 h
    intro x hx y hy hs
    rcases List.mem_cons.1 hx with ex | hx2
    · rcases List.mem_cons.1 hy with ey | hy2
      · rw [ex, ey]
      · exact absurd (ex ▸ hs) (h1 y hy2)
    · rcases List.mem_cons.1 hy with ey | hy2
      · exact absurd ⟨(ey ▸ hs).1.symm, (ey ▸ hs).2.symm⟩ (h1 x hx2)
      · exact ih h2 x hx2 y hy2 hs
theorem side_ok {ids : List Int} {ls : List Lk} (h : May ids ls) {s : Sd} (hs : s ∈ sidesOf ls) : EndOk ids.length (asEn s) ∧ 0 ≤ s.fat ∧ s.fat < ids.length := by
  have hm : asEn s ∈ endsOf ls := by rw [← sidesOf_ends]; exact List.mem_map.2 ⟨s, hs, rfl⟩
  have := h.to_ hm
  exact ⟨h.ok _ hm, this.1, this.2.1⟩
theorem heard_same {ids : List Int} {ls : List Lk} (h : May ids ls) (best : List Vec) {i : Nat} {sd : List Sd} (hp : sd.Perm (sdAt (sidesOf ls) i)) : heardS ids best sd = heardE ids best (endsOf ls) i := by
  rw [← heardS_at]
  unfold heardS
  refine hp.foldl_eq' (fun x hx y hy z => ?_) _
  have hx' := List.mem_filter.1 (hp.mem_iff.1 hx)
  have hy' := List.mem_filter.1 (hp.mem_iff.1 hy)
  by_cases hxy : x = y
  · subst hxy; rfl
  · have hx2 := (side_ok h hx'.1).1
    have hy2 := (side_ok h hy'.1).1
    have hxa : x.at_ = (i : Int) := of_decide_eq_true hx'.2
    have hya : y.at_ = (i : Int) := of_decide_eq_true hy'.2
    have hne : x.port ≠ y.port := fun e => hxy (same_side (sides_apart h) x hx'.1 y hy'.1 ⟨hxa.trans hya.symm, e⟩)
    have hxp : 0 ≤ x.port := hx2.p0
    have hyp : 0 ≤ y.port := hy2.p0
    unfold stepS
    exact (List.set_comm _ _ (by omega)).symm
end Go.Proofs.Ytdgbemafhhhceaa.Tree
