/-
  The plain functions of the tree: ends of links, what may be, what a bridge hears, the rounds, the roles at rest.
-/
import Derived.Test.YtdgbemafhhhceaaPrioMath
namespace Go.Proofs.Ytdgbemafhhhceaa.Tree
set_option linter.unusedVariables false
set_option linter.unusedSimpArgs false
open Go.Proofs.Ytdgbemafhhhceaa.Prio
structure Lk where
  a : Int
  pa : Int
  b : Int
  pb : Int
  cost : Int
deriving DecidableEq
structure En where
  at_ : Int
  port : Int
  to : Int
  far : Int
  cost : Int
deriving DecidableEq
/-- an end as the program keeps it: with its link's number, and whether it is the first one -/
structure Sd where
  at_ : Int
  port : Int
  fat : Int
  far : Int
  cost : Int
  link : Int
  first : Bool
deriving DecidableEq, Inhabited
def two (l : Lk) : List En := [⟨l.a, l.pa, l.b, l.pb, l.cost⟩, ⟨l.b, l.pb, l.a, l.pa, l.cost⟩]
def endsOf (ls : List Lk) : List En := ls.flatMap two
def sd2 (i : Nat) (l : Lk) : List Sd := [⟨l.a, l.pa, l.b, l.pb, l.cost, i, true⟩, ⟨l.b, l.pb, l.a, l.pa, l.cost, i, false⟩]
def sidesTo (ls : List Lk) : Nat → List Sd
  | 0 => []
  | k + 1 => match ls[k]? with
    | some l => sidesTo ls k ++ sd2 k l
    | none => sidesTo ls k
theorem sidesTo_step {ls : List Lk} {k : Nat} {l : Lk} (h : ls[k]? = some l) : sidesTo ls (k + 1) = sidesTo ls k ++ sd2 k l := by simp [sidesTo, h]
def sidesOf (ls : List Lk) : List Sd := sidesTo ls ls.length
def asEn (s : Sd) : En := ⟨s.at_, s.port, s.fat, s.far, s.cost⟩
theorem asEn_two (i : Nat) (l : Lk) : (sd2 i l).map asEn = two l := rfl
theorem endsOf_take {ls : List Lk} {k : Nat} {l : Lk} (h : ls[k]? = some l) : endsOf (ls.take (k + 1)) = endsOf (ls.take k) ++ two l := by
  obtain ⟨hk, e⟩ := List.getElem?_eq_some_iff.1 h
  unfold endsOf
  rw [List.take_succ_eq_append_getElem hk, List.flatMap_append, e]
  simp
theorem endsOf_len : ∀ ls : List Lk, (endsOf ls).length = 2 * ls.length
  | [] => rfl
  | l :: r => by
    have := endsOf_len r
    unfold endsOf at this ⊢
    rw [List.flatMap_cons, List.length_append, this, List.length_cons]
    show 2 + _ = _
    omega
theorem sides_ends (ls : List Lk) : ∀ k, k ≤ ls.length → (sidesTo ls k).map asEn = endsOf (ls.take k)
  | 0, _ => rfl
  | k + 1, h => by
    have hk : ls[k]? = some ls[k] := List.getElem?_eq_getElem (by omega)
    rw [sidesTo_step hk, List.map_append, sides_ends ls k (by omega), asEn_two, endsOf_take hk]
theorem sidesOf_ends (ls : List Lk) : (sidesOf ls).map asEn = endsOf ls := by
  have := sides_ends ls ls.length (Nat.le_refl _)
  rwa [List.take_length] at this
structure EndOk (n : Nat) (e : En) : Prop where
  a0 : 0 ≤ e.at_
  a1 : e.at_ < n
  p0 : 0 ≤ e.port
  p1 : e.port ≤ 15
  c0 : 1 ≤ e.cost
  c1 : e.cost ≤ 200000000
def SamePort (x y : En) : Prop := x.at_ = y.at_ ∧ x.port = y.port
def Apart2 (es : List En) : Prop := es.Pairwise fun x y => ¬ SamePort x y
/-- bridges and links may be -/
structure May (ids : List Int) (ls : List Lk) : Prop where
  n1 : 1 ≤ ids.length
  n2 : ids.length ≤ 12
  l : ls.length ≤ 40
  nd : ids.Pairwise (· ≠ ·)
  ok : ∀ e ∈ endsOf ls, EndOk ids.length e
  ap : Apart2 (endsOf ls)
open Classical in
noncomputable def chk (ids : List Int) (ls : List Lk) : Int := if May ids ls then 0 else 3
theorem chk_yes {ids : List Int} {ls : List Lk} (h : May ids ls) : chk ids ls = 0 := if_pos h
theorem chk_no {ids : List Int} {ls : List Lk} (h : ¬ May ids ls) : chk ids ls = 3 := if_neg h
/-- the other end of an end of a link is an end -/
theorem far_end {ls : List Lk} {e : En} (h : e ∈ endsOf ls) : (⟨e.to, e.far, e.at_, e.port, e.cost⟩ : En) ∈ endsOf ls := by
  obtain ⟨l, hl, he⟩ := List.mem_flatMap.1 h
  refine List.mem_flatMap.2 ⟨l, hl, ?_⟩
  simp [two] at he ⊢
  rcases he with rfl | rfl <;> simp
theorem May.to_ {ids : List Int} {ls : List Lk} (h : May ids ls) {e : En} (he : e ∈ endsOf ls) : 0 ≤ e.to ∧ e.to < ids.length ∧ 0 ≤ e.far ∧ e.far ≤ 15 := by
  have := h.ok _ (far_end he)
  exact ⟨this.a0, this.a1, this.p0, this.p1⟩
def zv : Vec := ⟨0, 0, 0, 0⟩
def zh : Heard := ⟨false, zv, 0⟩
/-- what comes in at an end -/
def hv (ids : List Int) (best : List Vec) (to far cost : Int) : Heard := ⟨true, ⟨(best.getD to.toNat zv).root, (best.getD to.toNat zv).cost, ids.getD to.toNat 0, far⟩, cost⟩
def stepE (ids : List Int) (best : List Vec) (b : Int) (out : List Heard) (e : En) : List Heard := if e.at_ = b then out.set e.port.toNat (hv ids best e.to e.far e.cost) else out
def none16 : List Heard := List.replicate 16 zh
def heardE (ids : List Int) (best : List Vec) (es : List En) (b : Int) : List Heard := es.foldl (stepE ids best b) none16
def stepS (ids : List Int) (best : List Vec) (out : List Heard) (s : Sd) : List Heard := out.set s.port.toNat (hv ids best s.fat s.far s.cost)
def heardS (ids : List Int) (best : List Vec) (sd : List Sd) : List Heard := sd.foldl (stepS ids best) none16
theorem heardE_len (ids : List Int) (best : List Vec) (b : Int) (es : List En) : ∀ out : List Heard, (es.foldl (stepE ids best b) out).length = out.length := by
  induction es with
  | nil => intro out; rfl
  | cons e r ih =>
    intro out
    rw [List.foldl_cons, ih]
    unfold stepE
    split <;> simp
theorem heardS_len (ids : List Int) (best : List Vec) (sd : List Sd) : ∀ out : List Heard, (sd.foldl (stepS ids best) out).length = out.length := by
  induction sd with
  | nil => intro out; rfl
  | cons e r ih =>
    intro out
    rw [List.foldl_cons, ih]
    simp [stepS]
theorem heard_len (ids : List Int) (best : List Vec) (es : List En) (b : Int) : (heardE ids best es b).length = 16 := by
  unfold heardE; rw [heardE_len]; rfl
theorem heardS_len' (ids : List Int) (best : List Vec) (sd : List Sd) : (heardS ids best sd).length = 16 := by
  unfold heardS; rw [heardS_len]; rfl
theorem heardE_step {ids : List Int} {best : List Vec} {es : List En} {b : Int} {k : Nat} {e : En} (h : es[k]? = some e) : heardE ids best (es.take (k + 1)) b = stepE ids best b (heardE ids best (es.take k) b) e := by
  obtain ⟨hk, h2⟩ := List.getElem?_eq_some_iff.1 h
  unfold heardE
  rw [List.take_succ_eq_append_getElem hk, List.foldl_append, h2]
  rfl
theorem heardS_step {ids : List Int} {best : List Vec} {sd : List Sd} {k : Nat} {s : Sd} (h : sd[k]? = some s) : heardS ids best (sd.take (k + 1)) = stepS ids best (heardS ids best (sd.take k)) s := by
  obtain ⟨hk, h2⟩ := List.getElem?_eq_some_iff.1 h
  unfold heardS
  rw [List.take_succ_eq_append_getElem hk, List.foldl_append, h2]
  rfl
/-- one round of one bridge -/
def nextV (ids : List Int) (best : List Vec) (es : List En) (b : Nat) : Vec := (bestOf (ids.getD b 0) (heardE ids best es b)).2
def nextTo (ids : List Int) (best : List Vec) (es : List En) : Nat → List Vec
  | 0 => []
  | k + 1 => nextTo ids best es k ++ [nextV ids best es k]
def rest (ids : List Int) (es : List En) : Nat → List Vec
  | 0 => ids.map own
  | k + 1 => nextTo ids (rest ids es k) es ids.length
theorem nextTo_len (ids : List Int) (best : List Vec) (es : List En) : ∀ k, (nextTo ids best es k).length = k
  | 0 => rfl
  | k + 1 => by simp [nextTo, nextTo_len ids best es k]
theorem rest_len (ids : List Int) (es : List En) : ∀ k, (rest ids es k).length = ids.length
  | 0 => by simp [rest]
  | k + 1 => nextTo_len _ _ _ _
theorem nextTo_get (ids : List Int) (best : List Vec) (es : List En) : ∀ k b, b < k → (nextTo ids best es k)[b]? = some (nextV ids best es b)
  | k + 1, b, h => by
    unfold nextTo
    by_cases hb : b < k
    · rw [List.getElem?_append_left (by rw [nextTo_len]; exact hb)]
      exact nextTo_get ids best es k b hb
    · have e : b = k := by omega
      subst e
      rw [List.getElem?_append_right (by rw [nextTo_len]; exact Nat.le_refl _), nextTo_len]
      simp
def atRest (ids : List Int) (ls : List Lk) : List Vec := rest ids (endsOf ls) ids.length
def rolesB (ids : List Int) (ls : List Lk) (b : Int) : List Int := rolesOf (ids.getD b.toNat 0) (heardE ids (atRest ids ls) (endsOf ls) b)
def pairOf (ids : List Int) (ls : List Lk) (l : Lk) : Int × Int := ((rolesB ids ls l.a).getD l.pa.toNat 0, (rolesB ids ls l.b).getD l.pb.toNat 0)
def restOf (ids : List Int) (ls : List Lk) : List (Int × Int) := ls.map (pairOf ids ls)
def activeTo (r : List (Int × Int)) : Nat → List Int
  | 0 => []
  | k + 1 => match r[k]? with
    | some p => if p.1 ≠ 3 ∧ p.2 ≠ 3 then activeTo r k ++ [(k : Int)] else activeTo r k
    | none => activeTo r k
def activeOf (ids : List Int) (ls : List Lk) : List Int := activeTo (restOf ids ls) ls.length
end Go.Proofs.Ytdgbemafhhhceaa.Tree
