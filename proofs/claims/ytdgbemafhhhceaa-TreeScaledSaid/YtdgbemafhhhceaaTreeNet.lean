/-
  The program's net of bridges in memory; the closure that compares sides, and the sort of a bridge's sides.
-/
import Derived.Test.YtdgbemafhhhceaaTreePCheck
import Derived.Test.YtdgbemafhhhceaaSortK
import Derived.Test.YtdgbemafhhhceaaSortLay
namespace Go.Proofs.Ytdgbemafhhhceaa
set_option linter.unusedVariables false
set_option linter.unusedSimpArgs false
open Go.RowKit
open Go.Proofs.Ytdgbemafhhhceaa.Prio
namespace Tree
structure Br where
  id : Int
  sv : Value
  sd : List Sd
  best : Vec
def cB (b : Br) : List Value := [.int .u64 b.id, b.sv, .int .u64 b.best.root, .int .i64 b.best.cost, .int .u64 b.best.bridge, .int .i64 b.best.port]
def cS (s : Sd) : List Value := [.int .i64 s.at_, .int .i64 s.port, .int .i64 s.fat, .int .i64 s.far, .int .i64 s.cost, .int .i64 s.link, .bool s.first]
theorem lenB (b : Br) : (cB b).length = 6 := rfl
theorem lenS (s : Sd) : (cS s).length = 7 := rfl
theorem oneS (s : Sd) : ∀ u ∈ cS s, u.oneCell' = true := by
  intro u hu
  simp [cS] at hu
  rcases hu with rfl | rfl | rfl | rfl | rfl | rfl | rfl <;> rfl
theorem infoS : (Try.prog.info? 69).map (fun i => (i.zero, i.size, i.bytes)) = some (some (.agg #[.int .i64 0, .int .i64 0, .int .i64 0, .int .i64 0, .int .i64 0, .int .i64 0, .bool false]), 7, 56) := by kernel_rfl
theorem infoB : (Try.prog.info? 64).map (fun i => (i.zero, i.size, i.bytes)) = some (some (.agg #[.int .u64 0, .slice none 0 0, .int .u64 0, .int .i64 0, .int .u64 0, .int .i64 0]), 6, 64) := by kernel_rfl
structure NetAt (w : World) (base N : Nat) (bs : List Br) : Prop where
  row : Row w N 64 (bs.flatMap cB)
  lo : base ≤ N
  own : ∀ (i : Nat) b, bs[i]? = some b → w.ownsRow base 69 7 b.sv b.sd.length (b.sd.flatMap cS)
  apart : ∀ (i j : Nat) x y, i ≠ j → bs[i]? = some x → bs[j]? = some y → x.sv.ownBlock = none ∨ x.sv.ownBlock ≠ y.sv.ownBlock
section
variable {w w' w1 : World} {base N : Nat} {bs : List Br}
theorem NetAt.lt (h : NetAt w base N bs) : N < w.heap.size := h.row.lt
theorem row_ne {e : TypeId} {n size : Nat} {v : Value} {xs : List Value} {ys : List Value} {t : TypeId} (h : w.ownsRow base e size v n xs) (hr : Row w N t ys) (hne : e ≠ t) : v.ownBlock ≠ some N := by
  obtain ⟨cur, hc, _⟩ := hr
  exact own_blk_ne (t := t) (cs := cur) h hc hne
theorem NetAt.keep (h : NetAt w base N bs) (hk : Below w.heap.size w w') : NetAt w' base N bs :=
  ⟨h.row.below hk h.lt, h.lo, fun i b hb => own_below (h.own i b hb) hk, h.apart⟩
theorem NetAt.drew (h : NetAt w base N bs) : NetAt w.drew base N bs := h.keep (Below.refl _ _).drew
theorem NetAt.alloc (h : NetAt w base N bs) (o : Obj) : NetAt (w.alloc o) base N bs := h.keep ((Below.refl _ _).alloc (Nat.le_refl _) o)
/-- the sides of one bridge are written: its own row alone grew -/
theorem NetAt.grown (h : NetAt w base N bs) {a : Nat} {b : Br} (ha : bs[a]? = some b) (hg : w.grownBy w1 b.sv.ownBlock) : Row w1 N 64 (bs.flatMap cB) ∧ ∀ (i : Nat) c, i ≠ a → bs[i]? = some c → w1.ownsRow base 69 7 c.sv c.sd.length (c.sd.flatMap cS) := by
  refine ⟨h.row.grown hg (fun e => row_ne (h.own a b ha) h.row (by decide) e.symm), fun i c hi hc => ?_⟩
  exact (h.own i c hc).kept hg (h.apart i a c b hi hc ha)
/-- one side more -/
theorem NetAt.push (h : NetAt w base N bs) {a : Nat} {b : Br} (ha : bs[a]? = some b) (hg : w.grownBy w1 b.sv.ownBlock) {v' : Value} {s : Sd} (ho : w1.ownsRow base 69 7 v' (b.sd.length + 1) (b.sd.flatMap cS ++ cS s)) (hv : v'.ownBlock = b.sv.ownBlock ∨ ∀ g, v'.ownBlock = some g → w.heap.size ≤ g) :
    NetAt (w1.setCell ⟨N, a * 6 + 1, none⟩ v') base N (bs.set a { b with sv := v', sd := b.sd ++ [s] }) := by
  obtain ⟨hr, hown⟩ := h.grown ha hg
  have hal := (List.getElem?_eq_some_iff.1 ha).1
  have hnew : w1.ownsRow base 69 7 v' (b.sd ++ [s]).length ((b.sd ++ [s]).flatMap cS) := by
    rw [List.length_append, List.flatMap_append]
    simpa using ho
  have hfar : ∀ {v : Value} {n : Nat} {xs : List Value}, w1.ownsRow base 69 7 v n xs → (w1.setCell ⟨N, a * 6 + 1, none⟩ v').ownsRow base 69 7 v n xs := fun hx => ownsRow_setCell_other hx (a := ⟨N, a * 6 + 1, none⟩) (row_ne hx hr (by decide)) v'
  have hne : ∀ (i : Nat) c, i ≠ a → bs[i]? = some c → (c.sv.ownBlock = none ∨ c.sv.ownBlock ≠ v'.ownBlock) ∧ (v'.ownBlock = none ∨ v'.ownBlock ≠ c.sv.ownBlock) := by
    intro i c hi hc
    have h1 := h.apart i a c b hi hc ha
    have h2 := own_lt (h.own i c hc)
    rcases hv with e | e
    · rw [e]
      refine ⟨h1, ?_⟩
      rcases h1 with h1 | h1
      · rw [h1]; exact Classical.em _
      · exact .inr (Ne.symm h1)
    · cases hcb : c.sv.ownBlock with
      | none => exact ⟨.inl rfl, Classical.em _⟩
      | some g =>
        have h3 := h2 g hcb
        have h4 : v'.ownBlock ≠ some g := fun e2 => by have := e g e2; omega
        exact ⟨.inr (Ne.symm h4), .inr h4⟩
  refine ⟨Row.put lenB hr ha _ 1 v' (by omega) rfl, h.lo, fun i c hc => ?_, fun i j x y hij hx hy => ?_⟩
  · by_cases hi : i = a
    · subst hi
      rw [set_at _ ha] at hc
      cases hc
      exact hfar hnew
    · rw [List.getElem?_set_ne (Ne.symm hi)] at hc
      exact hfar (hown i c hi hc)
  · by_cases hi : i = a
    · subst hi
      rw [set_at _ ha] at hx
      cases hx
      rw [List.getElem?_set_ne hij] at hy
      exact (hne j y (Ne.symm hij) hy).2
    · rw [List.getElem?_set_ne (Ne.symm hi)] at hx
      by_cases hj : j = a
      · subst hj
        rw [set_at _ ha] at hy
        cases hy
        exact (hne i x hi hx).1
      · rw [List.getElem?_set_ne (Ne.symm hj)] at hy
        exact h.apart i j x y hij hx hy
theorem flat_same {a : Nat} {b b' : Br} (ha : bs[a]? = some b) (h : cB b' = cB b) : (bs.set a b').flatMap cB = bs.flatMap cB := by
  induction bs generalizing a with
  | nil => rfl
  | cons c r ih =>
    cases a with
    | zero =>
      simp at ha
      subst ha
      rw [List.set_cons_zero, List.flatMap_cons, List.flatMap_cons, h]
    | succ a =>
      simp only [List.getElem?_cons_succ] at ha
      rw [List.set_cons_succ, List.flatMap_cons, List.flatMap_cons, ih ha]
/-- the sides of one bridge stand in another order -/
theorem NetAt.sorted (h : NetAt w base N bs) {a : Nat} {b : Br} (ha : bs[a]? = some b) (hg : w.grownBy w1 b.sv.ownBlock) {l : List Sd} (hl : l.length = b.sd.length) (ho : w1.ownsRow base 69 7 b.sv b.sd.length (l.flatMap cS)) : NetAt w1 base N (bs.set a { b with sd := l }) := by
  obtain ⟨hr, hown⟩ := h.grown ha hg
  refine ⟨by rw [flat_same ha (by rfl)]; exact hr, h.lo, fun i c hc => ?_, fun i j x y hij hx hy => ?_⟩
  · by_cases hi : i = a
    · subst hi
      rw [set_at _ ha] at hc
      cases hc
      show w1.ownsRow base 69 7 b.sv l.length (l.flatMap cS)
      rw [hl]
      exact ho
    · rw [List.getElem?_set_ne (Ne.symm hi)] at hc
      exact hown i c hi hc
  · by_cases hi : i = a
    · subst hi
      rw [set_at _ ha] at hx
      cases hx
      rw [List.getElem?_set_ne hij] at hy
      exact h.apart _ j b y hij ha hy
    · rw [List.getElem?_set_ne (Ne.symm hi)] at hx
      by_cases hj : j = a
      · subst hj
        rw [set_at _ ha] at hy
        cases hy
        exact h.apart i _ x b hi hx ha
      · rw [List.getElem?_set_ne (Ne.symm hj)] at hy
        exact h.apart i j x y hij hx hy
/-- the best of one bridge is written -/
theorem NetAt.put (h : NetAt w base N bs) {a : Nat} {b : Br} (ha : bs[a]? = some b) (v : Vec) :
    NetAt ((((w.setCell ⟨N, a * 6 + 2, none⟩ (.int .u64 v.root)).setCell ⟨N, a * 6 + 3, none⟩ (.int .i64 v.cost)).setCell ⟨N, a * 6 + 4, none⟩ (.int .u64 v.bridge)).setCell ⟨N, a * 6 + 5, none⟩ (.int .i64 v.port)) base N (bs.set a { b with best := v }) := by
  have r1 := Row.put lenB h.row ha { b with best := { b.best with root := v.root } } 2 (.int .u64 v.root) (by omega) rfl
  have r2 := Row.put lenB r1 (set_at _ ha) { b with best := { b.best with root := v.root, cost := v.cost } } 3 (.int .i64 v.cost) (by omega) rfl
  rw [set_set] at r2
  have r3 := Row.put lenB r2 (set_at _ ha) { b with best := { b.best with root := v.root, cost := v.cost, bridge := v.bridge } } 4 (.int .u64 v.bridge) (by omega) rfl
  rw [set_set] at r3
  have r4 := Row.put lenB r3 (set_at _ ha) { b with best := v } 5 (.int .i64 v.port) (by omega) rfl
  rw [set_set] at r4
  have hfar : ∀ {w : World} {j : Nat} {u : Value} {v : Value} {n : Nat} {xs : List Value} {ys : List Value}, Row w N 64 ys → w.ownsRow base 69 7 v n xs → (w.setCell ⟨N, j, none⟩ u).ownsRow base 69 7 v n xs := fun hr hx => ownsRow_setCell_other hx (a := ⟨N, _, none⟩) (row_ne hx hr (by decide)) _
  refine ⟨r4, h.lo, fun i c hc => ?_, fun i j x y hij hx hy => ?_⟩
  · have hall : ∀ c0, bs[i]? = some c0 → ((((w.setCell ⟨N, a * 6 + 2, none⟩ (.int .u64 v.root)).setCell ⟨N, a * 6 + 3, none⟩ (.int .i64 v.cost)).setCell ⟨N, a * 6 + 4, none⟩ (.int .u64 v.bridge)).setCell ⟨N, a * 6 + 5, none⟩ (.int .i64 v.port)).ownsRow base 69 7 c0.sv c0.sd.length (c0.sd.flatMap cS) := fun c0 h0 => hfar r3 (hfar r2 (hfar r1 (hfar h.row (h.own i c0 h0))))
    by_cases hi : i = a
    · subst hi
      rw [set_at _ ha] at hc
      cases hc
      exact hall b ha
    · rw [List.getElem?_set_ne (Ne.symm hi)] at hc
      exact hall c hc
  · have hsv : ∀ (i : Nat) c, (bs.set a { b with best := v })[i]? = some c → ∃ c0, bs[i]? = some c0 ∧ c0.sv = c.sv := fun i c hc => by
      by_cases hi : i = a
      · subst hi
        rw [set_at _ ha] at hc
        cases hc
        exact ⟨b, ha, rfl⟩
      · rw [List.getElem?_set_ne (Ne.symm hi)] at hc
        exact ⟨c, hc, rfl⟩
    obtain ⟨x0, h1, e1⟩ := hsv i x hx
    obtain ⟨y0, h2, e2⟩ := hsv j y hy
    rw [← e1, ← e2]
    exact h.apart i j x0 y0 hij h1 h2
end
def cmpS (x y : Sd) : Int := cmpI x.port y.port
theorem cmpI_neg {a b : Int} : cmpI a b < 0 ↔ a < b := by
  rcases cmpI_cases a b with ⟨h, e⟩ | ⟨h, h2, e⟩ | ⟨h, h2, e⟩ <;> rw [e] <;> omega
theorem swoS : Go.Sort.SWO (Go.Proofs.ltOf cmpS) := by
  constructor
  · intro x
    unfold Go.Proofs.ltOf cmpS
    rw [decide_eq_false_iff_not, cmpI_neg]
    omega
  · intro x y z h1 h2
    unfold Go.Proofs.ltOf cmpS at *
    rw [decide_eq_true_eq, cmpI_neg] at *
    omega
  · intro x y z h1 h2
    unfold Go.Proofs.ltOf cmpS at *
    rw [decide_eq_false_iff_not, cmpI_neg] at *
    omega
theorem byPort_ (x y : Sd) (w : World) : Calls Try.prog 33 #[.agg (cS x).toArray, .agg (cS y).toArray] w fun e w' => e = .returned (.int .i64 (cmpS x y)) ∧ Srt.Gr w w' := by
  show Calls Try.prog 33 #[.agg #[.int .i64 x.at_, .int .i64 x.port, .int .i64 x.fat, .int .i64 x.far, .int .i64 x.cost, .int .i64 x.link, .bool x.first], .agg #[.int .i64 y.at_, .int .i64 y.port, .int .i64 y.fat, .int .i64 y.far, .int .i64 y.cost, .int .i64 y.link, .bool y.first]] w _
  go_enter Try.func33, Try.ntmps33
  go_wp2_with (first
    | (go_at_call 34; refine (cmpI_ x.port y.port _).mono ?_; rintro e w1 ⟨rfl, rfl⟩)
    | go_in)
  go_ret
  exact ⟨rfl, (Srt.Gr.refl _).alloc _ |>.alloc _⟩
theorem enters_side (args : Array Value) (w : World) : (callFunc 33 args).run Try.prog w = .ok (.enter 33 args) w := Go.Proofs.enters_of Try.func33 (by kernel_rfl) rfl args w
theorem sorts_ (w : World) (base : Nat) (sd : List Sd) (v : Value) (n : Nat) (hown : w.ownsRow base 69 7 v n (sd.flatMap cS)) (hn : n < 4611686018427387904) :
    Calls Try.prog 32 #[v, .func (.func 33) #[] #[]] w fun e w' => e = .returned (.tuple #[]) ∧ ∃ l : List Sd, l.Perm sd ∧ w'.ownsRow base 69 7 v n (l.flatMap cS) ∧ w.grownBy w' v.ownBlock := by
  have hs := Srt.sortK_ Try.sortKside Try.isAgg69 Try.sizeOf69 (by omega) cS (fun _ => rfl) oneS cmpS swoS 33 #[] v base 69 n sd w enters_side (fun W _ x y => byPort_ x y W) hown hn
  refine Calls.mono hs ?_
  rintro e w' ⟨he, l, hp, _, hown', hg⟩
  exact ⟨he, l, hp, hown', hg⟩
end Tree
end Go.Proofs.Ytdgbemafhhhceaa
