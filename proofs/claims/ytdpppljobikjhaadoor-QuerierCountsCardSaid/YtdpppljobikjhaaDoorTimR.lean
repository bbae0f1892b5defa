/-
  Words for a range over a map of timers: 'RgT w b r ts done': the loop at block r over the map in block b, which holds ts, has handed out the timers done, in this order.
-/
import Derived.Test.YtdpppljobikjhaaDoorTim
namespace Go.Proofs.YtdpppljobikjhaaDoor
set_option linter.unusedVariables false
set_option linter.unusedSimpArgs false
open Go.RowKit Go.Maps
namespace Whl
set_option linter.unusedSectionVars false
section
variable {κ : Type} [DecidableEq κ] {kl : κ → Lit} {P : Program} {K : TypeId} {w w' : World} {b r : Nat} {ts dn : List (Ti κ)}
def RgT (P : Program) (K : TypeId) (kl : κ → Lit) (w : World) (b r : Nat) (ts dn : List (Ti κ)) : Prop :=
  ∃ es left cnt lf, w.ranges P K R2 b r ts.length (.map es) left cnt ∧ es.Perm (ts.map (ent kl)) ∧ (dn ++ lf).Perm ts ∧ ∀ z, left z = true ↔ ∃ x ∈ lf, kl x.1 = z
theorem RgT.start (ok : KeyOk kl) {es : List (Lit × DataW Unit)} (hp : es.Perm (ts.map (ent kl))) (h : w.ranges P K R2 b r ts.length (.map es) (Maps.has (.map es)) (Maps.size (.map es))) : RgT P K kl w b r ts [] :=
  ⟨es, _, _, ts, h, hp, List.Perm.refl _, fun z => by
    rw [has_eq, List.any_eq_true]
    constructor
    · rintro ⟨p, h1, h2⟩
      obtain ⟨x, hx, rfl⟩ := List.mem_map.1 (hp.mem_iff.1 h1)
      exact ⟨x, hx, WideAt.sameKey_eq h2⟩
    · rintro ⟨x, hx, rfl⟩
      exact ⟨ent kl x, hp.mem_iff.2 (List.mem_map.2 ⟨x, hx, rfl⟩), by show (kl x.1).sameKey (kl x.1) = true; rw [ok.same]; simp⟩⟩
theorem RgT.kept {row : Option Nat} (h : RgT P K kl w b r ts dn) (hg : w.grownBy w' row) (hb : some b ≠ row) (hr : some r ≠ row) : RgT P K kl w' b r ts dn := by
  obtain ⟨es, left, cnt, lf, h1, h2⟩ := h
  exact ⟨es, left, cnt, lf, h1.kept hg hb hr, h2⟩
theorem RgT.alloc (h : RgT P K kl w b r ts dn) (o : Obj) : RgT P K kl (w.alloc o) b r ts dn := h.kept (World.grownBy_alloc w o none) (by simp) (by simp)
theorem RgT.has (h : RgT P K kl w b r ts dn) : HasT P K kl w b ts := by
  obtain ⟨es, left, cnt, lf, h1, h2, _⟩ := h
  exact ⟨es, h1.owns, h2⟩
theorem RgT.lt (h : RgT P K kl w b r ts dn) : r < w.heap.size := by
  obtain ⟨es, left, cnt, lf, h1, _⟩ := h
  exact h1.lt
theorem RgT.dn_le (h : RgT P K kl w b r ts dn) : dn.length ≤ ts.length := by
  obtain ⟨es, left, cnt, lf, _, _, h3, _⟩ := h
  rw [← h3.length_eq, List.length_append]
  omega
theorem RgT.left_kept {row : Option Nat} (h : RgT P K kl w b r ts dn) (hg : w.grownBy w' row) (hb : some b ≠ row) (hr : some r ≠ row) : w'.rangeLeft b r = w.rangeLeft b r := by
  obtain ⟨es, left, cnt, lf, h1, h2⟩ := h
  rw [(h1.kept hg hb hr).left_eq, h1.left_eq]
theorem RgT.left_alloc (h : RgT P K kl w b r ts dn) (o : Obj) : (w.alloc o).rangeLeft b r = w.rangeLeft b r := h.left_kept (World.grownBy_alloc w o none) (by simp) (by simp)
variable (w : World) {ops : Array Oper} {rest : List Oper} {o : Oper} {a : Act} {Q : Exit → Act → World → Prop}
theorem wpList_rangeT (hg : o.guard = none) (m : Operand) (t : TypeId) (hop : o.op = Op.range t m) (k e : TypeId) (K : Keyed P k) (ht : P.underlying t = some (.map k e)) (ok : KeyOk kl) (b : Nat) (ts : List (Ti κ)) (hm : a.eval m = .map (some b)) (hown : HasT P k kl w b ts)
    (hK : ∀ w', RgT P k kl w' b w.heap.size ts [] → w.grownBy w' none → w'.heap.size = w.heap.size + 1 → wpList P ops Q rest (a.put o.dst (.pointer (some ⟨w.heap.size, 0, none⟩))) w') : wpList P ops Q (o :: rest) a w := by
  obtain ⟨es, hes, hp⟩ := hown
  exact wpList_range_own w hg m t hop k e K ht R2 b _ _ hm hes (fun w' h1 h2 h3 => hK w' (RgT.start ok hp h1) h2 h3)
theorem perm_mid {α : Type} {x : α} {lf : List α} (h : x ∈ lf) : ∃ l, lf.Perm (x :: l) := by
  obtain ⟨s, t, rfl⟩ := List.append_of_mem h
  exact ⟨s ++ t, List.perm_middle⟩
theorem wpList_nextT (hg : o.guard = none) (it : Operand) (hop : o.op = Op.next it false) (k : TypeId) (K : Keyed P k) (ok : KeyOk kl) (kv : κ → Value) (invK : ∀ key kl', keyOf P k key = some kl' → ∃ x, key = kv x) (kvK : ∀ y kl', keyOf P k (kv y) = some kl' → kl' = kl y) (b r : Nat) (ts dn : List (Ti κ)) (hd : ts.Pairwise fun x y => x.1 ≠ y.1)
    (hit : a.eval it = .pointer (some ⟨r, 0, none⟩)) (h : RgT P k kl w b r ts dn)
    (hDone : dn.Perm ts → wpList P ops Q rest (a.put o.dst (.tuple #[.bool false])) w)
    (hMore : ∀ (x : Ti κ) (w' : World), x ∈ ts → RgT P k kl w' b r ts (dn ++ [x]) → w'.rangeLeft b r < w.rangeLeft b r → w.grownBy w' (some r) → w'.heap.size = w.heap.size →
      (Instr.entry (.pointer (some ⟨r, 0, none⟩))).run P w' = .ok (.tuple #[kv x.1, .agg #[.int .i64 x.2.1, .int .i64 x.2.2]]) w' → wpList P ops Q rest (a.put o.dst (.tuple #[.bool true, kv x.1, .agg #[.int .i64 x.2.1, .int .i64 x.2.2]])) w') : wpList P ops Q (o :: rest) a w := by
  obtain ⟨es, left, cnt, lf, hrg, hp, hpm, hleft⟩ := h
  refine wpList_next_ranges w hg it hop k K R2 kv (fun c : Int × Int => .agg #[.int .i64 c.1, .int .i64 c.2]) invK
    (fun v y hv => by obtain ⟨c, t, h1, _⟩ := R2_inv (ps := y.2) (d := y.1) hv; exact ⟨(c, t), h1⟩) b r _ _ left cnt hit hrg ?_ ?_
  · intro _ hl
    have : lf = [] := by
      cases lf with
      | nil => rfl
      | cons x l => have := (hleft (kl x.1)).2 ⟨x, by simp, rfl⟩; rw [hl] at this; cases this
    subst this
    exact hDone (by simpa using hpm)
  · intro y c kl' z w1 cnt1 hkey hlk hv hat hrg1 hlt hgr hsz hen
    obtain ⟨x, hx, e1⟩ := (hleft kl').1 hlk
    have hxt : x ∈ ts := hpm.mem_iff.1 (by simp [hx])
    have ey : y = x.1 := by
      have h2 := kvK _ _ hkey
      have h3 : (kl y).sameKey (kl x.1) = true := by rw [← h2, ← e1, ok.same]; simp
      rw [ok.same] at h3
      simpa using h3
    subst ey
    have hz := at_perm ok hp hd hxt (.agg [])
    rw [e1, hat] at hz
    have hc : c = x.2 := by
      have h1 : R2 (.agg #[.int .i64 c.1, .int .i64 c.2]) = some z := hv
      rw [R2_mk] at h1
      injection h1 with h1
      rw [← h1] at hz
      unfold ent at hz
      injection hz with hz
      injection hz with h3 h4
      injection h4 with h4
      injection h3 with h3
      injection h4 with h4
      injection h3 with _ h3
      injection h4 with _ h4
      exact Prod.ext h3 h4
    subst hc
    obtain ⟨l, hl⟩ := perm_mid hx
    refine hMore x w1 hxt ⟨es, _, cnt1, l, hrg1, hp, ?_, ?_⟩ (by rw [hrg1.left_eq, hrg.left_eq]; exact hlt) hgr hsz hen
    · rw [List.append_assoc]
      exact ((List.perm_append_left_iff dn).2 hl.symm).trans hpm
    · have hdl : (x :: l).Pairwise fun x y => x.1 ≠ y.1 := by
        have h1 := (hpm.pairwise_iff (fun {x y} (h : x.1 ≠ y.1) => Ne.symm h)).2 hd
        exact (hl.pairwise_iff (fun {x y} (h : x.1 ≠ y.1) => Ne.symm h)).1 (List.pairwise_append.1 h1).2.1
      rw [List.pairwise_cons] at hdl
      intro z
      rw [Bool.and_eq_true, hleft, ← e1]
      constructor
      · rintro ⟨⟨x2, h1, rfl⟩, h2⟩
        rcases List.mem_cons.1 (hl.mem_iff.1 h1) with rfl | h3
        · rw [ok.same] at h2; simp at h2
        · exact ⟨x2, h3, rfl⟩
      · rintro ⟨x2, h1, rfl⟩
        refine ⟨⟨x2, hl.mem_iff.2 (List.mem_cons_of_mem _ h1), rfl⟩, ?_⟩
        rw [ok.same]
        have := hdl.1 x2 h1
        simp [Ne.symm this]
end
end Whl
end Go.Proofs.YtdpppljobikjhaaDoor
