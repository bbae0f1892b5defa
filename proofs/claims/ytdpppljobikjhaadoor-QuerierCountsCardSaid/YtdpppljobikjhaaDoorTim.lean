/-
  Words for a map of timers: 'HasT w b ts': block b is a map of at most n entries that holds just the timers ts (key, at, turn), in whatever order.
-/
import Derived.Maps.RangeWalk
import Derived.Maps.OwnSet
import Derived.WalkKit
import Derived.Lib.Hide
import Derived.Deep.QuietTactic
namespace Go.Proofs.YtdpppljobikjhaaDoor
set_option linter.unusedVariables false
set_option linter.unusedSimpArgs false
open Go.RowKit Go.Maps
namespace Whl
set_option linter.unusedSectionVars false
/-- how a timer's struct reads -/
def R2 (v : Value) : Option (DataW Unit × List MemPlace) := match v with
  | .agg cs => match cs.toList with
    | [.int .i64 a, .int .i64 t] => some (.agg [.lit (.int .i64 a), .lit (.int .i64 t)], [])
    | _ => none
  | _ => none
theorem R2_mk (a t : Int) : R2 (.agg #[.int .i64 a, .int .i64 t]) = some (.agg [.lit (.int .i64 a), .lit (.int .i64 t)], []) := rfl
theorem R2_inv {v : Value} {d : DataW Unit} {ps : List MemPlace} (h : R2 v = some (d, ps)) : ∃ a t, v = .agg #[.int .i64 a, .int .i64 t] ∧ d = .agg [.lit (.int .i64 a), .lit (.int .i64 t)] := by
  unfold R2 at h
  split at h
  · rename_i cs
    split at h
    · rename_i a t hcs
      simp only [Option.some.injEq, Prod.mk.injEq] at h
      exact ⟨a, t, by rw [show cs = #[.int .i64 a, .int .i64 t] from by rw [← Array.toArray_toList (xs := cs), hcs]], h.1.symm⟩
    · cases h
  · cases h
section
variable {κ : Type} [DecidableEq κ]
abbrev Ti (κ : Type) := κ × Int × Int
def ent (kl : κ → Lit) (x : Ti κ) : Lit × DataW Unit := (kl x.1, .agg [.lit (.int .i64 x.2.1), .lit (.int .i64 x.2.2)])
/-- the keys' words: apart where the keys are -/
structure KeyOk (kl : κ → Lit) : Prop where
  same : ∀ a b, (kl a).sameKey (kl b) = decide (a = b)
variable {kl : κ → Lit} {P : Program} {K : TypeId} {w w' : World} {b n m : Nat} {ts : List (Ti κ)}
def HasT (P : Program) (K : TypeId) (kl : κ → Lit) (w : World) (b : Nat) (ts : List (Ti κ)) : Prop := ∃ es, w.ownsMap P K R2 b ts.length (.map es) ∧ es.Perm (ts.map (ent kl))
theorem insert_perm (x : Lit × DataW Unit) : ∀ l : List (Lit × DataW Unit), (DataW.insert x l).Perm (x :: l)
  | [] => List.Perm.refl _
  | y :: r => by
    unfold DataW.insert
    split
    · exact List.Perm.refl _
    · exact ((insert_perm x r).cons y).trans (List.Perm.swap x y r)
def keyIs (k : κ) (x : Ti κ) : Bool := decide (x.1 = k)
theorem tight {es : List (Lit × DataW Unit)} (h : w.ownsMap P K R2 b n (.map es)) (hp : es.length = m) : w.ownsMap P K R2 b m (.map es) := by
  obtain ⟨es0, clock, hb, F, hs, hD⟩ := h
  refine ⟨es0, clock, hb, F, ?_, hD⟩
  injection hD with hD
  have := congrArg List.length hD
  rw [length_sorted, List.length_map] at this
  rw [← hp, this]
  simp
theorem HasT.made (w : World) (P : Program) (K : TypeId) (kl : κ → Lit) : HasT P K kl (w.alloc (.map #[] 0)) w.heap.size [] := ⟨[], World.ownsMap_made w P K R2, List.Perm.refl _⟩
theorem HasT.has (ok : KeyOk kl) {es : List (Lit × DataW Unit)} (h : es.Perm (ts.map (ent kl))) (k : κ) : Maps.has (.map es) (kl k) = ts.any (keyIs k) := by
  rw [has_eq, Bool.eq_iff_iff, List.any_eq_true, List.any_eq_true]
  constructor
  · rintro ⟨p, hp, hs⟩
    obtain ⟨x, hx, rfl⟩ := List.mem_map.1 (h.mem_iff.1 hp)
    exact ⟨x, hx, by have hs' : (kl x.1).sameKey (kl k) = true := hs; rw [ok.same] at hs'; exact hs'⟩
  · rintro ⟨x, hx, hs⟩
    exact ⟨ent kl x, h.mem_iff.2 (List.mem_map.2 ⟨x, hx, rfl⟩), by show (kl x.1).sameKey (kl k) = true; rw [ok.same]; exact hs⟩
theorem HasT.size {es : List (Lit × DataW Unit)} (h : es.Perm (ts.map (ent kl))) : Maps.size (.map es) = ts.length := by rw [size_eq, h.length_eq, List.length_map]
theorem strike_perm (ok : KeyOk kl) {es : List (Lit × DataW Unit)} (h : es.Perm (ts.map (ent kl))) (k : κ) : (es.filter fun p => !p.1.sameKey (kl k)).Perm ((ts.filter fun x => !keyIs k x).map (ent kl)) := by
  refine (h.filter _).trans ?_
  rw [List.filter_map]
  have : ((fun p : Lit × DataW Unit => !p.1.sameKey (kl k)) ∘ ent kl) = fun x : Ti κ => !keyIs k x := by
    funext x
    simp only [Function.comp, ent, ok.same, keyIs]
  rw [this]
theorem put_perm (ok : KeyOk kl) {es : List (Lit × DataW Unit)} (h : es.Perm (ts.map (ent kl))) (x : Ti κ) :
    ∃ es', (DataW.map es).put (kl x.1) (ent kl x).2 = .map es' ∧ es'.Perm (((ts.filter fun y => !keyIs x.1 y) ++ [x]).map (ent kl)) := by
  refine ⟨_, rfl, (insert_perm _ _).trans ?_⟩
  rw [List.map_append]
  exact ((strike_perm ok h x.1).cons (ent kl x)).trans (List.perm_append_comm (l₁ := [ent kl x]))
theorem del_perm (ok : KeyOk kl) {es : List (Lit × DataW Unit)} (h : es.Perm (ts.map (ent kl))) (k : κ) :
    ∃ es', (DataW.map es).del (kl k) = .map es' ∧ es'.Perm ((ts.filter fun y => !keyIs k y).map (ent kl)) := ⟨_, rfl, strike_perm ok h k⟩
theorem only_key : ∀ (ts : List (Ti κ)), (ts.Pairwise fun x y => x.1 ≠ y.1) → ∀ {x y : Ti κ}, y ∈ ts → x ∈ ts → y.1 = x.1 → y = x
  | [], _, _, _, hy, _, _ => absurd hy (by simp)
  | t :: r, hd, x, y, hy, hx, e => by
    rw [List.pairwise_cons] at hd
    rcases List.mem_cons.1 hy with hy1 | hy1
    · rcases List.mem_cons.1 hx with hx1 | hx1
      · rw [hy1, hx1]
      · exact absurd (hy1 ▸ e) (hd.1 _ hx1)
    · rcases List.mem_cons.1 hx with hx1 | hx1
      · exact absurd (hx1 ▸ e.symm) (hd.1 _ hy1)
      · exact only_key r hd.2 hy1 hx1 e
/-- what stands at a key that is there -/
theorem at_perm (ok : KeyOk kl) {es : List (Lit × DataW Unit)} (h : es.Perm (ts.map (ent kl))) (hd : ts.Pairwise fun x y => x.1 ≠ y.1) {x : Ti κ} (hx : x ∈ ts) (z : DataW Unit) : (DataW.map es).atKey (kl x.1) z = (ent kl x).2 := by
  have hm : ent kl x ∈ es := h.mem_iff.2 (List.mem_map.2 ⟨x, hx, rfl⟩)
  have hf : (es.find? fun p => p.1.sameKey (kl x.1)).isSome = true := List.find?_isSome.2 ⟨_, hm, by show (kl x.1).sameKey (kl x.1) = true; rw [ok.same]; simp⟩
  obtain ⟨p, hp⟩ := Option.isSome_iff_exists.1 hf
  have h1 := List.mem_of_find?_eq_some hp
  have h2 : p.1.sameKey (kl x.1) = true := List.find?_some (p := fun p : Lit × DataW Unit => p.1.sameKey (kl x.1)) hp
  obtain ⟨y, hy, rfl⟩ := List.mem_map.1 (h.mem_iff.1 h1)
  have h3 : y.1 = x.1 := by
    have : (kl y.1).sameKey (kl x.1) = true := h2
    rw [ok.same] at this
    simpa using this
  have h4 : y = x := only_key ts hd hy hx h3
  subst h4
  simp only [DataW.atKey, hp]
theorem at_none (ok : KeyOk kl) {es : List (Lit × DataW Unit)} (h : es.Perm (ts.map (ent kl))) {k : κ} (hk : ts.any (keyIs k) = false) (z : DataW Unit) : (DataW.map es).atKey (kl k) z = z :=
  atKey_of_not_has (by rw [HasT.has ok h, hk]) z
/-- what a lookup says -/
def look (ts : List (Ti κ)) (k : κ) : Int × Int := match ts.find? (keyIs k) with
  | some x => x.2
  | none => (0, 0)
theorem look_has {k : κ} {x : Ti κ} (hx : x ∈ ts) (hd : ts.Pairwise fun x y => x.1 ≠ y.1) (hk : x.1 = k) : look ts k = x.2 := by
  unfold look
  cases hf : ts.find? (keyIs k) with
  | none => exact absurd (List.find?_eq_none.1 hf x hx) (by simp [keyIs, hk])
  | some y =>
    have h1 := List.mem_of_find?_eq_some hf
    have h2 : keyIs k y = true := List.find?_some (p := keyIs k) hf
    rw [only_key ts hd h1 hx (by rw [hk]; simpa [keyIs] using h2)]
theorem look_none {k : κ} (hk : ts.any (keyIs k) = false) : look ts k = (0, 0) := by
  unfold look
  cases hf : ts.find? (keyIs k) with
  | none => rfl
  | some y =>
    have h1 := List.mem_of_find?_eq_some hf
    have h2 : keyIs k y = true := List.find?_some (p := keyIs k) hf
    have := List.any_eq_true.2 ⟨y, h1, h2⟩
    rw [hk] at this
    cases this
theorem at_look (ok : KeyOk kl) {es : List (Lit × DataW Unit)} (h : es.Perm (ts.map (ent kl))) (hd : ts.Pairwise fun x y => x.1 ≠ y.1) (k : κ) : (DataW.map es).atKey (kl k) (.agg [.lit (.int .i64 0), .lit (.int .i64 0)]) = .agg [.lit (.int .i64 (look ts k).1), .lit (.int .i64 (look ts k).2)] := by
  cases hk : ts.any (keyIs k) with
  | false => rw [at_none ok h hk, look_none hk]
  | true =>
    obtain ⟨x, hx, hkx⟩ := List.any_eq_true.1 hk
    have e : x.1 = k := by simpa [keyIs] using hkx
    subst e
    rw [at_perm ok h hd hx, look_has hx hd rfl]
    rfl
end
section
variable {κ : Type} [DecidableEq κ] {P : Program} (w : World) {ops : Array Oper} {rest : List Oper} {o : Oper} {a : Act} {Q : Exit → Act → World → Prop}
/-- 'm[k]' at an operation, with 'ok' or without -/
theorem wpList_lookT_ok (hg : o.guard = none) (m x : Operand) (t : TypeId) (hop : o.op = Op.lookup t m x true) (k e : TypeId) (K : Keyed P k) (ht : P.underlying t = some (.map k e)) (hz : (zeroValue e).run P w = .ok (.agg #[.int .i64 0, .int .i64 0]) w)
    {kl : κ → Lit} (ok : KeyOk kl) (b : Nat) (ts : List (Ti κ)) (hm : a.eval m = .map (some b)) (hown : HasT P k kl w b ts) (hd : ts.Pairwise fun x y => x.1 ≠ y.1) (key : Value) (y : κ) (hx : a.eval x = key) (hkey : keyOf P k key = some (kl y))
    (hK : wpList P ops Q rest (a.put o.dst (.tuple #[.agg #[.int .i64 (look ts y).1, .int .i64 (look ts y).2], .bool (ts.any (keyIs y))])) w) : wpList P ops Q (o :: rest) a w := by
  obtain ⟨es, hes, hp⟩ := hown
  refine wpList_lookup_own_ok w hg m x t hop k e K ht R2 hz _ [] (R2_mk 0 0) b _ _ hm hes key (kl y) hx hkey (fun v ps hv => ?_)
  rw [at_look ok hp hd y] at hv
  obtain ⟨c, t, rfl, h2⟩ := R2_inv hv
  injection h2 with h2
  injection h2 with h3 h4
  injection h4 with h4
  injection h3 with h3
  injection h4 with h4
  injection h3 with _ h3
  injection h4 with _ h4
  rw [HasT.has ok hp, ← h3, ← h4]
  exact hK
theorem HasT.look {w : World} {kl : κ → Lit} (ok : KeyOk kl) {k e t : TypeId} (K : Keyed P k) (ht : P.underlying t = some (.map k e)) (hz : (zeroValue e).run P w = .ok (.agg #[.int .i64 0, .int .i64 0]) w) {b : Nat} {ts : List (Ti κ)}
    (hown : HasT P k kl w b ts) (hd : ts.Pairwise fun x y => x.1 ≠ y.1) {key : Value} {y : κ} (hkey : keyOf P k key = some (kl y)) : (Instr.lookup t (.map (some b)) key false).run P w = .ok (.agg #[.int .i64 (look ts y).1, .int .i64 (look ts y).2]) w := by
  obtain ⟨es, hes, hp⟩ := hown
  obtain ⟨v, ps, hrun, hv⟩ := hes.lookup K ht hz (R2_mk 0 0) hkey
  rw [at_look ok hp hd y] at hv
  obtain ⟨c, t, rfl, h2⟩ := R2_inv hv
  injection h2 with h2
  injection h2 with h3 h4
  injection h4 with h4
  injection h3 with h3
  injection h4 with h4
  injection h3 with _ h3
  injection h4 with _ h4
  rw [hrun, ← h3, ← h4]
theorem HasT.kept {w w' : World} {kl : κ → Lit} {k : TypeId} {b : Nat} {ts : List (Ti κ)} {row : Option Nat} (h : HasT P k kl w b ts) (hg : w.grownBy w' row) (hne : some b ≠ row) : HasT P k kl w' b ts := by
  obtain ⟨es, hes, hp⟩ := h
  exact ⟨es, hes.kept hg hne, hp⟩
theorem HasT.alloc {w : World} {kl : κ → Lit} {k : TypeId} {b : Nat} {ts : List (Ti κ)} (h : HasT P k kl w b ts) (o : Obj) : HasT P k kl (w.alloc o) b ts := h.kept (World.grownBy_alloc w o none) (by simp)
theorem HasT.setCell {w : World} {kl : κ → Lit} {k : TypeId} {b : Nat} {ts : List (Ti κ)} (h : HasT P k kl w b ts) {a : Addr} (ha : b ≠ a.block) (u : Value) : HasT P k kl (w.setCell a u) b ts := by
  obtain ⟨es, hes, hp⟩ := h
  exact ⟨es, hes.setCell ha u, hp⟩
theorem HasT.drew {w : World} {kl : κ → Lit} {k : TypeId} {b : Nat} {ts : List (Ti κ)} (h : HasT P k kl w b ts) : HasT P k kl w.drew b ts := h
theorem HasT.drewN {w : World} {kl : κ → Lit} {k : TypeId} {b : Nat} {ts : List (Ti κ)} (h : HasT P k kl w b ts) (m : Nat) : HasT P k kl (w.drewN m) b ts := h
theorem HasT.len {w : World} {kl : κ → Lit} {k e t : TypeId} {b : Nat} {ts : List (Ti κ)} (h : HasT P k kl w b ts) (ht : P.underlying t = some (.map k e)) (ty : TypeId) : (Builtin.len_ #[t] ty #[.map (some b)]).run P w = .ok (.int .i64 ts.length) w := by
  obtain ⟨es, hes, hp⟩ := h
  rw [hes.len ht, HasT.size hp]
theorem HasT.lt {w : World} {kl : κ → Lit} {k : TypeId} {b : Nat} {ts : List (Ti κ)} (h : HasT P k kl w b ts) : b < w.heap.size := by
  obtain ⟨es, hes, hp⟩ := h
  exact hes.lt
theorem wpList_deleteT (hg : o.guard = none) (m x : Operand) (t k : TypeId) (hop : o.op = Op.call { callee := Callee.builtin Builtin.delete, args := #[m, x], argTypes := #[t, k] }) (e : TypeId) (K : Keyed P k) (ht : P.underlying t = some (.map k e))
    {kl : κ → Lit} (ok : KeyOk kl) (b : Nat) (ts : List (Ti κ)) (hm : a.eval m = .map (some b)) (hown : HasT P k kl w b ts) (key : Value) (y : κ) (hx : a.eval x = key) (hkey : keyOf P k key = some (kl y))
    (hK : ∀ w', HasT P k kl w' b (ts.filter fun x => !keyIs y x) → w.grownBy w' (some b) → wpList P ops Q rest (a.put o.dst (.tuple #[])) w') : wpList P ops Q (o :: rest) a w := by
  obtain ⟨es, hes, hp⟩ := hown
  refine wpList_delete_own w hg m x t k hop e K ht R2 b _ _ hm hes key (kl y) hx hkey (fun w' h1 h2 => hK w' ?_ h2.grown)
  obtain ⟨es', he, hp'⟩ := del_perm ok hp y
  rw [he] at h1
  exact ⟨es', tight h1 (by rw [hp'.length_eq, List.length_map]), hp'⟩
theorem wpList_putT (hg : o.guard = none) (m x v : Operand) (t : TypeId) (hop : o.op = Op.mapUpdate t m x v) (k e : TypeId) (K : Keyed P k) (ht : P.underlying t = some (.map k e))
    {kl : κ → Lit} (ok : KeyOk kl) (b : Nat) (ts : List (Ti κ)) (hm : a.eval m = .map (some b)) (hown : HasT P k kl w b ts) (hn : ts.length < maxLen) (key : Value) (y : Ti κ) (hx : a.eval x = key) (hv : a.eval v = .agg #[.int .i64 y.2.1, .int .i64 y.2.2]) (hkey : keyOf P k key = some (kl y.1))
    (hK : ∀ w', HasT P k kl w' b ((ts.filter fun x => !keyIs y.1 x) ++ [y]) → w.grownBy w' (some b) → wpList P ops Q rest (a.put o.dst undef) w') : wpList P ops Q (o :: rest) a w := by
  obtain ⟨es, hes, hp⟩ := hown
  refine wpList_mapUpdate_own w hg m x v t hop k e K ht R2 b _ _ hm hes hn key _ (kl y.1) hx hv hkey (ent kl y).2 [] (R2_mk _ _) (fun w' h1 h2 => hK w' ?_ h2)
  obtain ⟨es', he, hp'⟩ := put_perm ok hp y
  rw [he] at h1
  exact ⟨es', tight h1 (by rw [hp'.length_eq, List.length_map]), hp'⟩
end
end Whl
end Go.Proofs.YtdpppljobikjhaaDoor
