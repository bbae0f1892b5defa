/-
  Words for a map of things that carry their own keys: 'Has E P K w b ts': block b is a map of at most so many entries that holds just the things ts, in whatever order; and for a range over it.
-/
import Derived.Maps.RangeWalk
import Derived.Maps.OwnSet
import Derived.WalkKit
import Derived.Lib.Hide
import Derived.Deep.QuietTactic
namespace Go.Proofs.Ytdgbemafhhhceaa
set_option linter.unusedVariables false
set_option linter.unusedSimpArgs false
open Go.RowKit Go.Maps
namespace Mp
set_option linter.unusedSectionVars false
/-- how things are laid into a map: their keys, the keys' words, the elements' values, and how these read -/
structure Enc (κ ε : Type) where
  key : ε → κ
  kl : κ → Lit
  val : ε → Value
  dat : ε → DataW Unit
  R : Value → Option (DataW Unit × List MemPlace)
  out : ∀ x, R (val x) = some (dat x, [])
  inv : ∀ {v : Value} {y : DataW Unit × List MemPlace}, R v = some y → ∃ x, v = val x ∧ y = (dat x, [])
  inj : ∀ {x y : ε}, dat x = dat y → val x = val y
theorem insert_perm (x : Lit × DataW Unit) : ∀ l : List (Lit × DataW Unit), (DataW.insert x l).Perm (x :: l)
  | [] => List.Perm.refl _
  | y :: r => by
    unfold DataW.insert
    split
    · exact List.Perm.refl _
    · exact ((insert_perm x r).cons y).trans (List.Perm.swap x y r)
theorem perm_mid {α : Type} {x : α} {lf : List α} (h : x ∈ lf) : ∃ l, lf.Perm (x :: l) := by
  obtain ⟨s, t, rfl⟩ := List.append_of_mem h
  exact ⟨s ++ t, List.perm_middle⟩
section
variable {κ ε : Type} [DecidableEq κ] {E : Enc κ ε}
def Same (E : Enc κ ε) : Prop := ∀ a b, (E.kl a).sameKey (E.kl b) = decide (a = b)
def ent (E : Enc κ ε) (x : ε) : Lit × DataW Unit := (E.kl (E.key x), E.dat x)
def keyIs (E : Enc κ ε) (k : κ) (x : ε) : Bool := decide (E.key x = k)
def Apart (E : Enc κ ε) (ts : List ε) : Prop := ts.Pairwise fun x y => E.key x ≠ E.key y
variable {P : Program} {K : TypeId} {w w' : World} {b n m r : Nat} {ts dn : List ε}
def Has (E : Enc κ ε) (P : Program) (K : TypeId) (w : World) (b : Nat) (ts : List ε) : Prop := ∃ es, w.ownsMap P K E.R b ts.length (.map es) ∧ es.Perm (ts.map (ent E))
theorem tight {es : List (Lit × DataW Unit)} (h : w.ownsMap P K E.R b n (.map es)) (hp : es.length = m) : w.ownsMap P K E.R b m (.map es) := by
  obtain ⟨es0, clock, hb, F, hs, hD⟩ := h
  refine ⟨es0, clock, hb, F, ?_, hD⟩
  injection hD with hD
  have := congrArg List.length hD
  rw [length_sorted, List.length_map] at this
  rw [← hp, this]
  simp
theorem Has.made (w : World) (P : Program) (K : TypeId) (E : Enc κ ε) : Has E P K (w.alloc (.map #[] 0)) w.heap.size [] := ⟨[], World.ownsMap_made w P K E.R, List.Perm.refl _⟩
theorem has_any (ok : Same E) {es : List (Lit × DataW Unit)} (h : es.Perm (ts.map (ent E))) (k : κ) : Maps.has (.map es) (E.kl k) = ts.any (keyIs E k) := by
  rw [has_eq, Bool.eq_iff_iff, List.any_eq_true, List.any_eq_true]
  constructor
  · rintro ⟨p, hp, hs⟩
    obtain ⟨x, hx, rfl⟩ := List.mem_map.1 (h.mem_iff.1 hp)
    exact ⟨x, hx, by have hs' : (E.kl (E.key x)).sameKey (E.kl k) = true := hs; rw [ok] at hs'; exact hs'⟩
  · rintro ⟨x, hx, hs⟩
    exact ⟨ent E x, h.mem_iff.2 (List.mem_map.2 ⟨x, hx, rfl⟩), by show (E.kl (E.key x)).sameKey (E.kl k) = true; rw [ok]; exact hs⟩
theorem size_len {es : List (Lit × DataW Unit)} (h : es.Perm (ts.map (ent E))) : Maps.size (.map es) = ts.length := by rw [size_eq, h.length_eq, List.length_map]
theorem strike_perm (ok : Same E) {es : List (Lit × DataW Unit)} (h : es.Perm (ts.map (ent E))) (k : κ) : (es.filter fun p => !p.1.sameKey (E.kl k)).Perm ((ts.filter fun x => !keyIs E k x).map (ent E)) := by
  refine (h.filter _).trans ?_
  rw [List.filter_map]
  have : ((fun p : Lit × DataW Unit => !p.1.sameKey (E.kl k)) ∘ ent E) = fun x : ε => !keyIs E k x := by
    funext x
    simp only [Function.comp, ent, keyIs]
    rw [ok]
  rw [this]
theorem put_perm (ok : Same E) {es : List (Lit × DataW Unit)} (h : es.Perm (ts.map (ent E))) (x : ε) :
    ∃ es', (DataW.map es).put (E.kl (E.key x)) (E.dat x) = .map es' ∧ es'.Perm (((ts.filter fun y => !keyIs E (E.key x) y) ++ [x]).map (ent E)) := by
  refine ⟨_, rfl, (insert_perm _ _).trans ?_⟩
  rw [List.map_append]
  exact ((strike_perm ok h (E.key x)).cons (ent E x)).trans (List.perm_append_comm (l₁ := [ent E x]))
theorem del_perm (ok : Same E) {es : List (Lit × DataW Unit)} (h : es.Perm (ts.map (ent E))) (k : κ) :
    ∃ es', (DataW.map es).del (E.kl k) = .map es' ∧ es'.Perm ((ts.filter fun y => !keyIs E k y).map (ent E)) := ⟨_, rfl, strike_perm ok h k⟩
theorem only_key : ∀ (ts : List ε), Apart E ts → ∀ {x y : ε}, y ∈ ts → x ∈ ts → E.key y = E.key x → y = x
  | [], _, _, _, hy, _, _ => absurd hy (by simp)
  | t :: r, hd, x, y, hy, hx, e => by
    have hd' := List.pairwise_cons.1 hd
    rcases List.mem_cons.1 hy with hy1 | hy1
    · rcases List.mem_cons.1 hx with hx1 | hx1
      · rw [hy1, hx1]
      · exact absurd (hy1 ▸ e) (hd'.1 _ hx1)
    · rcases List.mem_cons.1 hx with hx1 | hx1
      · exact absurd (hx1 ▸ e.symm) (hd'.1 _ hy1)
      · exact only_key r hd'.2 hy1 hx1 e
theorem at_perm (ok : Same E) {es : List (Lit × DataW Unit)} (h : es.Perm (ts.map (ent E))) (hd : Apart E ts) {x : ε} (hx : x ∈ ts) (z : DataW Unit) : (DataW.map es).atKey (E.kl (E.key x)) z = E.dat x := by
  have hm : ent E x ∈ es := h.mem_iff.2 (List.mem_map.2 ⟨x, hx, rfl⟩)
  have hf : (es.find? fun p => p.1.sameKey (E.kl (E.key x))).isSome = true := List.find?_isSome.2 ⟨_, hm, by show (E.kl (E.key x)).sameKey (E.kl (E.key x)) = true; rw [ok]; simp⟩
  obtain ⟨p, hp⟩ := Option.isSome_iff_exists.1 hf
  have h1 := List.mem_of_find?_eq_some hp
  have h2 : p.1.sameKey (E.kl (E.key x)) = true := List.find?_some (p := fun p : Lit × DataW Unit => p.1.sameKey (E.kl (E.key x))) hp
  obtain ⟨y, hy, rfl⟩ := List.mem_map.1 (h.mem_iff.1 h1)
  have h3 : E.key y = E.key x := by
    have : (E.kl (E.key y)).sameKey (E.kl (E.key x)) = true := h2
    rw [ok] at this
    simpa using this
  have h4 : y = x := only_key ts hd hy hx h3
  subst h4
  simp only [DataW.atKey, hp]
  rfl
theorem at_none (ok : Same E) {es : List (Lit × DataW Unit)} (h : es.Perm (ts.map (ent E))) {k : κ} (hk : ts.any (keyIs E k) = false) (z : DataW Unit) : (DataW.map es).atKey (E.kl k) z = z :=
  atKey_of_not_has (by rw [has_any ok h, hk]) z
/-- the thing at a key, or what stands for none -/
def look (E : Enc κ ε) (z : ε) (ts : List ε) (k : κ) : ε := (ts.find? (keyIs E k)).getD z
theorem look_has {z : ε} {k : κ} {x : ε} (hx : x ∈ ts) (hd : Apart E ts) (hk : E.key x = k) : look E z ts k = x := by
  unfold look
  cases hf : ts.find? (keyIs E k) with
  | none => exact absurd (List.find?_eq_none.1 hf x hx) (by simp [keyIs, hk])
  | some y =>
    have h1 := List.mem_of_find?_eq_some hf
    have h2 : keyIs E k y = true := List.find?_some (p := keyIs E k) hf
    exact only_key ts hd h1 hx (by rw [hk]; simpa [keyIs] using h2)
theorem look_none {z : ε} {k : κ} (hk : ts.any (keyIs E k) = false) : look E z ts k = z := by
  unfold look
  cases hf : ts.find? (keyIs E k) with
  | none => rfl
  | some y =>
    have h1 := List.mem_of_find?_eq_some hf
    have h2 : keyIs E k y = true := List.find?_some (p := keyIs E k) hf
    have := List.any_eq_true.2 ⟨y, h1, h2⟩
    rw [hk] at this
    cases this
theorem at_look (ok : Same E) {es : List (Lit × DataW Unit)} (h : es.Perm (ts.map (ent E))) (hd : Apart E ts) (k : κ) (z : ε) : (DataW.map es).atKey (E.kl k) (E.dat z) = E.dat (look E z ts k) := by
  cases hk : ts.any (keyIs E k) with
  | false => rw [at_none ok h hk, look_none hk]
  | true =>
    obtain ⟨x, hx, hkx⟩ := List.any_eq_true.1 hk
    have e : E.key x = k := by simpa [keyIs] using hkx
    subst e
    rw [at_perm ok h hd hx, look_has hx hd rfl]
theorem Has.kept {row : Option Nat} (h : Has E P K w b ts) (hg : w.grownBy w' row) (hne : some b ≠ row) : Has E P K w' b ts := by
  obtain ⟨es, hes, hp⟩ := h
  exact ⟨es, hes.kept hg hne, hp⟩
theorem Has.alloc (h : Has E P K w b ts) (o : Obj) : Has E P K (w.alloc o) b ts := h.kept (World.grownBy_alloc w o none) (by simp)
theorem Has.block (h : Has E P K w b ts) (hb : w'.heap[b]? = w.heap[b]?) : Has E P K w' b ts := by
  obtain ⟨es, ⟨es0, clock, h1, F, hs, hD⟩, hp⟩ := h
  exact ⟨es, ⟨es0, clock, hb.trans h1, F, hs, hD⟩, hp⟩
theorem Has.setCell (h : Has E P K w b ts) {a : Addr} (ha : b ≠ a.block) (u : Value) : Has E P K (w.setCell a u) b ts := by
  obtain ⟨es, hes, hp⟩ := h
  exact ⟨es, hes.setCell ha u, hp⟩
theorem Has.drew (h : Has E P K w b ts) : Has E P K w.drew b ts := h
theorem Has.drewN (h : Has E P K w b ts) (m : Nat) : Has E P K (w.drewN m) b ts := h
theorem Has.lt (h : Has E P K w b ts) : b < w.heap.size := by
  obtain ⟨es, hes, hp⟩ := h
  exact hes.lt
theorem Has.len {e t : TypeId} (h : Has E P K w b ts) (ht : P.underlying t = some (.map K e)) (ty : TypeId) : (Builtin.len_ #[t] ty #[.map (some b)]).run P w = .ok (.int .i64 ts.length) w := by
  obtain ⟨es, hes, hp⟩ := h
  rw [hes.len ht, size_len hp]
theorem Has.look {e t : TypeId} (ok : Same E) (KK : Keyed P K) (ht : P.underlying t = some (.map K e)) {z : ε} (hz : (zeroValue e).run P w = .ok (E.val z) w)
    (hown : Has E P K w b ts) (hd : Apart E ts) {key : Value} {y : κ} (hkey : keyOf P K key = some (E.kl y)) : (Instr.lookup t (.map (some b)) key false).run P w = .ok (E.val (look E z ts y)) w := by
  obtain ⟨es, hes, hp⟩ := hown
  obtain ⟨v, ps, hrun, hv⟩ := hes.lookup KK ht hz (E.out z) hkey
  rw [at_look ok hp hd y z] at hv
  obtain ⟨x, rfl, h2⟩ := E.inv hv
  injection h2 with h2
  rw [hrun, E.inj h2]
theorem Has.look_ok {e t : TypeId} (ok : Same E) (KK : Keyed P K) (ht : P.underlying t = some (.map K e)) {z : ε} (hz : (zeroValue e).run P w = .ok (E.val z) w)
    (hown : Has E P K w b ts) (hd : Apart E ts) {key : Value} {y : κ} (hkey : keyOf P K key = some (E.kl y)) : (Instr.lookup t (.map (some b)) key true).run P w = .ok (.tuple #[E.val (Mp.look E z ts y), .bool (ts.any (keyIs E y))]) w := by
  obtain ⟨es, hes, hp⟩ := hown
  obtain ⟨v, ps, hrun, hv⟩ := hes.look_ok KK ht hz (E.out z) hkey
  rw [at_look ok hp hd y z] at hv
  obtain ⟨x, rfl, h2⟩ := E.inv hv
  injection h2 with h2
  rw [hrun, has_any ok hp, E.inj h2]
end
section
variable {κ ε : Type} [DecidableEq κ] {E : Enc κ ε} {P : Program} (w : World) {ops : Array Oper} {rest : List Oper} {o : Oper} {a : Act} {Q : Exit → Act → World → Prop}
theorem wpList_look_ok (hg : o.guard = none) (m x : Operand) (t : TypeId) (hop : o.op = Op.lookup t m x true) (k e : TypeId) (K : Keyed P k) (ht : P.underlying t = some (.map k e)) {z : ε} (hz : (zeroValue e).run P w = .ok (E.val z) w)
    (ok : Same E) (b : Nat) (ts : List ε) (hm : a.eval m = .map (some b)) (hown : Has E P k w b ts) (hd : Apart E ts) (key : Value) (y : κ) (hx : a.eval x = key) (hkey : keyOf P k key = some (E.kl y))
    (hK : wpList P ops Q rest (a.put o.dst (.tuple #[E.val (look E z ts y), .bool (ts.any (keyIs E y))])) w) : wpList P ops Q (o :: rest) a w := by
  obtain ⟨es, hes, hp⟩ := hown
  refine wpList_lookup_own_ok w hg m x t hop k e K ht E.R hz _ [] (E.out z) b _ _ hm hes key (E.kl y) hx hkey (fun v ps hv => ?_)
  rw [at_look ok hp hd y z] at hv
  obtain ⟨c, rfl, h2⟩ := E.inv hv
  injection h2 with h2
  rw [has_any ok hp, ← E.inj h2]
  exact hK
theorem wpList_del (hg : o.guard = none) (m x : Operand) (t k : TypeId) (hop : o.op = Op.call { callee := Callee.builtin Builtin.delete, args := #[m, x], argTypes := #[t, k] }) (e : TypeId) (K : Keyed P k) (ht : P.underlying t = some (.map k e))
    (ok : Same E) (b : Nat) (ts : List ε) (hm : a.eval m = .map (some b)) (hown : Has E P k w b ts) (key : Value) (y : κ) (hx : a.eval x = key) (hkey : keyOf P k key = some (E.kl y))
    (hK : ∀ w', Has E P k w' b (ts.filter fun x => !keyIs E y x) → w.grownBy w' (some b) → wpList P ops Q rest (a.put o.dst (.tuple #[])) w') : wpList P ops Q (o :: rest) a w := by
  obtain ⟨es, hes, hp⟩ := hown
  refine wpList_delete_own w hg m x t k hop e K ht E.R b _ _ hm hes key (E.kl y) hx hkey (fun w' h1 h2 => hK w' ?_ h2.grown)
  obtain ⟨es', he, hp'⟩ := del_perm ok hp y
  rw [he] at h1
  exact ⟨es', tight h1 (by rw [hp'.length_eq, List.length_map]), hp'⟩
theorem wpList_put (hg : o.guard = none) (m x v : Operand) (t : TypeId) (hop : o.op = Op.mapUpdate t m x v) (k e : TypeId) (K : Keyed P k) (ht : P.underlying t = some (.map k e))
    (ok : Same E) (b : Nat) (ts : List ε) (hm : a.eval m = .map (some b)) (hown : Has E P k w b ts) (hn : ts.length < maxLen) (key : Value) (y : ε) (hx : a.eval x = key) (hv : a.eval v = E.val y) (hkey : keyOf P k key = some (E.kl (E.key y)))
    (hK : ∀ w', Has E P k w' b ((ts.filter fun x => !keyIs E (E.key y) x) ++ [y]) → w.grownBy w' (some b) → wpList P ops Q rest (a.put o.dst undef) w') : wpList P ops Q (o :: rest) a w := by
  obtain ⟨es, hes, hp⟩ := hown
  refine wpList_mapUpdate_own w hg m x v t hop k e K ht E.R b _ _ hm hes hn key _ (E.kl (E.key y)) hx hv hkey (E.dat y) [] (E.out y) (fun w' h1 h2 => hK w' ?_ h2)
  obtain ⟨es', he, hp'⟩ := put_perm ok hp y
  rw [he] at h1
  exact ⟨es', tight h1 (by rw [hp'.length_eq, List.length_map]), hp'⟩
end
end Mp
end Go.Proofs.Ytdgbemafhhhceaa
