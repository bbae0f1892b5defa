/-
  Keys of the tree's maps, and how a map to bool reads.
-/
import Derived.Test.YtdgbemafhhhceaaRows
import Derived.Test.YtdgbemafhhhceaaRow
import Derived.Test.YtdgbemafhhhceaaMapR
import Derived.Test.YtdgbemafhhhceaaTreeEnds
import Derived.DeepKeys4
namespace Go.Proofs.Ytdgbemafhhhceaa
set_option linter.unusedVariables false
set_option linter.unusedSimpArgs false
open Go.RowKit Go.Maps
namespace Tree
open Mp
theorem laidOut : laidOutB Try.prog = true := by kernel_rfl
theorem keyLaw : WideMaps.KeyLaw Try.prog 54 := deep_law_laid laidOut (m := 2) (by decide) (of_decide_eq_true (by kernel_rfl)) (by kernel_rfl) (by kernel_rfl)
theorem law : Keyed Try.prog 54 := Keyed.of_law keyLaw
def okK (k : Int × Int) : Prop := (Lit.int .i64 k.1).wf = true ∧ (Lit.int .i64 k.2).wf = true
abbrev Key := {k : Int × Int // okK k}
instance : DecidableEq Key := fun a b => if h : a.1 = b.1 then .isTrue (Subtype.ext h) else .isFalse (fun e => h (by rw [e]))
def kvR (k : Int × Int) : Value := .agg #[.int .i64 k.1, .int .i64 k.2]
def kv (k : Key) : Value := kvR k.1
section
variable {P : Program} {tk ti tm : TypeId} {f0 f1 : Field} {n : Nat}
/-- what the program's tables say of the key's type -/
structure KeyT (P : Program) (tk ti tm : TypeId) (f0 f1 : Field) (n : Nat) : Prop where
  u : P.underlying tk = some (.struct #[f0, f1])
  t0 : f0.type = ti
  t1 : f1.type = tm
  o0 : f0.offset = 0
  o1 : f1.offset = 1
  n0 : (f0.name != "_") = true
  n1 : (f1.name != "_") = true
  kt : P.keyType tk = true
  c : P.cellsOf tk = 2
  c0 : P.cellsOf ti = 1
  c1 : P.cellsOf tm = 1
  u0 : P.underlying ti = some (.int .i64)
  u1 : P.underlying tm = some (.int .i64)
  sz : P.types.size = n + 1
theorem KeyT.lits (h : KeyT P tk ti tm f0 f1 n) (a b : Value) (d : Nat) : P.keyLits (d + 1) tk [a, b] = (do let x ← P.keyLits d ti [a]; let y ← P.keyLits d tm [b]; pure (x ++ y)) := by
  conv => lhs; rw [Program.keyLits.eq_def]
  simp only [h.u]
  have e0 : (List.drop f0.offset [a, b]).take (P.cellsOf ti) = [a] := by rw [h.o0, h.c0]; rfl
  have e1 : (List.drop f1.offset [a, b]).take (P.cellsOf tm) = [b] := by rw [h.o1, h.c1]; rfl
  have hall : (#[f0, f1].all fun x => x.name != "_") = true := by simp [h.n0, h.n1]
  rw [if_pos ⟨by rw [h.c]; rfl, hall⟩]
  simp only [List.mapM_cons, List.mapM_nil, h.t0, h.t1, e0, e1]
  cases P.keyLits d ti [a] with
  | none => rfl
  | some x =>
    cases P.keyLits d tm [b] with
    | none => rfl
    | some y => simp
theorem KeyT.lit0 (h : KeyT P tk ti tm f0 f1 n) (a : Value) (d : Nat) : P.keyLits (d + 1) ti [a] = match a with
    | .int q' m => if q' = .i64 ∧ (Lit.int .i64 m).wf = true then some [.int .i64 m] else none
    | _ => none := by
  conv => lhs; rw [Program.keyLits.eq_def]
  simp only [h.u0]
  cases a <;> rfl
theorem KeyT.lit1 (h : KeyT P tk ti tm f0 f1 n) (a : Value) (d : Nat) : P.keyLits (d + 1) tm [a] = match a with
    | .int q' m => if q' = .i64 ∧ (Lit.int .i64 m).wf = true then some [.int .i64 m] else none
    | _ => none := by
  conv => lhs; rw [Program.keyLits.eq_def]
  simp only [h.u1]
  cases a <;> rfl
theorem KeyT.to (h : KeyT P tk ti tm f0 f1 n) (k : Int × Int) (hk : okK k) : ∃ l, Go.keyOf P tk (kvR k) = some l := by
  obtain ⟨v, m⟩ := k
  obtain ⟨h1, h2⟩ := hk
  unfold Go.keyOf kvR
  simp only [h.u]
  have hf : (Value.agg #[.int .i64 v, .int .i64 m]).formed P tk = true := by simp [Value.formed, h.u, h.c]
  rw [if_pos (by rw [h.kt, hf]; rfl), h.sz]
  have e : (Value.agg #[.int .i64 v, .int .i64 m]).cells.toList = [.int .i64 v, .int .i64 m] := rfl
  rw [e, h.lits, h.lit0, h.lit1]
  simp only [h1, h2]
  exact ⟨_, rfl⟩
theorem KeyT.from (h : KeyT P tk ti tm f0 f1 n) {key : Value} {l : Lit} (hk : Go.keyOf P tk key = some l) : ∃ k, okK k ∧ key = kvR k := by
  unfold Go.keyOf at hk
  simp only [h.u] at hk
  split at hk
  · rename_i hc
    rw [h.kt, Bool.true_and] at hc
    cases key with
    | agg cs =>
      have h2 : cs.size = 2 := by simpa [Value.formed, h.u, h.c] using hc
      obtain ⟨cs⟩ := cs
      match cs, h2 with
      | [a, b], _ =>
        have e : (Value.agg #[a, b]).cells.toList = [a, b] := rfl
        rw [e, h.sz, h.lits, h.lit0, h.lit1] at hk
        obtain ⟨ls, h3, _⟩ := Option.map_eq_some_iff.1 hk
        obtain ⟨x, hx, h4⟩ := Option.bind_eq_some_iff.1 h3
        obtain ⟨y, hy, _⟩ := Option.bind_eq_some_iff.1 h4
        cases a with
        | int q v =>
          cases b with
          | int q2 m =>
            simp only at hx hy
            split at hx
            · rename_i h5
              split at hy
              · rename_i h6
                obtain ⟨rfl, h5⟩ := h5
                obtain ⟨rfl, h6⟩ := h6
                exact ⟨(v, m), ⟨h5, h6⟩, rfl⟩
              · cases hy
            · cases hx
          | _ => cases hy
        | _ => cases hx
    | _ => simp [Value.formed, h.u] at hc
  · cases hk
end
theorem keyT : ∃ f0 f1 n, KeyT Try.prog 54 3 3 f0 f1 n :=
  ⟨_, _, Try.prog.types.size - 1, Try.underlying54, rfl, rfl, rfl, rfl, by decide, by decide, by kernel_rfl, by kernel_rfl, by kernel_rfl, by kernel_rfl, Try.underlying3, Try.underlying3, by kernel_rfl⟩
theorem keyOf_ok (k : Int × Int) (h : okK k) : ∃ l, Go.keyOf Try.prog 54 (kvR k) = some l := by
  obtain ⟨_, _, _, hk⟩ := keyT
  exact hk.to k h
noncomputable def kl (k : Key) : Lit := Classical.choose (keyOf_ok k.1 k.2)
theorem keyOf (k : Key) : Go.keyOf Try.prog 54 (kv k) = some (kl k) := Classical.choose_spec (keyOf_ok k.1 k.2)
theorem invK (key : Value) (l : Lit) (h : Go.keyOf Try.prog 54 key = some l) : ∃ x, key = kv x := by
  obtain ⟨_, _, _, hk⟩ := keyT
  obtain ⟨k, h1, h2⟩ := hk.from h
  exact ⟨⟨k, h1⟩, h2⟩
theorem kvK (y : Key) (l : Lit) (h : Go.keyOf Try.prog 54 (kv y) = some l) : l = kl y := by
  rw [keyOf] at h
  injection h with h
  exact h.symm
theorem kv_inj {a b : Key} (h : kv a = kv b) : a = b := by
  obtain ⟨⟨v, m⟩, h1⟩ := a
  obtain ⟨⟨v', m'⟩, h2⟩ := b
  simp [kv, kvR] at h
  obtain ⟨e1, e2⟩ := h
  subst e1; subst e2
  rfl
theorem same (a b : Key) : (kl a).sameKey (kl b) = decide (a = b) := by
  have ha := law.key (keyOf a)
  by_cases h : a = b
  · subst h; rw [WideAt.sameKey_self ha]; simp
  · rw [decide_eq_false h]
    cases e : (kl a).sameKey (kl b) with
    | false => rfl
    | true =>
      have e1 := WideAt.sameKey_eq e
      exact absurd (kv_inj (law.inj (keyOf a) (by rw [e1]; exact keyOf b))) h
/-- a map to bool -/
def RB (v : Value) : Option (DataW Unit × List MemPlace) := match v with
  | .bool b => some (.lit (.bool b), [])
  | _ => none
def EB {κ : Type} (k0 : κ) (kl : κ → Lit) : Enc κ (κ × Bool) where
  key x := x.1
  kl := kl
  val x := .bool x.2
  dat x := .lit (.bool x.2)
  R := RB
  out := fun _ => rfl
  inv := by
    intro v y h
    cases v with
    | bool b =>
      obtain ⟨d, ps⟩ := y
      simp only [RB, Option.some.injEq, Prod.mk.injEq] at h
      obtain ⟨rfl, rfl⟩ := h
      exact ⟨(k0, b), rfl, rfl⟩
    | _ => cases h
  inj := by
    intro x y h
    simp at h
    rw [h]
theorem zeroB (w : World) {κ : Type} (k0 : κ) (kl : κ → Lit) : (zeroValue 4).run Try.prog w = .ok ((EB k0 kl).val (k0, false)) w := by
  show (zeroValue 4).run Try.prog w = .ok (.bool false) w
  kernel_rfl
def klU (k : Int) : Lit := .int .u64 k
theorem lawU : Keyed Try.prog 44 := int_keyed Try.underlying44
theorem keyOfU {k : Int} (hk : (Lit.int .u64 k).wf = true) : Go.keyOf Try.prog 44 (.int .u64 k) = some (klU k) := keyOf_int_mk Try.underlying44 hk
def EU : Enc Int (Int × Bool) := EB 0 klU
theorem sameU : Same EU := fun a b => by
  show (klU a).sameKey (klU b) = decide (a = b)
  have hk : ∀ k, WideAt.IsKeyLit (klU k) := fun k => by unfold klU; simp [WideAt.IsKeyLit]
  by_cases h : a = b
  · subst h; simp [WideAt.sameKey_self (hk a)]
  · rw [decide_eq_false h]
    cases e : (klU a).sameKey (klU b) with
    | false => rfl
    | true =>
      have e1 := WideAt.sameKey_eq e
      unfold klU at e1
      injection e1 with _ e2
      exact absurd e2 h
def key0 : Key := ⟨(0, 0), by decide, by decide⟩
noncomputable def E2 : Enc Key (Key × Bool) := EB key0 kl
theorem same2 : Same E2 := same
def yes {κ : Type} (l : List κ) : List (κ × Bool) := l.map fun k => (k, true)
theorem any_yes {κ : Type} [DecidableEq κ] (k0 : κ) (kl : κ → Lit) (l : List κ) (k : κ) : (yes l).any (keyIs (EB k0 kl) k) = decide (k ∈ l) := by
  rw [Bool.eq_iff_iff, List.any_eq_true, decide_eq_true_eq]
  constructor
  · rintro ⟨x, hx, h⟩
    obtain ⟨y, hy, rfl⟩ := List.mem_map.1 hx
    have e : y = k := of_decide_eq_true h
    rw [← e]; exact hy
  · intro h
    exact ⟨(k, true), List.mem_map.2 ⟨k, h, rfl⟩, by simp [keyIs, EB]⟩
theorem apart_yes {κ : Type} (k0 : κ) (kl : κ → Lit) {l : List κ} (h : l.Pairwise (· ≠ ·)) : Apart (EB k0 kl) (yes l) := by
  unfold Apart yes
  rw [List.pairwise_map]
  exact h
theorem look_yes {κ : Type} [DecidableEq κ] (k0 : κ) (kl : κ → Lit) {l : List κ} (h : l.Pairwise (· ≠ ·)) (k : κ) : (EB k0 kl).val (Mp.look (EB k0 kl) (k0, false) (yes l) k) = .bool (decide (k ∈ l)) := by
  by_cases hk : k ∈ l
  · have e := look_has (E := EB k0 kl) (z := (k0, false)) (k := k) (x := (k, true)) (show (k, true) ∈ yes l from List.mem_map.2 ⟨k, hk, rfl⟩) (apart_yes k0 kl h) rfl
    rw [e]
    simp [EB, hk]
  · have e : (yes l).any (keyIs (EB k0 kl) k) = false := by rw [any_yes]; simp [hk]
    rw [look_none e]
    simp [EB, hk]
theorem put_yes {κ : Type} [DecidableEq κ] (k0 : κ) (kl : κ → Lit) {l : List κ} {k : κ} (hk : k ∉ l) : ((yes l).filter fun x => !keyIs (EB k0 kl) k x) ++ [(k, true)] = yes (l ++ [k]) := by
  have e : ((yes l).filter fun x => !keyIs (EB k0 kl) k x) = yes l := List.filter_eq_self.2 fun x hx => by
    obtain ⟨y, hy, rfl⟩ := List.mem_map.1 hx
    have : ¬ y = k := fun e => hk (e ▸ hy)
    simp [keyIs, EB, this]
  rw [e]
  simp [yes]
end Tree
end Go.Proofs.Ytdgbemafhhhceaa
