/-
  Keys and entries of fdb's map: how they read.
-/
import Derived.Test.YtnnpmbjicpndeaaRows
import Derived.Test.YtnnpmbjicpndeaaRow
import Derived.Test.YtnnpmbjicpndeaaMapR
import Derived.Test.YtnnpmbjicpndeaaFdbCmp
import Derived.DeepKeys4
namespace Go.Proofs.Ytnnpmbjicpndeaa
set_option linter.unusedVariables false
set_option linter.unusedSimpArgs false
open Go.RowKit Go.Maps
namespace Fdb
open Mp FdbC
theorem laidOut : laidOutB Try.prog = true := by kernel_rfl
theorem keyLaw : WideMaps.KeyLaw Try.prog 52 := deep_law_laid laidOut (m := 2) (by decide) (of_decide_eq_true (by kernel_rfl)) (by kernel_rfl) (by kernel_rfl)
theorem law : Keyed Try.prog 52 := Keyed.of_law keyLaw
def okK (k : Int × ByteArray) : Prop := (Lit.int .i64 k.1).wf = true ∧ k.2.size ≤ maxLen
abbrev Key := {k : Int × ByteArray // okK k}
instance : DecidableEq Key := fun a b => if h : a.1 = b.1 then .isTrue (Subtype.ext h) else .isFalse (fun e => h (by rw [e]))
def kvR (k : Int × ByteArray) : Value := .agg #[.int .i64 k.1, .string k.2]
def kv (k : Key) : Value := kvR k.1
section
variable {P : Program} {tk ti tm : TypeId} {f0 f1 : Field} {n : Nat}
/-- what the program's tables say of the key's type -/
structure KeyT (P : Program) (tk ti tm : TypeId) (f0 f1 : Field) (n : Nat) : Prop where
  u : P.underlying tk = some (.struct #[f0, f1])
  t0 : f0.type = ti
  t1 : f1.type = tm
  o0 : f0.offset = 0
  o1 : f1.offset = 1
  n0 : (f0.name != "_") = true
  n1 : (f1.name != "_") = true
  kt : P.keyType tk = true
  c : P.cellsOf tk = 2
  c0 : P.cellsOf ti = 1
  c1 : P.cellsOf tm = 1
  u0 : P.underlying ti = some (.int .i64)
  u1 : P.underlying tm = some .string
  sz : P.types.size = n + 1
theorem KeyT.lits (h : KeyT P tk ti tm f0 f1 n) (a b : Value) (d : Nat) : P.keyLits (d + 1) tk [a, b] = (do let x ← P.keyLits d ti [a]; let y ← P.keyLits d tm [b]; pure (x ++ y)) := by
  conv => lhs; rw [Program.keyLits.eq_def]
  simp only [h.u]
  have e0 : (List.drop f0.offset [a, b]).take (P.cellsOf ti) = [a] := by rw [h.o0, h.c0]; rfl
  have e1 : (List.drop f1.offset [a, b]).take (P.cellsOf tm) = [b] := by rw [h.o1, h.c1]; rfl
  have hall : (#[f0, f1].all fun x => x.name != "_") = true := by simp [h.n0, h.n1]
  rw [if_pos ⟨by rw [h.c]; rfl, hall⟩]
  simp only [List.mapM_cons, List.mapM_nil, h.t0, h.t1, e0, e1]
  cases P.keyLits d ti [a] with
  | none => rfl
  | some x =>
    cases P.keyLits d tm [b] with
    | none => rfl
    | some y => simp
theorem KeyT.lit0 (h : KeyT P tk ti tm f0 f1 n) (a : Value) (d : Nat) : P.keyLits (d + 1) ti [a] = match a with
    | .int q' m => if q' = .i64 ∧ (Lit.int .i64 m).wf = true then some [.int .i64 m] else none
    | _ => none := by
  conv => lhs; rw [Program.keyLits.eq_def]
  simp only [h.u0]
  cases a <;> rfl
theorem KeyT.lit1 (h : KeyT P tk ti tm f0 f1 n) (a : Value) (d : Nat) : P.keyLits (d + 1) tm [a] = match a with
    | .string s => if s.size ≤ maxLen then some [.string s.data.toList] else none
    | _ => none := by
  conv => lhs; rw [Program.keyLits.eq_def]
  simp only [h.u1]
  cases a <;> rfl
theorem KeyT.to (h : KeyT P tk ti tm f0 f1 n) (k : Int × ByteArray) (hk : okK k) : ∃ l, Go.keyOf P tk (kvR k) = some l := by
  obtain ⟨v, m⟩ := k
  obtain ⟨h1, h2⟩ := hk
  unfold Go.keyOf kvR
  simp only [h.u]
  have hf : (Value.agg #[.int .i64 v, .string m]).formed P tk = true := by simp [Value.formed, h.u, h.c]
  rw [if_pos (by rw [h.kt, hf]; rfl), h.sz]
  have e : (Value.agg #[.int .i64 v, .string m]).cells.toList = [.int .i64 v, .string m] := rfl
  rw [e, h.lits, h.lit0, h.lit1]
  simp only [h1, h2]
  exact ⟨_, rfl⟩
theorem KeyT.from (h : KeyT P tk ti tm f0 f1 n) {key : Value} {l : Lit} (hk : Go.keyOf P tk key = some l) : ∃ k, okK k ∧ key = kvR k := by
  unfold Go.keyOf at hk
  simp only [h.u] at hk
  split at hk
  · rename_i hc
    rw [h.kt, Bool.true_and] at hc
    cases key with
    | agg cs =>
      have h2 : cs.size = 2 := by simpa [Value.formed, h.u, h.c] using hc
      obtain ⟨cs⟩ := cs
      match cs, h2 with
      | [a, b], _ =>
        have e : (Value.agg #[a, b]).cells.toList = [a, b] := rfl
        rw [e, h.sz, h.lits, h.lit0, h.lit1] at hk
        obtain ⟨ls, h3, _⟩ := Option.map_eq_some_iff.1 hk
        obtain ⟨x, hx, h4⟩ := Option.bind_eq_some_iff.1 h3
        obtain ⟨y, hy, _⟩ := Option.bind_eq_some_iff.1 h4
        cases a with
        | int q v =>
          cases b with
          | string m =>
            simp only at hx hy
            split at hx
            · rename_i h5
              split at hy
              · rename_i h6
                obtain ⟨rfl, h5⟩ := h5
                exact ⟨(v, m), ⟨h5, h6⟩, rfl⟩
              · cases hy
            · cases hx
          | _ => cases hy
        | _ => cases hx
    | _ => simp [Value.formed, h.u] at hc
  · cases hk
end
theorem keyT : ∃ f0 f1 n, KeyT Try.prog 52 3 28 f0 f1 n :=
  ⟨_, _, Try.prog.types.size - 1, Try.underlying52, rfl, rfl, rfl, rfl, by decide, by decide, by kernel_rfl, by kernel_rfl, by kernel_rfl, by kernel_rfl, Try.underlying3, Try.underlying28, by kernel_rfl⟩
theorem keyOf_ok (k : Int × ByteArray) (h : okK k) : ∃ l, Go.keyOf Try.prog 52 (kvR k) = some l := by
  obtain ⟨_, _, _, hk⟩ := keyT
  exact hk.to k h
noncomputable def kl (k : Key) : Lit := Classical.choose (keyOf_ok k.1 k.2)
theorem keyOf (k : Key) : Go.keyOf Try.prog 52 (kv k) = some (kl k) := Classical.choose_spec (keyOf_ok k.1 k.2)
theorem invK (key : Value) (l : Lit) (h : Go.keyOf Try.prog 52 key = some l) : ∃ x, key = kv x := by
  obtain ⟨_, _, _, hk⟩ := keyT
  obtain ⟨k, h1, h2⟩ := hk.from h
  exact ⟨⟨k, h1⟩, h2⟩
theorem kvK (y : Key) (l : Lit) (h : Go.keyOf Try.prog 52 (kv y) = some l) : l = kl y := by
  rw [keyOf] at h
  injection h with h
  exact h.symm
theorem kv_inj {a b : Key} (h : kv a = kv b) : a = b := by
  obtain ⟨⟨v, m⟩, h1⟩ := a
  obtain ⟨⟨v', m'⟩, h2⟩ := b
  simp [kv, kvR] at h
  obtain ⟨e1, e2⟩ := h
  subst e1; subst e2
  rfl
theorem same (a b : Key) : (kl a).sameKey (kl b) = decide (a = b) := by
  have ha := law.key (keyOf a)
  by_cases h : a = b
  · subst h; rw [WideAt.sameKey_self ha]; simp
  · rw [decide_eq_false h]
    cases e : (kl a).sameKey (kl b) with
    | false => rfl
    | true =>
      have e1 := WideAt.sameKey_eq e
      exact absurd (kv_inj (law.inj (keyOf a) (by rw [e1]; exact keyOf b))) h
/-- an entry, with its key -/
abbrev En := Key × Int × Int
def er (x : En) : Er := (x.1.1.1, x.1.1.2, x.2.1, x.2.2)
def datE (x : En) : DataW Unit := .agg [.lit (.int .i64 x.1.1.1), .lit (.string x.1.1.2.data.toList), .lit (.int .i64 x.2.1), .lit (.int .i64 x.2.2)]
open Classical in
noncomputable def RE (v : Value) : Option (DataW Unit × List MemPlace) := if h : ∃ x : En, v = valE (er x) then some (datE h.choose, []) else none
theorem valE_inj {x y : En} (h : valE (er x) = valE (er y)) : x = y := by
  obtain ⟨⟨⟨v, m⟩, h1⟩, p, a⟩ := x
  obtain ⟨⟨⟨v', m'⟩, h2⟩, p', a'⟩ := y
  simp [valE, er] at h
  obtain ⟨e1, e2, e3, e4⟩ := h
  subst e1; subst e2; subst e3; subst e4
  rfl
theorem RE_mk (x : En) : RE (valE (er x)) = some (datE x, []) := by
  have h : ∃ y : En, valE (er x) = valE (er y) := ⟨x, rfl⟩
  unfold RE
  rw [dif_pos h]
  rw [valE_inj h.choose_spec.symm]
noncomputable def E : Enc Key En where
  key x := x.1
  kl := kl
  val x := valE (er x)
  dat := datE
  R := RE
  out := RE_mk
  inv := by
    intro v y h
    unfold RE at h
    split at h
    · rename_i hx
      injection h with h
      exact ⟨hx.choose, hx.choose_spec, h.symm⟩
    · cases h
  inj := by
    intro x y h
    obtain ⟨⟨⟨v, m⟩, h1⟩, p, a⟩ := x
    obtain ⟨⟨⟨v', m'⟩, h2⟩, p', a'⟩ := y
    simp [datE] at h
    obtain ⟨e1, e2, e3, e4⟩ := h
    have e2' : m = m' := by
      cases m; cases m'; cases e2; rfl
    subst e1; subst e2'; subst e3; subst e4
    rfl
theorem sameE : Same E := same
end Fdb
end Go.Proofs.Ytnnpmbjicpndeaa
