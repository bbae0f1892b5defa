/-
  Plain laws of fdb's entries: the order by key, the oldest entry, what is learnt, what is found.
-/
import Derived.Test.YtnnpmbjicpndeaaFdbEnt
namespace Go.Proofs.Ytnnpmbjicpndeaa
set_option linter.unusedVariables false
set_option linter.unusedSimpArgs false
open Go.RowKit Go.Maps
namespace Fdb
open Mp FdbC
def ltK (x y : En) : Prop := cmpK (er x) (er y) < 0
instance (x y : En) : Decidable (ltK x y) := by unfold ltK; infer_instance
def Sorted (L : List En) : Prop := L.Pairwise ltK
theorem ltK_iff (x y : En) : ltK x y ↔ x.1.1.1 < y.1.1.1 ∨ (x.1.1.1 = y.1.1.1 ∧ Op.bytesLess x.1.1.2.toList y.1.1.2.toList = true) := cmpK_neg (er x) (er y)
theorem ltK_irrefl (x : En) : ¬ ltK x x := by
  rw [ltK_iff, bl_irrefl]
  simp
theorem ltK_trans {x y z : En} (h1 : ltK x y) (h2 : ltK y z) : ltK x z := by
  rw [ltK_iff] at *
  rcases h1 with h1 | ⟨h1, b1⟩
  · rcases h2 with h2 | ⟨h2, b2⟩
    · left; omega
    · left; omega
  · rcases h2 with h2 | ⟨h2, b2⟩
    · left; omega
    · right; exact ⟨by omega, bl_trans b1 b2⟩
theorem ltK_congr {x y x' y' : En} (h1 : x.1 = x'.1) (h2 : y.1 = y'.1) : ltK x y ↔ ltK x' y' := by rw [ltK_iff, ltK_iff, h1, h2]
theorem ltK_ne {x y : En} (h : ltK x y) : x.1 ≠ y.1 := fun e => ltK_irrefl y ((ltK_congr e rfl).1 h)
theorem toList_inj {a b : ByteArray} (h : a.toList = b.toList) : a = b := by
  rw [ByteArray.toList_eq, ByteArray.toList_eq] at h
  have := Array.toList_inj.1 h
  cases a; cases b; cases this; rfl
theorem ltK_tri {x y : En} (h : x.1 ≠ y.1) : ltK x y ∨ ltK y x := by
  rw [ltK_iff, ltK_iff]
  rcases Int.lt_trichotomy x.1.1.1 y.1.1.1 with h1 | h1 | h1
  · left; left; exact h1
  · by_cases h2 : x.1.1.2.toList = y.1.1.2.toList
    · exact absurd (Subtype.ext (Prod.ext h1 (toList_inj h2))) h
    · rcases bl_total h2 with h3 | h3
      · left; right; exact ⟨h1, h3⟩
      · right; right; exact ⟨h1.symm, h3⟩
  · right; left; exact h1
theorem Sorted.apart {L : List En} (h : Sorted L) : Apart E L := h.imp ltK_ne
theorem sorted_of {ts l : List En} (hd : Apart E ts) (h : EntriesIs ts l) : Sorted l := by
  have hl : Apart E l := (h.1.pairwise_iff (fun {x y} (h : E.key x ≠ E.key y) => Ne.symm h)).2 hd
  refine (List.Pairwise.and hl h.2).imp ?_
  rintro x y ⟨h1, h2⟩
  rcases ltK_tri (x := x) (y := y) h1 with h3 | h3
  · exact h3
  · exact absurd h3 h2
theorem sorted_eq {L l : List En} (h1 : Sorted L) (h2 : Sorted l) (hp : l.Perm L) : l = L := by
  have e := List.Perm.eq_of_pairwise (le := fun x y => ltK x y) (fun x y _ _ h h' => absurd (ltK_trans h h') (ltK_irrefl x)) h2 h1 hp
  exact e
theorem entries_eq {L ts l : List En} (h1 : Sorted L) (hp : ts.Perm L) (h : EntriesIs ts l) : l = L := by
  have hd : Apart E ts := (hp.pairwise_iff (fun {x y} (h : E.key x ≠ E.key y) => Ne.symm h)).2 h1.apart
  exact sorted_eq h1 (sorted_of hd h) (h.1.trans hp)
theorem cmpA_neg (x y : En) : cmpA (er x) (er y) < 0 ↔ x.2.2 < y.2.2 ∨ (x.2.2 = y.2.2 ∧ ltK x y) := by
  unfold cmpA ltK
  rw [or2_neg, cmpI_neg, cmpI_zero]
  rfl
/-- the entry that is driven out -/
def OldIs (ts : List En) (e : En) : Prop := e ∈ ts ∧ ∀ y ∈ ts, ¬ cmpA (er y) (er e) < 0
theorem old_one {ts : List En} (hd : Apart E ts) {e e' : En} (h : OldIs ts e) (h' : OldIs ts e') : e = e' := by
  have a := h.2 _ h'.1
  have b := h'.2 _ h.1
  rw [cmpA_neg] at a b
  by_cases hk : e.1 = e'.1
  · exact only_key ts hd h.1 h'.1 hk
  · rcases ltK_tri hk with h3 | h3
    · have : ¬ e.2.2 < e'.2.2 := fun h => b (Or.inl h)
      have : ¬ e'.2.2 < e.2.2 := fun h => a (Or.inl h)
      exact absurd (Or.inr ⟨by omega, h3⟩) b
    · have : ¬ e.2.2 < e'.2.2 := fun h => b (Or.inl h)
      have : ¬ e'.2.2 < e.2.2 := fun h => a (Or.inl h)
      exact absurd (Or.inr ⟨by omega, h3⟩) a
theorem OldIs.perm {ts l : List En} {e : En} (h : OldIs l e) (hp : l.Perm ts) : OldIs ts e := ⟨hp.mem_iff.1 h.1, fun y hy => h.2 y (hp.mem_iff.2 hy)⟩
theorem cmpA_trans {x y z : En} (h1 : cmpA (er x) (er y) < 0) (h2 : cmpA (er y) (er z) < 0) : cmpA (er x) (er z) < 0 := by
  rw [cmpA_neg] at *
  rcases h1 with h1 | ⟨h1, b1⟩
  · rcases h2 with h2 | ⟨h2, b2⟩
    · left; omega
    · left; omega
  · rcases h2 with h2 | ⟨h2, b2⟩
    · left; omega
    · right; exact ⟨by omega, ltK_trans b1 b2⟩
theorem min_at {l : List En} {x0 : En} (h0 : l[0]? = some x0) : ∀ k, 1 ≤ k → k ≤ l.length → ∃ e ∈ l.take k, er e = minTo (er x0) (l.map er) k ∧ ∀ y ∈ l.take k, ¬ cmpA (er y) (er e) < 0
  | 0, h, _ => absurd h (by omega)
  | 1, _, _ => by
    have e1 : l.take 1 = [x0] := by
      cases l with
      | nil => cases h0
      | cons a r => simp at h0; subst h0; rfl
    refine ⟨x0, by rw [e1]; simp, (minTo_one (by rw [List.getElem?_map, h0]; rfl)).symm, ?_⟩
    rw [e1]
    intro y hy
    simp at hy
    subst hy
    rw [cmpA_self]; omega
  | k + 2, _, hk => by
    obtain ⟨e, he, hm, hle⟩ := min_at h0 (k + 1) (by omega) (by omega)
    obtain ⟨x, hx⟩ : ∃ x, l[k + 1]? = some x := ⟨_, List.getElem?_eq_getElem (by omega)⟩
    have hs := minTo_succ (er x0) (l.map er) (k := k + 1) (x := er x) (by rw [List.getElem?_map, hx]; rfl)
    rw [← hm] at hs
    have e1 : l.take (k + 2) = l.take (k + 1) ++ [x] := by rw [List.take_add_one, hx]; rfl
    unfold stepE at hs
    by_cases hc : cmpA (er x) (er e) < 0
    · rw [if_pos hc] at hs
      refine ⟨x, by rw [e1]; simp, hs.symm, ?_⟩
      rw [e1]
      intro y hy hy2
      rcases List.mem_append.1 hy with hy | hy
      · exact hle y hy (cmpA_trans hy2 hc)
      · simp at hy; subst hy; rw [cmpA_self] at hy2; omega
    · rw [if_neg hc] at hs
      refine ⟨e, by rw [e1]; simp [he], hs.symm, ?_⟩
      rw [e1]
      intro y hy
      rcases List.mem_append.1 hy with hy | hy
      · exact hle y hy
      · simp at hy; subst hy; exact hc
theorem min_old {l : List En} {x0 : En} (h0 : l[0]? = some x0) : ∃ e, er e = minTo (er x0) (l.map er) l.length ∧ OldIs l e := by
  have hl := (List.getElem?_eq_some_iff.1 h0).1
  obtain ⟨e, he, hm, hle⟩ := min_at h0 l.length (by omega) (Nat.le_refl _)
  rw [List.take_length] at he hle
  exact ⟨e, hm, he, hle⟩
theorem keyE (x : En) : E.key x = x.1 := rfl
theorem keyIsE (k : Key) (x : En) : keyIs E k x = true ↔ x.1 = k := by unfold keyIs; rw [decide_eq_true_iff, keyE]
noncomputable def hasK (ts : List En) (k : Key) : Bool := ts.any (keyIs E k)
noncomputable def strike (ts : List En) (k : Key) : List En := ts.filter fun y => !keyIs E k y
noncomputable def put (ts : List En) (x : En) : List En := strike ts x.1 ++ [x]
/-- what is known behind a learning -/
def Learnt (room : Int) (ts : List En) (x : En) (ts' : List En) : Prop :=
  (hasK ts x.1 = true ∨ (ts.length : Int) < room) ∧ ts' = put ts x ∨
  (hasK ts x.1 = false ∧ room ≤ ts.length) ∧ ∃ e, OldIs ts e ∧ ts' = put (strike ts e.1) x
theorem Learnt.one {room : Int} {ts : List En} (hd : Apart E ts) {x : En} {a b : List En} (h1 : Learnt room ts x a) (h2 : Learnt room ts x b) : a = b := by
  rcases h1 with ⟨h1, rfl⟩ | ⟨h1, e, he, rfl⟩
  · rcases h2 with ⟨h2, rfl⟩ | ⟨h2, e', he', rfl⟩
    · rfl
    · rcases h1 with h1 | h1
      · rw [h2.1] at h1; cases h1
      · omega
  · rcases h2 with ⟨h2, rfl⟩ | ⟨h2, e', he', rfl⟩
    · rcases h2 with h2 | h2
      · rw [h1.1] at h2; cases h2
      · omega
    · rw [old_one hd he he']
theorem strike_no {ts : List En} {k : Key} (h : hasK ts k = false) : strike ts k = ts := by
  refine List.filter_eq_self.2 fun y hy => ?_
  have := (List.any_eq_false.1 h) y hy
  simpa using this
theorem strike_apart {ts : List En} (hd : Apart E ts) (k : Key) : Apart E (strike ts k) := hd.filter _
theorem put_apart {ts : List En} (hd : Apart E ts) (x : En) : Apart E (put ts x) := by
  unfold put Apart
  rw [List.pairwise_append]
  refine ⟨strike_apart hd _, List.pairwise_singleton _ _, fun a ha b hb => ?_⟩
  simp at hb
  subst hb
  have := (List.mem_filter.1 ha).2
  intro e
  rw [(keyIsE b.1 a).2 e] at this
  cases this
theorem Learnt.apart {room : Int} {ts ts' : List En} (hd : Apart E ts) {x : En} (h : Learnt room ts x ts') : Apart E ts' := by
  rcases h with ⟨_, rfl⟩ | ⟨_, e, _, rfl⟩
  · exact put_apart hd x
  · exact put_apart (strike_apart hd _) x
theorem strike_len {ts : List En} (hd : Apart E ts) {e : En} (he : e ∈ ts) : (strike ts e.1).length + 1 = ts.length := by
  obtain ⟨s, t, rfl⟩ := List.append_of_mem he
  have hd2 := hd
  unfold Apart at hd2
  rw [List.pairwise_append] at hd2
  obtain ⟨p1, p2, p3⟩ := hd2
  rw [List.pairwise_cons] at p2
  have q1 : strike s e.1 = s := List.filter_eq_self.2 fun y hy => by
    have := p3 y hy e (by simp)
    simp only [keyE] at this; simp [keyIs, keyE, this]
  have q2 : strike t e.1 = t := List.filter_eq_self.2 fun y hy => by
    have := p2.1 y hy
    simp only [keyE] at this; simp [keyIs, keyE, Ne.symm this]
  have e1 : strike (s ++ e :: t) e.1 = strike s e.1 ++ strike t e.1 := by
    unfold strike
    rw [List.filter_append, List.filter_cons]
    simp [keyIs, keyE]
  rw [e1, q1, q2]
  simp
  omega
theorem put_len {ts : List En} (hd : Apart E ts) (x : En) : (put ts x).length = if hasK ts x.1 then ts.length else ts.length + 1 := by
  unfold put
  rw [List.length_append, List.length_singleton]
  cases h : hasK ts x.1 with
  | false => rw [strike_no h]; rfl
  | true =>
    obtain ⟨e, he, hk⟩ := List.any_eq_true.1 h
    have hk' : e.1 = x.1 := (keyIsE _ _).1 hk
    rw [← hk', strike_len hd he]
    rfl
theorem Learnt.len {room : Int} {ts ts' : List En} (hd : Apart E ts) {x : En} (h : Learnt room ts x ts') (hr : (ts.length : Int) ≤ room) : (ts'.length : Int) ≤ room ∧ 1 ≤ ts'.length ∧ ts'.length ≤ ts.length + 1 := by
  rcases h with ⟨h1, rfl⟩ | ⟨h1, e, he, rfl⟩
  · have hl := put_len hd x
    have h2 : 1 ≤ (put ts x).length := by unfold put; simp
    rw [hl] at h2 ⊢
    cases hk : hasK ts x.1 with
    | false =>
      rw [hk] at h1 h2
      simp at h1 h2 ⊢
      omega
    | true => rw [hk] at h2; simp at h2 ⊢; omega
  · have h2 : 1 ≤ (put (strike ts e.1) x).length := by unfold put; simp
    have hl := put_len (strike_apart hd e.1) x
    have hs := strike_len hd he.1
    rw [hl] at h2 ⊢
    generalize strike ts e.1 = s1 at *
    generalize put s1 x = s2 at *
    cases hk : hasK s1 x.1 <;> rw [hk] at h2 <;> simp at h2 ⊢ <;> omega
theorem Learnt.mem {room : Int} {ts ts' : List En} {x y : En} (h : Learnt room ts x ts') (hy : y ∈ ts') : y = x ∨ y ∈ ts := by
  rcases h with ⟨_, rfl⟩ | ⟨_, e, _, rfl⟩
  · rcases List.mem_append.1 hy with hy | hy
    · exact Or.inr (List.mem_filter.1 hy).1
    · simp at hy; exact Or.inl hy
  · rcases List.mem_append.1 hy with hy | hy
    · exact Or.inr (List.mem_filter.1 (List.mem_filter.1 hy).1).1
    · simp at hy; exact Or.inl hy
theorem Learnt.has {room : Int} {ts ts' : List En} {x : En} (h : Learnt room ts x ts') : x ∈ ts' := by
  rcases h with ⟨_, rfl⟩ | ⟨_, e, _, rfl⟩ <;> simp [put]
/-- what a table says of a key -/
noncomputable def found (age : Int) (ts : List En) (k : Key) (now : Int) : Option Int :=
  if 0 ≤ now ∧ now ≤ 1099511627776 then (ts.find? (keyIs E k)).bind fun x => if now < x.2.2 + age then some x.2.1 else none else none
def tell : Option Int → Value
  | some p => .tuple #[.int .i64 p, .bool true]
  | none => .tuple #[.int .i64 0, .bool false]
theorem find_has {ts : List En} (hd : Apart E ts) {x : En} (hx : x ∈ ts) : ts.find? (keyIs E x.1) = some x := by
  cases hf : ts.find? (keyIs E x.1) with
  | none => exact absurd (List.find?_eq_none.1 hf x hx) (by simp [keyIs, keyE])
  | some y =>
    have h1 := List.mem_of_find?_eq_some hf
    have h2 : keyIs E x.1 y = true := List.find?_some (p := keyIs E x.1) hf
    rw [only_key ts hd h1 hx ((keyIsE _ _).1 h2)]
theorem find_none {ts : List En} {k : Key} (h : hasK ts k = false) : ts.find? (keyIs E k) = none := by
  rw [List.find?_eq_none]
  intro y hy
  have := (List.any_eq_false.1 h) y hy
  simpa using this
theorem find_perm {ts l : List En} (hd : Apart E ts) (hp : l.Perm ts) (k : Key) : l.find? (keyIs E k) = ts.find? (keyIs E k) := by
  have hl : Apart E l := (hp.pairwise_iff (fun {x y} (h : E.key x ≠ E.key y) => Ne.symm h)).2 hd
  cases h : hasK ts k with
  | false =>
    have h' : hasK l k = false := by
      rw [hasK, List.any_eq_false] at h ⊢
      exact fun y hy => h y (hp.mem_iff.1 hy)
    rw [find_none h, find_none h']
  | true =>
    obtain ⟨e, he, hk⟩ := List.any_eq_true.1 h
    have hk' : e.1 = k := (keyIsE _ _).1 hk
    subst hk'
    rw [find_has hd he, find_has hl (hp.mem_iff.2 he)]
theorem found_perm {age : Int} {ts l : List En} (hd : Apart E ts) (hp : l.Perm ts) (k : Key) (now : Int) : found age l k now = found age ts k now := by
  unfold found
  rw [find_perm hd hp]
/-- what a station and its port and time have to be -/
def Good (v : Int) (m : ByteArray) (port now : Int) : Prop := m.size = 6 ∧ (1 ≤ v ∧ v ≤ 4094) ∧ (0 ≤ port ∧ port ≤ 15) ∧ 0 ≤ now ∧ now ≤ 1099511627776
theorem Good.key {v : Int} {m : ByteArray} {port now : Int} (h : Good v m port now) : okK (v, m) := by
  refine ⟨?_, ?_⟩
  · have h1 := h.2.1
    have e1 : IntKind.i64.min = -9223372036854775808 := by decide
    have e2 : IntKind.i64.max = 9223372036854775807 := by decide
    simp only [Lit.wf, e1, e2, Bool.and_eq_true, decide_eq_true_eq]
    omega
  · have h1 : m.size = 6 := h.1
    show m.size ≤ maxLen
    rw [h1]
    decide
def GoodE (x : En) : Prop := (1 ≤ x.1.1.1 ∧ x.1.1.1 ≤ 4094) ∧ x.1.1.2.size = 6 ∧ (0 ≤ x.2.1 ∧ x.2.1 ≤ 15) ∧ 0 ≤ x.2.2 ∧ x.2.2 ≤ 1099511627776
theorem At.perm {w : World} {g b : Nat} {room age : Int} {ts l : List En} (h : At w g b room age ts) (hp : l.Perm ts) : At w g b room age l := by
  obtain ⟨h1, ⟨es, he, hpe⟩, h3⟩ := h
  refine ⟨h1, ⟨es, ?_, hpe.trans (hp.symm.map _)⟩, h3⟩
  rw [hp.length_eq]
  exact he
end Fdb
end Go.Proofs.Ytnnpmbjicpndeaa
