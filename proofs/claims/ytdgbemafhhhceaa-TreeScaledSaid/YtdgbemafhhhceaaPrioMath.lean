/-
  The plain functions of priorities: which of two vectors is better, what one is over a way, the best of a list, the roles.
-/
namespace Go.Proofs.Ytdgbemafhhhceaa.Prio
set_option linter.unusedVariables false
set_option linter.unusedSimpArgs false
structure Vec where
  root : Int
  cost : Int
  bridge : Int
  port : Int
deriving DecidableEq
def cmpI (a b : Int) : Int := if a < b then -1 else if b < a then 1 else 0
theorem cmpI_cases (a b : Int) : (a < b ∧ cmpI a b = -1) ∨ (¬ a < b ∧ b < a ∧ cmpI a b = 1) ∨ (¬ a < b ∧ ¬ b < a ∧ cmpI a b = 0) := by
  unfold cmpI; omega
theorem cmpI_lt {a b : Int} (h : a < b) : cmpI a b = -1 := by unfold cmpI; omega
theorem cmpI_gt {a b : Int} (h : b < a) : cmpI a b = 1 := by unfold cmpI; omega
theorem cmpI_self (a : Int) : cmpI a a = 0 := by unfold cmpI; omega
def first4 (x0 x1 x2 x3 : Int) : Int := if x0 = 0 then if x1 = 0 then if x2 = 0 then x3 else x2 else x1 else x0
def cmpV (a b : Vec) : Int := first4 (cmpI a.root b.root) (cmpI a.cost b.cost) (cmpI a.bridge b.bridge) (cmpI a.port b.port)
def costTo (a b : Int) : Int := if a + b ≤ 4294967295 then a + b else 4294967295
theorem costTo_cases (a b : Int) : (a + b ≤ 4294967295 ∧ costTo a b = a + b) ∨ (¬ a + b ≤ 4294967295 ∧ costTo a b = 4294967295) := by unfold costTo; omega
def thrOk (v : Vec) (c : Int) : Bool := decide (1 ≤ c) && decide (c ≤ 200000000) && decide (0 ≤ v.cost) && decide (v.cost ≤ 4294967295)
def tv (v : Vec) (c : Int) : Vec := if thrOk v c = true then { v with cost := costTo v.cost c } else ⟨0, 0, 0, 0⟩
def te (v : Vec) (c : Int) : Int := if thrOk v c = true then 0 else 1
theorem thr_yes (v : Vec) (c : Int) (h1 : 1 ≤ c) (h2 : c ≤ 200000000) (h3 : 0 ≤ v.cost) (h4 : v.cost ≤ 4294967295) : tv v c = { v with cost := costTo v.cost c } ∧ te v c = 0 := by
  have h : thrOk v c = true := by simp [thrOk]; omega
  simp [tv, te, h]
theorem thr_no (v : Vec) (c : Int) (h : c < 1 ∨ 200000000 < c ∨ v.cost < 0 ∨ 4294967295 < v.cost) : tv v c = ⟨0, 0, 0, 0⟩ ∧ te v c = 1 := by
  have h : thrOk v c = false := by simp [thrOk]; omega
  simp [tv, te, h]
structure Heard where
  is : Bool
  v : Vec
  cost : Int
deriving DecidableEq
def own (b : Int) : Vec := ⟨b, 0, b, 0⟩
/-- is this the port that leads on? -/
def better (b : Int) (best : Vec) (h : Heard) : Bool := h.is && (h.v.bridge != b && (te h.v h.cost == 0 && decide (cmpV (tv h.v h.cost) best < 0)))
def bestTo (b : Int) (l : List Heard) : Nat → Int × Vec
  | 0 => (-1, own b)
  | k + 1 => match l[k]? with
    | some h => if better b (bestTo b l k).2 h = true then ((k : Int), tv h.v h.cost) else bestTo b l k
    | none => bestTo b l k
theorem bestTo_yes {b : Int} {l : List Heard} {k : Nat} {h : Heard} (hk : l[k]? = some h) (hb : better b (bestTo b l k).2 h = true) : bestTo b l (k + 1) = ((k : Int), tv h.v h.cost) := by
  simp [bestTo, hk, hb]
theorem bestTo_no {b : Int} {l : List Heard} {k : Nat} {h : Heard} (hk : l[k]? = some h) (hb : better b (bestTo b l k).2 h = false) : bestTo b l (k + 1) = bestTo b l k := by
  simp [bestTo, hk, hb]
def bestOf (b : Int) (l : List Heard) : Int × Vec := bestTo b l l.length
/-- the order, part by part -/
theorem cmpV_cases (a b : Vec) :
    (a.root < b.root ∧ cmpV a b = -1) ∨ (b.root < a.root ∧ cmpV a b = 1) ∨
    (a.root = b.root ∧ a.cost < b.cost ∧ cmpV a b = -1) ∨ (a.root = b.root ∧ b.cost < a.cost ∧ cmpV a b = 1) ∨
    (a.root = b.root ∧ a.cost = b.cost ∧ a.bridge < b.bridge ∧ cmpV a b = -1) ∨ (a.root = b.root ∧ a.cost = b.cost ∧ b.bridge < a.bridge ∧ cmpV a b = 1) ∨
    (a.root = b.root ∧ a.cost = b.cost ∧ a.bridge = b.bridge ∧ a.port < b.port ∧ cmpV a b = -1) ∨ (a.root = b.root ∧ a.cost = b.cost ∧ a.bridge = b.bridge ∧ b.port < a.port ∧ cmpV a b = 1) ∨
    (a.root = b.root ∧ a.cost = b.cost ∧ a.bridge = b.bridge ∧ a.port = b.port ∧ cmpV a b = 0) := by
  rcases Int.lt_trichotomy a.root b.root with h | h | h
  · exact .inl ⟨h, by simp [cmpV, first4, cmpI_lt h]⟩
  · refine .inr (.inr ?_)
    have e0 : cmpI a.root b.root = 0 := by rw [h]; exact cmpI_self _
    rcases Int.lt_trichotomy a.cost b.cost with k | k | k
    · exact .inl ⟨h, k, by simp [cmpV, first4, e0, cmpI_lt k]⟩
    · refine .inr (.inr ?_)
      have e1 : cmpI a.cost b.cost = 0 := by rw [k]; exact cmpI_self _
      rcases Int.lt_trichotomy a.bridge b.bridge with m | m | m
      · exact .inl ⟨h, k, m, by simp [cmpV, first4, e0, e1, cmpI_lt m]⟩
      · refine .inr (.inr ?_)
        have e2 : cmpI a.bridge b.bridge = 0 := by rw [m]; exact cmpI_self _
        rcases Int.lt_trichotomy a.port b.port with q | q | q
        · exact .inl ⟨h, k, m, q, by simp [cmpV, first4, e0, e1, e2, cmpI_lt q]⟩
        · exact .inr (.inr ⟨h, k, m, q, by simp [cmpV, first4, e0, e1, e2, q, cmpI_self]⟩)
        · exact .inr (.inl ⟨h, k, m, q, by simp [cmpV, first4, e0, e1, e2, cmpI_gt q]⟩)
      · exact .inr (.inl ⟨h, k, m, by simp [cmpV, first4, e0, e1, cmpI_gt m]⟩)
    · exact .inr (.inl ⟨h, k, by simp [cmpV, first4, e0, cmpI_gt k]⟩)
  · exact .inr (.inl ⟨h, by simp [cmpV, first4, cmpI_gt h]⟩)
def roleAt (b : Int) (st : Int × Vec) (i : Nat) (h : Heard) : Int := if (i : Int) = st.1 then 1 else if h.is = false ∨ cmpV ⟨st.2.root, st.2.cost, b, i⟩ h.v ≤ 0 then 2 else 3
def rolesTo (b : Int) (st : Int × Vec) (l : List Heard) : Nat → List Int
  | 0 => []
  | k + 1 => match l[k]? with
    | some h => rolesTo b st l k ++ [roleAt b st k h]
    | none => rolesTo b st l k
theorem rolesTo_step {b : Int} {st : Int × Vec} {l : List Heard} {k : Nat} {h : Heard} {r : Int} (hk : l[k]? = some h) (hr : roleAt b st k h = r) : rolesTo b st l (k + 1) = rolesTo b st l k ++ [r] := by
  simp [rolesTo, hk, hr]
def rolesOf (b : Int) (l : List Heard) : List Int := rolesTo b (bestOf b l) l l.length
theorem rolesTo_length (b : Int) (st : Int × Vec) (l : List Heard) : ∀ k, k ≤ l.length → (rolesTo b st l k).length = k
  | 0, _ => rfl
  | k + 1, h => by
    have hk : l[k]? = some l[k] := List.getElem?_eq_getElem (by omega)
    rw [rolesTo_step hk rfl, List.length_append, rolesTo_length b st l k (by omega)]
    rfl
theorem rolesTo_get (b : Int) (st : Int × Vec) (l : List Heard) (i : Nat) (h : Heard) (hi : l[i]? = some h) : ∀ k, i < k → k ≤ l.length → (rolesTo b st l k)[i]? = some (roleAt b st i h)
  | 0, h0, _ => by omega
  | k + 1, h1, hl => by
    have hk : l[k]? = some l[k] := List.getElem?_eq_getElem (by omega)
    rw [rolesTo_step hk rfl]
    by_cases hik : i < k
    · rw [List.getElem?_append_left (by rw [rolesTo_length b st l k (by omega)]; omega)]
      exact rolesTo_get b st l i h hi k hik (by omega)
    · have : i = k := by omega
      subst this
      rw [List.getElem?_append_right (by rw [rolesTo_length b st l i (by omega)]; omega), rolesTo_length b st l i (by omega)]
      rw [hk] at hi
      injection hi with hi
      simp [hi]
def low (b : Int) (st : Int × Vec) (i : Nat) (h : Heard) : Bool := decide (h.is = false ∨ cmpV ⟨st.2.root, st.2.cost, b, i⟩ h.v ≤ 0)
theorem low_no {b : Int} {st : Int × Vec} {i : Nat} {h : Heard} (hi : h.is = false) : low b st i h = true := by simp [low, hi]
theorem low_yes {b : Int} {st : Int × Vec} {i : Nat} {h : Heard} (hi : h.is = true) : low b st i h = decide (cmpV ⟨st.2.root, st.2.cost, b, i⟩ h.v ≤ 0) := by simp [low, hi]
theorem roleAt_1 {b : Int} {st : Int × Vec} {i : Nat} {h : Heard} (hp : (i : Int) = st.1) : roleAt b st i h = 1 := by simp [roleAt, hp]
theorem roleAt_2 {b : Int} {st : Int × Vec} {i : Nat} {h : Heard} (hp : ¬ (i : Int) = st.1) (hl : low b st i h = true) : roleAt b st i h = 2 := by
  simp only [low, decide_eq_true_eq] at hl
  simp [roleAt, hp, hl]
theorem roleAt_3 {b : Int} {st : Int × Vec} {i : Nat} {h : Heard} (hp : ¬ (i : Int) = st.1) (hl : low b st i h = false) : roleAt b st i h = 3 := by
  simp only [low, decide_eq_false_iff_not] at hl
  simp [roleAt, hp, hl]
end Go.Proofs.Ytdgbemafhhhceaa.Prio
