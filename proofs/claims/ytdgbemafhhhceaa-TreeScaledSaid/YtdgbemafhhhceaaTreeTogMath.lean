/-
  What hangs together, as the document reckons it: rounds of labels; the plain function.
-/
import Derived.Test.YtdgbemafhhhceaaTreeMath
namespace Go.Proofs.Ytdgbemafhhhceaa.Tree
set_option linter.unusedVariables false
set_option linter.unusedSimpArgs false
def iota (n : Nat) : List Int := (List.range n).map fun (k : Nat) => (k : Int)
def lk0 : Lk := ⟨0, 0, 0, 0, 0⟩
def linkAt (ls : List Lk) (sm : List Int) (k : Nat) : Lk := ls.getD (sm.getD k 0).toNat lk0
def lesser (lab : List Int) (l : Lk) : Int := min (lab.getD l.a.toNat 0) (lab.getD l.b.toNat 0)
def step1 (lab : List Int) (l : Lk) : List Int := (lab.set l.a.toNat (lesser lab l)).set l.b.toNat (lesser lab l)
def sweepTo (ls : List Lk) (sm : List Int) (lab : List Int) : Nat → List Int
  | 0 => lab
  | k + 1 => step1 (sweepTo ls sm lab k) (linkAt ls sm k)
def togTo (n : Nat) (ls : List Lk) (sm : List Int) : Nat → List Int
  | 0 => iota n
  | r + 1 => sweepTo ls sm (togTo n ls sm r) sm.length
def tog (n : Nat) (ls : List Lk) (sm : List Int) : List Int := togTo n ls sm n
theorem iota_len (n : Nat) : (iota n).length = n := by simp [iota]
theorem step1_len (lab : List Int) (l : Lk) : (step1 lab l).length = lab.length := by simp [step1]
theorem sweep_len (ls : List Lk) (sm : List Int) (lab : List Int) : ∀ k, (sweepTo ls sm lab k).length = lab.length
  | 0 => rfl
  | k + 1 => by
    unfold sweepTo
    rw [step1_len, sweep_len ls sm lab k]
theorem togTo_len (n : Nat) (ls : List Lk) (sm : List Int) : ∀ r, (togTo n ls sm r).length = n
  | 0 => iota_len n
  | r + 1 => by
    unfold togTo
    rw [sweep_len, togTo_len n ls sm r]
theorem tog_len (n : Nat) (ls : List Lk) (sm : List Int) : (tog n ls sm).length = n := togTo_len n ls sm n
/-- the first k places hold their own numbers -/
def iotaZ (n k : Nat) : List Int := iota k ++ List.replicate (n - k) 0
theorem iotaZ_len {n k : Nat} (h : k ≤ n) : (iotaZ n k).length = n := by
  unfold iotaZ
  rw [List.length_append, iota_len, List.length_replicate]
  omega
theorem iotaZ_set {n k : Nat} (h : k < n) : (iotaZ n k).set k (k : Int) = iotaZ n (k + 1) := by
  unfold iotaZ
  have e : n - k = (n - (k + 1)) + 1 := by omega
  rw [List.set_append_right _ _ (by rw [iota_len]; exact Nat.le_refl _), iota_len, Nat.sub_self, e, List.replicate_succ, List.set_cons_zero]
  have e2 : iota (k + 1) = iota k ++ [(k : Int)] := by
    unfold iota
    rw [List.range_succ, List.map_append]
    rfl
  rw [e2, List.append_assoc]
  rfl
theorem iotaZ_all (n : Nat) : iotaZ n n = iota n := by
  unfold iotaZ
  simp
end Go.Proofs.Ytdgbemafhhhceaa.Tree
