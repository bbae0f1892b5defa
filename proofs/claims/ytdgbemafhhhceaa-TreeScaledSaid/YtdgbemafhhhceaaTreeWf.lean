/-
  A number that came in as uint64 is not less than 0.
-/
import Derived.Test.YtdgbemafhhhceaaTreeEnds
namespace Go.Proofs.Ytdgbemafhhhceaa
set_option linter.unusedVariables false
set_option linter.unusedSimpArgs false
open Go.RowKit
namespace Tree
theorem pos_wf {x : Int} (h : (Lit.int .u64 x).wf = true) : 0 ≤ x := by
  have e1 : IntKind.u64.min = 0 := by decide
  simp only [Lit.wf, e1, Bool.and_eq_true, decide_eq_true_eq] at h
  exact h.1
theorem top_wf {x : Int} (h : (Lit.int .u64 x).wf = true) : x ≤ 18446744073709551615 := by
  have e2 : IntKind.u64.max = 18446744073709551615 := by decide
  simp only [Lit.wf, e2, Bool.and_eq_true, decide_eq_true_eq] at h
  exact h.2
end Tree
end Go.Proofs.Ytdgbemafhhhceaa
