/-
  The cells of what comes into the querier's laws.
-/
import Derived.Test.YtdpppljobikjhaaDoorOpen
import Derived.Test.YtdpppljobikjhaaDoorQQuiet
namespace Go.Proofs.YtdpppljobikjhaaDoor
set_option linter.unusedVariables false
set_option linter.unusedSimpArgs false
open Go.ChangeShapes Go.WideShapes Go.ChangeAt Go.RowKit Go.Deep
namespace Q
theorem len_3 {α : Type} (l : List α) (h : l.length = 3) : ∃ c0 c1 c2, l = [c0, c1, c2] := by
  match l, h with
  | [c0, c1, c2], _ => exact ⟨c0, c1, c2, rfl⟩
section
variable {H : Type} {enc : TypeId × Value → H} {w : World} {base : Nat} {spare : Nat → Bool} {held : Bool}
theorem cells_op {fuel : Nat} {cs : List Value} {x : DataW H × List MemPlace} (h : DataW.trod enc Tryd.prog w base spare held fuel 36 cs = some x) : ∃ k : OpQ, cs = cellsO k := by
  obtain ⟨ys, n', _, _, hlen, hyl, hf⟩ := DataW.trod_struct Tryd.underlying36 h
  have hc : Tryd.prog.cellsOf 36 = 3 := by kernel_rfl
  have hc_api_Addr : Tryd.prog.cellsOf 22 = 1 := by kernel_rfl
  have hc_int : Tryd.prog.cellsOf 3 = 1 := by kernel_rfl
  obtain ⟨c0, c1, c2, rfl⟩ := len_3 cs (hlen.trans hc)
  have hy : ys.length = 3 := hyl
  have f0 : DataW.trod enc Tryd.prog w base spare held n' 3 (([c0, c1, c2].drop 0).take (Tryd.prog.cellsOf 3)) = ys[0]? := hf 0 _ rfl
  rw [hc_int, List.getElem?_eq_getElem (by omega)] at f0
  simp only [List.drop_zero, List.drop_succ_cons, List.take_succ_cons, List.take_zero] at f0
  obtain ⟨a0, e0, _⟩ := DataW.trod_int Tryd.underlying3 f0
  simp only [List.cons.injEq, and_true] at e0
  have f1 : DataW.trod enc Tryd.prog w base spare held n' 22 (([c0, c1, c2].drop 1).take (Tryd.prog.cellsOf 22)) = ys[1]? := hf 1 _ rfl
  rw [hc_api_Addr, List.getElem?_eq_getElem (by omega)] at f1
  simp only [List.drop_zero, List.drop_succ_cons, List.take_succ_cons, List.take_zero] at f1
  obtain ⟨a1, e1, _⟩ := DataW.trod_string Tryd.underlying22 f1
  simp only [List.cons.injEq, and_true] at e1
  have f2 : DataW.trod enc Tryd.prog w base spare held n' 3 (([c0, c1, c2].drop 2).take (Tryd.prog.cellsOf 3)) = ys[2]? := hf 2 _ rfl
  rw [hc_int, List.getElem?_eq_getElem (by omega)] at f2
  simp only [List.drop_zero, List.drop_succ_cons, List.take_succ_cons, List.take_zero] at f2
  obtain ⟨a2, e2, _⟩ := DataW.trod_int Tryd.underlying3 f2
  simp only [List.cons.injEq, and_true] at e2
  exact ⟨⟨a0, a1, a2⟩, by simp [cellsO, e0, e1, e2]⟩
end
end Q
end Go.Proofs.YtdpppljobikjhaaDoor
