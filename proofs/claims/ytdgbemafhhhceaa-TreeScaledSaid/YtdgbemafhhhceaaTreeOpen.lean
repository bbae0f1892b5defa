/-
  The cells of what comes into the tree's laws: ids and links.
-/
import Derived.Test.YtdgbemafhhhceaaOpen
import Derived.Test.YtdgbemafhhhceaaTreeEnds
namespace Go.Proofs.Ytdgbemafhhhceaa
set_option linter.unusedVariables false
set_option linter.unusedSimpArgs false
open Go.ChangeShapes Go.WideShapes Go.ChangeAt Go.RowKit Go.Deep
namespace Tree
theorem len_5 {α : Type} (l : List α) (h : l.length = 5) : ∃ c0 c1 c2 c3 c4, l = [c0, c1, c2, c3, c4] := by
  match l, h with
  | [c0, c1, c2, c3, c4], _ => exact ⟨c0, c1, c2, c3, c4, rfl⟩
section
variable {H : Type} {enc : TypeId × Value → H} {w : World} {base : Nat} {spare : Nat → Bool} {held : Bool}
theorem cells_id {fuel : Nat} {cs : List Value} {x : DataW H × List MemPlace} (h : DataW.trod enc Try.prog w base spare held fuel 44 cs = some x) : ∃ k : Int, cs = [Value.int .u64 k] ∧ (Lit.int .u64 k).wf = true := by
  obtain ⟨a, e, _, wf⟩ := DataW.trod_int Try.underlying44 h
  exact ⟨a, e, wf⟩
theorem flat_one : ∀ xs : List Int, xs.flatMap (fun b : Int => [Value.int .u64 b]) = xs.map (Value.int .u64)
  | [] => rfl
  | a :: r => by rw [List.flatMap_cons, flat_one r]; rfl
theorem open_ids {A : Option Addr} {len cap : Nat} {d : DataW H} {p : List MemPlace} (h : DataW.Trod enc Try.prog w base spare held 22 (.slice A len cap) d p) :
    ∃ xs : List Int, Reads w w.heap.size 1 A len (xs.map (Value.int .u64)) ∧ ∀ x ∈ xs, (Lit.int .u64 x).wf = true := by
  obtain ⟨xs, hx⟩ := open_chunks (fun k : {o : Int // (Lit.int .u64 o).wf = true} => [Value.int .u64 k.1]) 1 (by omega) (fun _ => rfl) Try.underlying22 (by kernel_rfl) (fun h => by
    obtain ⟨k, e, ok⟩ := cells_id h
    exact ⟨⟨k, ok⟩, e⟩) h
  refine ⟨xs.map Subtype.val, ?_, fun x hx => ?_⟩
  · rw [← flat_one, List.flatMap_map]
    exact hx
  · obtain ⟨k, _, rfl⟩ := List.mem_map.1 hx
    exact k.2
theorem cells_link {fuel : Nat} {cs : List Value} {x : DataW H × List MemPlace} (h : DataW.trod enc Try.prog w base spare held fuel 42 cs = some x) : ∃ k : Lk, cs = cellsL k := by
  obtain ⟨ys, n', _, _, hlen, hyl, hf⟩ := DataW.trod_struct Try.underlying42 h
  have hc : Try.prog.cellsOf 42 = 5 := by kernel_rfl
  have hc_int : Try.prog.cellsOf 3 = 1 := by kernel_rfl
  obtain ⟨c0, c1, c2, c3, c4, rfl⟩ := len_5 cs (hlen.trans hc)
  have hy : ys.length = 5 := hyl
  have f0 : DataW.trod enc Try.prog w base spare held n' 3 (([c0, c1, c2, c3, c4].drop 0).take (Try.prog.cellsOf 3)) = ys[0]? := hf 0 _ rfl
  rw [hc_int, List.getElem?_eq_getElem (by omega)] at f0
  simp only [List.drop_zero, List.drop_succ_cons, List.take_succ_cons, List.take_zero] at f0
  obtain ⟨a0, e0, _, w0⟩ := DataW.trod_int Try.underlying3 f0
  simp only [List.cons.injEq, and_true] at e0
  have f1 : DataW.trod enc Try.prog w base spare held n' 3 (([c0, c1, c2, c3, c4].drop 1).take (Try.prog.cellsOf 3)) = ys[1]? := hf 1 _ rfl
  rw [hc_int, List.getElem?_eq_getElem (by omega)] at f1
  simp only [List.drop_zero, List.drop_succ_cons, List.take_succ_cons, List.take_zero] at f1
  obtain ⟨a1, e1, _, w1⟩ := DataW.trod_int Try.underlying3 f1
  simp only [List.cons.injEq, and_true] at e1
  have f2 : DataW.trod enc Try.prog w base spare held n' 3 (([c0, c1, c2, c3, c4].drop 2).take (Try.prog.cellsOf 3)) = ys[2]? := hf 2 _ rfl
  rw [hc_int, List.getElem?_eq_getElem (by omega)] at f2
  simp only [List.drop_zero, List.drop_succ_cons, List.take_succ_cons, List.take_zero] at f2
  obtain ⟨a2, e2, _, w2⟩ := DataW.trod_int Try.underlying3 f2
  simp only [List.cons.injEq, and_true] at e2
  have f3 : DataW.trod enc Try.prog w base spare held n' 3 (([c0, c1, c2, c3, c4].drop 3).take (Try.prog.cellsOf 3)) = ys[3]? := hf 3 _ rfl
  rw [hc_int, List.getElem?_eq_getElem (by omega)] at f3
  simp only [List.drop_zero, List.drop_succ_cons, List.take_succ_cons, List.take_zero] at f3
  obtain ⟨a3, e3, _, w3⟩ := DataW.trod_int Try.underlying3 f3
  simp only [List.cons.injEq, and_true] at e3
  have f4 : DataW.trod enc Try.prog w base spare held n' 3 (([c0, c1, c2, c3, c4].drop 4).take (Try.prog.cellsOf 3)) = ys[4]? := hf 4 _ rfl
  rw [hc_int, List.getElem?_eq_getElem (by omega)] at f4
  simp only [List.drop_zero, List.drop_succ_cons, List.take_succ_cons, List.take_zero] at f4
  obtain ⟨a4, e4, _, w4⟩ := DataW.trod_int Try.underlying3 f4
  simp only [List.cons.injEq, and_true] at e4
  exact ⟨⟨a0, a1, a2, a3, a4⟩, by simp [cellsL, e0, e1, e2, e3, e4]⟩
theorem open_links {A : Option Addr} {len cap : Nat} {d : DataW H} {p : List MemPlace} (h : DataW.Trod enc Try.prog w base spare held 23 (.slice A len cap) d p) :
    ∃ xs : List Lk, Reads w w.heap.size 5 A len (xs.flatMap cellsL) :=
  open_chunks cellsL 5 (by omega) lenL Try.underlying23 (by kernel_rfl) cells_link h
end
end Tree
end Go.Proofs.Ytdgbemafhhhceaa
