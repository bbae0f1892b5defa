/-
  The cells of what comes into the wheel's laws: a list of times, a list of calls.
-/
import Derived.Test.YtifhjbboddfbcaaOpen
import Derived.Test.YtifhjbboddfbcaaWhlAS
namespace Go.Proofs.Ytifhjbboddfbcaa
set_option linter.unusedVariables false
set_option linter.unusedSimpArgs false
open Go.ChangeShapes Go.WideShapes Go.ChangeAt Go.RowKit Go.Deep
namespace WhlL
structure OpW where
  kind : Int
  key : ByteArray
  at_ : Int
def cellsOp (o : OpW) : List Value := [.int .i64 o.kind, .string o.key, .int .i64 o.at_]
structure OkOp (o : OpW) : Prop where
  key : o.key.size ≤ maxLen
theorem len_3 {α : Type} (l : List α) (h : l.length = 3) : ∃ c0 c1 c2, l = [c0, c1, c2] := by
  match l, h with
  | [c0, c1, c2], _ => exact ⟨c0, c1, c2, rfl⟩
section
variable {H : Type} {enc : TypeId × Value → H} {w : World} {base : Nat} {spare : Nat → Bool} {held : Bool}
theorem cells_op {fuel : Nat} {cs : List Value} {x : DataW H × List MemPlace} (h : DataW.trod enc Try.prog w base spare held fuel 48 cs = some x) : ∃ k : OpW, cs = cellsOp k ∧ OkOp k := by
  obtain ⟨ys, n', _, _, hlen, hyl, hf⟩ := DataW.trod_struct Try.underlying48 h
  have hc : Try.prog.cellsOf 48 = 3 := by kernel_rfl
  have hc_int : Try.prog.cellsOf 3 = 1 := by kernel_rfl
  have hc_string : Try.prog.cellsOf 9 = 1 := by kernel_rfl
  obtain ⟨c0, c1, c2, rfl⟩ := len_3 cs (hlen.trans hc)
  have hy : ys.length = 3 := hyl
  have f0 : DataW.trod enc Try.prog w base spare held n' 3 (([c0, c1, c2].drop 0).take (Try.prog.cellsOf 3)) = ys[0]? := hf 0 _ rfl
  rw [hc_int, List.getElem?_eq_getElem (by omega)] at f0
  simp only [List.drop_zero, List.drop_succ_cons, List.take_succ_cons, List.take_zero] at f0
  obtain ⟨a0, e0, _, w0⟩ := DataW.trod_int Try.underlying3 f0
  simp only [List.cons.injEq, and_true] at e0
  have f1 : DataW.trod enc Try.prog w base spare held n' 9 (([c0, c1, c2].drop 1).take (Try.prog.cellsOf 9)) = ys[1]? := hf 1 _ rfl
  rw [hc_string, List.getElem?_eq_getElem (by omega)] at f1
  simp only [List.drop_zero, List.drop_succ_cons, List.take_succ_cons, List.take_zero] at f1
  obtain ⟨a1, e1, _, s1⟩ := DataW.trod_string Try.underlying9 f1
  simp only [List.cons.injEq, and_true] at e1
  have f2 : DataW.trod enc Try.prog w base spare held n' 3 (([c0, c1, c2].drop 2).take (Try.prog.cellsOf 3)) = ys[2]? := hf 2 _ rfl
  rw [hc_int, List.getElem?_eq_getElem (by omega)] at f2
  simp only [List.drop_zero, List.drop_succ_cons, List.take_succ_cons, List.take_zero] at f2
  obtain ⟨a2, e2, _, w2⟩ := DataW.trod_int Try.underlying3 f2
  simp only [List.cons.injEq, and_true] at e2
  exact ⟨⟨a0, a1, a2⟩, by simp [cellsOp, e0, e1, e2], ⟨s1⟩⟩
theorem open_ops {A : Option Addr} {len cap : Nat} {d : DataW H} {p : List MemPlace} (h : DataW.Trod enc Try.prog w base spare held 38 (.slice A len cap) d p) :
    ∃ xs : List OpW, Reads w w.heap.size 3 A len (xs.flatMap cellsOp) ∧ ∀ x ∈ xs, OkOp x := by
  obtain ⟨xs, hx⟩ := open_chunks (fun k : {o : OpW // OkOp o} => cellsOp k.1) 3 (by omega) (fun _ => rfl) Try.underlying38 (by kernel_rfl) (fun h => by
    obtain ⟨k, e, ok⟩ := cells_op h
    exact ⟨⟨k, ok⟩, e⟩) h
  refine ⟨xs.map Subtype.val, ?_, fun x hx => ?_⟩
  · rw [List.flatMap_map]
    exact hx
  · obtain ⟨k, _, rfl⟩ := List.mem_map.1 hx
    exact k.2
theorem cells_int {fuel : Nat} {cs : List Value} {x : DataW H × List MemPlace} (h : DataW.trod enc Try.prog w base spare held fuel 3 cs = some x) : ∃ n : Int, cs = [Value.int .i64 n] := by
  obtain ⟨n, e, _⟩ := DataW.trod_int Try.underlying3 h
  exact ⟨n, e⟩
theorem open_is {A : Option Addr} {len cap : Nat} {d : DataW H} {p : List MemPlace} (h : DataW.Trod enc Try.prog w base spare held 22 (.slice A len cap) d p) :
    ∃ xs : List Int, Reads w w.heap.size 1 A len (xs.map (Value.int .i64)) := by
  obtain ⟨xs, hx⟩ := open_chunks (fun n : Int => [Value.int .i64 n]) 1 (by omega) (fun _ => rfl) Try.underlying22 (by kernel_rfl) cells_int h
  exact ⟨xs, by rw [List.map_eq_flatMap]; exact hx⟩
end
end WhlL
end Go.Proofs.Ytifhjbboddfbcaa
