/-
  The cells of what comes into the laws of rstp: a call, a vector.
-/
import Derived.Test.YtlfoaefilonidaaOpen
import Derived.Test.YtlfoaefilonidaaRstpNil
namespace Go.Proofs.Ytlfoaefilonidaa
set_option linter.unusedVariables false
set_option linter.unusedSimpArgs false
open Go.ChangeShapes Go.WideShapes Go.ChangeAt Go.RowKit Go.Deep
namespace Rstp
open Go.Proofs.Ytlfoaefilonidaa.Prio
def cellsVec (v : Vec) : List Value := [.int .u64 v.root, .int .i64 v.cost, .int .u64 v.bridge, .int .i64 v.port]
structure OkOp (o : OpR) : Prop where
  a0 : -9223372036854775808 ≤ o.b.age
  a1 : o.b.age ≤ 9223372036854775807
structure OkBp (b : Bp) : Prop where
  a0 : -9223372036854775808 ≤ b.age
  a1 : b.age ≤ 9223372036854775807
theorem i64_wf {n : Int} (h : (Lit.int .i64 n).wf = true) : -9223372036854775808 ≤ n ∧ n ≤ 9223372036854775807 := by
  simpa [Lit.wf, IntKind.min, IntKind.max, IntKind.signed, IntKind.bits] using h
theorem len_4 {α : Type} (l : List α) (h : l.length = 4) : ∃ c0 c1 c2 c3, l = [c0, c1, c2, c3] := by
  match l, h with
  | [c0, c1, c2, c3], _ => exact ⟨c0, c1, c2, c3, rfl⟩
theorem len_8 {α : Type} (l : List α) (h : l.length = 8) : ∃ c0 c1 c2 c3 c4 c5 c6 c7, l = [c0, c1, c2, c3, c4, c5, c6, c7] := by
  match l, h with
  | [c0, c1, c2, c3, c4, c5, c6, c7], _ => exact ⟨c0, c1, c2, c3, c4, c5, c6, c7, rfl⟩
theorem len_12 {α : Type} (l : List α) (h : l.length = 12) : ∃ c0 c1 c2 c3 c4 c5 c6 c7 c8 c9 c10 c11, l = [c0, c1, c2, c3, c4, c5, c6, c7, c8, c9, c10, c11] := by
  match l, h with
  | [c0, c1, c2, c3, c4, c5, c6, c7, c8, c9, c10, c11], _ => exact ⟨c0, c1, c2, c3, c4, c5, c6, c7, c8, c9, c10, c11, rfl⟩
section
variable {H : Type} {enc : TypeId × Value → H} {w : World} {base : Nat} {spare : Nat → Bool} {held : Bool}
theorem cells_vec {fuel : Nat} {cs : List Value} {x : DataW H × List MemPlace} (h : DataW.trod enc Try.prog w base spare held fuel 33 cs = some x) : ∃ k : Vec, cs = cellsVec k := by
  obtain ⟨ys, n', _, _, hlen, hyl, hf⟩ := DataW.trod_struct Try.underlying33 h
  have hc : Try.prog.cellsOf 33 = 4 := by kernel_rfl
  have hc_int : Try.prog.cellsOf 3 = 1 := by kernel_rfl
  have hc_uint64 : Try.prog.cellsOf 22 = 1 := by kernel_rfl
  obtain ⟨c0, c1, c2, c3, rfl⟩ := len_4 cs (hlen.trans hc)
  have hy : ys.length = 4 := hyl
  have f0 : DataW.trod enc Try.prog w base spare held n' 22 (([c0, c1, c2, c3].drop 0).take (Try.prog.cellsOf 22)) = ys[0]? := hf 0 _ rfl
  rw [hc_uint64, List.getElem?_eq_getElem (by omega)] at f0
  simp only [List.drop_zero, List.drop_succ_cons, List.take_succ_cons, List.take_zero] at f0
  obtain ⟨a0, e0, _, w0⟩ := DataW.trod_int Try.underlying22 f0
  simp only [List.cons.injEq, and_true] at e0
  have f1 : DataW.trod enc Try.prog w base spare held n' 3 (([c0, c1, c2, c3].drop 1).take (Try.prog.cellsOf 3)) = ys[1]? := hf 1 _ rfl
  rw [hc_int, List.getElem?_eq_getElem (by omega)] at f1
  simp only [List.drop_zero, List.drop_succ_cons, List.take_succ_cons, List.take_zero] at f1
  obtain ⟨a1, e1, _, w1⟩ := DataW.trod_int Try.underlying3 f1
  simp only [List.cons.injEq, and_true] at e1
  have f2 : DataW.trod enc Try.prog w base spare held n' 22 (([c0, c1, c2, c3].drop 2).take (Try.prog.cellsOf 22)) = ys[2]? := hf 2 _ rfl
  rw [hc_uint64, List.getElem?_eq_getElem (by omega)] at f2
  simp only [List.drop_zero, List.drop_succ_cons, List.take_succ_cons, List.take_zero] at f2
  obtain ⟨a2, e2, _, w2⟩ := DataW.trod_int Try.underlying22 f2
  simp only [List.cons.injEq, and_true] at e2
  have f3 : DataW.trod enc Try.prog w base spare held n' 3 (([c0, c1, c2, c3].drop 3).take (Try.prog.cellsOf 3)) = ys[3]? := hf 3 _ rfl
  rw [hc_int, List.getElem?_eq_getElem (by omega)] at f3
  simp only [List.drop_zero, List.drop_succ_cons, List.take_succ_cons, List.take_zero] at f3
  obtain ⟨a3, e3, _, w3⟩ := DataW.trod_int Try.underlying3 f3
  simp only [List.cons.injEq, and_true] at e3
  exact ⟨⟨a0, a1, a2, a3⟩, by simp [cellsVec, e0, e1, e2, e3]⟩
theorem cells_bp {fuel : Nat} {cs : List Value} {x : DataW H × List MemPlace} (h : DataW.trod enc Try.prog w base spare held fuel 37 cs = some x) : ∃ k : Bp, cs = cellsB k ∧ OkBp k := by
  obtain ⟨ys, n', _, _, hlen, hyl, hf⟩ := DataW.trod_struct Try.underlying37 h
  have hc : Try.prog.cellsOf 37 = 8 := by kernel_rfl
  have hc_api_Vector : Try.prog.cellsOf 33 = 4 := by kernel_rfl
  have hc_bool : Try.prog.cellsOf 4 = 1 := by kernel_rfl
  have hc_int : Try.prog.cellsOf 3 = 1 := by kernel_rfl
  obtain ⟨c0, c1, c2, c3, c4, c5, c6, c7, rfl⟩ := len_8 cs (hlen.trans hc)
  have hy : ys.length = 5 := hyl
  have f0 : DataW.trod enc Try.prog w base spare held n' 33 (([c0, c1, c2, c3, c4, c5, c6, c7].drop 0).take (Try.prog.cellsOf 33)) = ys[0]? := hf 0 _ rfl
  rw [hc_api_Vector, List.getElem?_eq_getElem (by omega)] at f0
  simp only [List.drop_zero, List.drop_succ_cons, List.take_succ_cons, List.take_zero] at f0
  obtain ⟨a0, e0⟩ := cells_vec f0
  simp only [cellsVec, List.cons.injEq, and_true] at e0
  have f1 : DataW.trod enc Try.prog w base spare held n' 3 (([c0, c1, c2, c3, c4, c5, c6, c7].drop 4).take (Try.prog.cellsOf 3)) = ys[1]? := hf 1 _ rfl
  rw [hc_int, List.getElem?_eq_getElem (by omega)] at f1
  simp only [List.drop_zero, List.drop_succ_cons, List.take_succ_cons, List.take_zero] at f1
  obtain ⟨a1, e1, _, w1⟩ := DataW.trod_int Try.underlying3 f1
  simp only [List.cons.injEq, and_true] at e1
  have f2 : DataW.trod enc Try.prog w base spare held n' 4 (([c0, c1, c2, c3, c4, c5, c6, c7].drop 5).take (Try.prog.cellsOf 4)) = ys[2]? := hf 2 _ rfl
  rw [hc_bool, List.getElem?_eq_getElem (by omega)] at f2
  simp only [List.drop_zero, List.drop_succ_cons, List.take_succ_cons, List.take_zero] at f2
  obtain ⟨a2, e2, _⟩ := DataW.trod_bool Try.underlying4 f2
  simp only [List.cons.injEq, and_true] at e2
  have f3 : DataW.trod enc Try.prog w base spare held n' 4 (([c0, c1, c2, c3, c4, c5, c6, c7].drop 6).take (Try.prog.cellsOf 4)) = ys[3]? := hf 3 _ rfl
  rw [hc_bool, List.getElem?_eq_getElem (by omega)] at f3
  simp only [List.drop_zero, List.drop_succ_cons, List.take_succ_cons, List.take_zero] at f3
  obtain ⟨a3, e3, _⟩ := DataW.trod_bool Try.underlying4 f3
  simp only [List.cons.injEq, and_true] at e3
  have f4 : DataW.trod enc Try.prog w base spare held n' 4 (([c0, c1, c2, c3, c4, c5, c6, c7].drop 7).take (Try.prog.cellsOf 4)) = ys[4]? := hf 4 _ rfl
  rw [hc_bool, List.getElem?_eq_getElem (by omega)] at f4
  simp only [List.drop_zero, List.drop_succ_cons, List.take_succ_cons, List.take_zero] at f4
  obtain ⟨a4, e4, _⟩ := DataW.trod_bool Try.underlying4 f4
  simp only [List.cons.injEq, and_true] at e4
  exact ⟨⟨a0, a1, a2, a3, a4⟩, by simp [cellsB, e0, e1, e2, e3, e4, cellsVec], ⟨(i64_wf w1).1, (i64_wf w1).2⟩⟩
theorem cells_op {fuel : Nat} {cs : List Value} {x : DataW H × List MemPlace} (h : DataW.trod enc Try.prog w base spare held fuel 46 cs = some x) : ∃ k : OpR, cs = cellsOp k ∧ OkOp k := by
  obtain ⟨ys, n', _, _, hlen, hyl, hf⟩ := DataW.trod_struct Try.underlying46 h
  have hc : Try.prog.cellsOf 46 = 12 := by kernel_rfl
  have hc_api_Bpdu : Try.prog.cellsOf 37 = 8 := by kernel_rfl
  have hc_bool : Try.prog.cellsOf 4 = 1 := by kernel_rfl
  have hc_int : Try.prog.cellsOf 3 = 1 := by kernel_rfl
  obtain ⟨c0, c1, c2, c3, c4, c5, c6, c7, c8, c9, c10, c11, rfl⟩ := len_12 cs (hlen.trans hc)
  have hy : ys.length = 5 := hyl
  have f0 : DataW.trod enc Try.prog w base spare held n' 3 (([c0, c1, c2, c3, c4, c5, c6, c7, c8, c9, c10, c11].drop 0).take (Try.prog.cellsOf 3)) = ys[0]? := hf 0 _ rfl
  rw [hc_int, List.getElem?_eq_getElem (by omega)] at f0
  simp only [List.drop_zero, List.drop_succ_cons, List.take_succ_cons, List.take_zero] at f0
  obtain ⟨a0, e0, _, w0⟩ := DataW.trod_int Try.underlying3 f0
  simp only [List.cons.injEq, and_true] at e0
  have f1 : DataW.trod enc Try.prog w base spare held n' 3 (([c0, c1, c2, c3, c4, c5, c6, c7, c8, c9, c10, c11].drop 1).take (Try.prog.cellsOf 3)) = ys[1]? := hf 1 _ rfl
  rw [hc_int, List.getElem?_eq_getElem (by omega)] at f1
  simp only [List.drop_zero, List.drop_succ_cons, List.take_succ_cons, List.take_zero] at f1
  obtain ⟨a1, e1, _, w1⟩ := DataW.trod_int Try.underlying3 f1
  simp only [List.cons.injEq, and_true] at e1
  have f2 : DataW.trod enc Try.prog w base spare held n' 4 (([c0, c1, c2, c3, c4, c5, c6, c7, c8, c9, c10, c11].drop 2).take (Try.prog.cellsOf 4)) = ys[2]? := hf 2 _ rfl
  rw [hc_bool, List.getElem?_eq_getElem (by omega)] at f2
  simp only [List.drop_zero, List.drop_succ_cons, List.take_succ_cons, List.take_zero] at f2
  obtain ⟨a2, e2, _⟩ := DataW.trod_bool Try.underlying4 f2
  simp only [List.cons.injEq, and_true] at e2
  have f3 : DataW.trod enc Try.prog w base spare held n' 37 (([c0, c1, c2, c3, c4, c5, c6, c7, c8, c9, c10, c11].drop 3).take (Try.prog.cellsOf 37)) = ys[3]? := hf 3 _ rfl
  rw [hc_api_Bpdu, List.getElem?_eq_getElem (by omega)] at f3
  simp only [List.drop_zero, List.drop_succ_cons, List.take_succ_cons, List.take_zero] at f3
  obtain ⟨a3, e3, o3⟩ := cells_bp f3
  simp only [cellsB, List.cons.injEq, and_true] at e3
  have f4 : DataW.trod enc Try.prog w base spare held n' 3 (([c0, c1, c2, c3, c4, c5, c6, c7, c8, c9, c10, c11].drop 11).take (Try.prog.cellsOf 3)) = ys[4]? := hf 4 _ rfl
  rw [hc_int, List.getElem?_eq_getElem (by omega)] at f4
  simp only [List.drop_zero, List.drop_succ_cons, List.take_succ_cons, List.take_zero] at f4
  obtain ⟨a4, e4, _, w4⟩ := DataW.trod_int Try.underlying3 f4
  simp only [List.cons.injEq, and_true] at e4
  exact ⟨⟨a0, a1, a2, a3, a4⟩, by simp [cellsOp, e0, e1, e2, e3, e4, cellsB], ⟨o3.a0, o3.a1⟩⟩
theorem open_agg {α : Type} (f : α → List Value) {ok : α → Prop} {t : TypeId} {fs : Array Field} {b0 : Nat} {r : Reach} {v : Value} {d : DataW H} {p : List MemPlace} (ht : Try.prog.underlying t = some (.struct fs))
    (hcell : ∀ {fuel : Nat} {cs : List Value} {x : DataW H × List MemPlace}, DataW.trod enc Try.prog w base spare held fuel t cs = some x → ∃ k, cs = f k ∧ ok k)
    (hv : Value.okWide Try.prog w r b0 t v) (h : DataW.Trod enc Try.prog w base spare held t v d p) : ∃ k, v = .agg (f k).toArray ∧ ok k := by
  obtain ⟨cs, rfl, _⟩ := okWide_struct ht hv
  obtain ⟨fuel, hf⟩ := h
  obtain ⟨k, hk, ho⟩ := hcell hf
  refine ⟨k, ?_, ho⟩
  have : cs.toList = f k := hk
  rw [← this]
theorem open_ops {A : Option Addr} {len cap : Nat} {d : DataW H} {p : List MemPlace} (h : DataW.Trod enc Try.prog w base spare held 43 (.slice A len cap) d p) :
    ∃ xs : List OpR, Reads w w.heap.size 12 A len (xs.flatMap cellsOp) ∧ ∀ x ∈ xs, OkOp x := by
  obtain ⟨xs, hx⟩ := open_chunks (fun k : {o : OpR // OkOp o} => cellsOp k.1) 12 (by omega) (fun _ => rfl) Try.underlying43 (by kernel_rfl) (fun h => by
    obtain ⟨k, e, ok⟩ := cells_op h
    exact ⟨⟨k, ok⟩, e⟩) h
  refine ⟨xs.map Subtype.val, ?_, fun x hx => ?_⟩
  · rw [List.flatMap_map]
    exact hx
  · obtain ⟨k, _, rfl⟩ := List.mem_map.1 hx
    exact k.2
theorem cells_int {fuel : Nat} {cs : List Value} {x : DataW H × List MemPlace} (h : DataW.trod enc Try.prog w base spare held fuel 3 cs = some x) : ∃ n : Int, cs = [Value.int .i64 n] := by
  obtain ⟨n, e, _⟩ := DataW.trod_int Try.underlying3 h
  exact ⟨n, e⟩
theorem open_is {A : Option Addr} {len cap : Nat} {d : DataW H} {p : List MemPlace} (h : DataW.Trod enc Try.prog w base spare held 23 (.slice A len cap) d p) :
    ∃ xs : List Int, Reads w w.heap.size 1 A len (xs.map (Value.int .i64)) := by
  obtain ⟨xs, hx⟩ := open_chunks (fun n : Int => [Value.int .i64 n]) 1 (by omega) (fun _ => rfl) Try.underlying23 (by kernel_rfl) cells_int h
  exact ⟨xs, by rw [List.map_eq_flatMap]; exact hx⟩
end
end Rstp
end Go.Proofs.Ytlfoaefilonidaa
