/-
  The cells of what comes into fdb's laws: a call, a list of calls.
-/
import Derived.Test.YtnnpmbjicpndeaaOpen
import Derived.Test.YtnnpmbjicpndeaaFdbLive
namespace Go.Proofs.Ytnnpmbjicpndeaa
set_option linter.unusedVariables false
set_option linter.unusedSimpArgs false
open Go.ChangeShapes Go.WideShapes Go.ChangeAt Go.RowKit Go.Deep
namespace Fdb
structure OpF where
  kind : Int
  v : Int
  m : ByteArray
  port : Int
  now : Int
def cellsOp (o : OpF) : List Value := [.int .i64 o.kind, .int .i64 o.v, .string o.m, .int .i64 o.port, .int .i64 o.now]
structure OkOp (o : OpF) : Prop where
  key : okK (o.v, o.m)
theorem len_5 {α : Type} (l : List α) (h : l.length = 5) : ∃ c0 c1 c2 c3 c4, l = [c0, c1, c2, c3, c4] := by
  match l, h with
  | [c0, c1, c2, c3, c4], _ => exact ⟨c0, c1, c2, c3, c4, rfl⟩
section
variable {H : Type} {enc : TypeId × Value → H} {w : World} {base : Nat} {spare : Nat → Bool} {held : Bool}
theorem cells_op {fuel : Nat} {cs : List Value} {x : DataW H × List MemPlace} (h : DataW.trod enc Try.prog w base spare held fuel 30 cs = some x) : ∃ k : OpF, cs = cellsOp k ∧ OkOp k := by
  obtain ⟨ys, n', _, _, hlen, hyl, hf⟩ := DataW.trod_struct Try.underlying30 h
  have hc : Try.prog.cellsOf 30 = 5 := by kernel_rfl
  have hc_api_Mac : Try.prog.cellsOf 28 = 1 := by kernel_rfl
  have hc_int : Try.prog.cellsOf 3 = 1 := by kernel_rfl
  obtain ⟨c0, c1, c2, c3, c4, rfl⟩ := len_5 cs (hlen.trans hc)
  have hy : ys.length = 5 := hyl
  have f0 : DataW.trod enc Try.prog w base spare held n' 3 (([c0, c1, c2, c3, c4].drop 0).take (Try.prog.cellsOf 3)) = ys[0]? := hf 0 _ rfl
  rw [hc_int, List.getElem?_eq_getElem (by omega)] at f0
  simp only [List.drop_zero, List.drop_succ_cons, List.take_succ_cons, List.take_zero] at f0
  obtain ⟨a0, e0, _, w0⟩ := DataW.trod_int Try.underlying3 f0
  simp only [List.cons.injEq, and_true] at e0
  have f1 : DataW.trod enc Try.prog w base spare held n' 3 (([c0, c1, c2, c3, c4].drop 1).take (Try.prog.cellsOf 3)) = ys[1]? := hf 1 _ rfl
  rw [hc_int, List.getElem?_eq_getElem (by omega)] at f1
  simp only [List.drop_zero, List.drop_succ_cons, List.take_succ_cons, List.take_zero] at f1
  obtain ⟨a1, e1, _, w1⟩ := DataW.trod_int Try.underlying3 f1
  simp only [List.cons.injEq, and_true] at e1
  have f2 : DataW.trod enc Try.prog w base spare held n' 28 (([c0, c1, c2, c3, c4].drop 2).take (Try.prog.cellsOf 28)) = ys[2]? := hf 2 _ rfl
  rw [hc_api_Mac, List.getElem?_eq_getElem (by omega)] at f2
  simp only [List.drop_zero, List.drop_succ_cons, List.take_succ_cons, List.take_zero] at f2
  obtain ⟨a2, e2, _, s2⟩ := DataW.trod_string Try.underlying28 f2
  simp only [List.cons.injEq, and_true] at e2
  have f3 : DataW.trod enc Try.prog w base spare held n' 3 (([c0, c1, c2, c3, c4].drop 3).take (Try.prog.cellsOf 3)) = ys[3]? := hf 3 _ rfl
  rw [hc_int, List.getElem?_eq_getElem (by omega)] at f3
  simp only [List.drop_zero, List.drop_succ_cons, List.take_succ_cons, List.take_zero] at f3
  obtain ⟨a3, e3, _, w3⟩ := DataW.trod_int Try.underlying3 f3
  simp only [List.cons.injEq, and_true] at e3
  have f4 : DataW.trod enc Try.prog w base spare held n' 3 (([c0, c1, c2, c3, c4].drop 4).take (Try.prog.cellsOf 3)) = ys[4]? := hf 4 _ rfl
  rw [hc_int, List.getElem?_eq_getElem (by omega)] at f4
  simp only [List.drop_zero, List.drop_succ_cons, List.take_succ_cons, List.take_zero] at f4
  obtain ⟨a4, e4, _, w4⟩ := DataW.trod_int Try.underlying3 f4
  simp only [List.cons.injEq, and_true] at e4
  exact ⟨⟨a0, a1, a2, a3, a4⟩, by simp [cellsOp, e0, e1, e2, e3, e4], ⟨⟨w1, s2⟩⟩⟩
theorem open_ops {A : Option Addr} {len cap : Nat} {d : DataW H} {p : List MemPlace} (h : DataW.Trod enc Try.prog w base spare held 22 (.slice A len cap) d p) :
    ∃ xs : List OpF, Reads w w.heap.size 5 A len (xs.flatMap cellsOp) ∧ ∀ x ∈ xs, OkOp x := by
  obtain ⟨xs, hx⟩ := open_chunks (fun k : {o : OpF // OkOp o} => cellsOp k.1) 5 (by omega) (fun _ => rfl) Try.underlying22 (by kernel_rfl) (fun h => by
    obtain ⟨k, e, ok⟩ := cells_op h
    exact ⟨⟨k, ok⟩, e⟩) h
  refine ⟨xs.map Subtype.val, ?_, fun x hx => ?_⟩
  · rw [List.flatMap_map]
    exact hx
  · obtain ⟨k, _, rfl⟩ := List.mem_map.1 hx
    exact k.2
theorem open_agg {α : Type} (f : α → List Value) {ok : α → Prop} {t : TypeId} {fs : Array Field} {b0 : Nat} {r : Reach} {v : Value} {d : DataW H} {p : List MemPlace} (ht : Try.prog.underlying t = some (.struct fs))
    (hcell : ∀ {fuel : Nat} {cs : List Value} {x : DataW H × List MemPlace}, DataW.trod enc Try.prog w base spare held fuel t cs = some x → ∃ k, cs = f k ∧ ok k)
    (hv : Value.okWide Try.prog w r b0 t v) (h : DataW.Trod enc Try.prog w base spare held t v d p) : ∃ k, v = .agg (f k).toArray ∧ ok k := by
  obtain ⟨cs, rfl, _⟩ := okWide_struct ht hv
  obtain ⟨fuel, hf⟩ := h
  obtain ⟨k, hk, ho⟩ := hcell hf
  refine ⟨k, ?_, ho⟩
  have : cs.toList = f k := hk
  rw [← this]
end
theorem op_cells {w : World} {bb o : Nat} {x : OpF} (h : ∀ j u, (cellsOp x)[j]? = some u → w.cell? ⟨bb, o + j, none⟩ = some u) :
    w.cell? ⟨bb, o, none⟩ = some (.int .i64 x.kind) ∧ w.cell? ⟨bb, o + 1, none⟩ = some (.int .i64 x.v) ∧ w.cell? ⟨bb, o + 2, none⟩ = some (.string x.m) ∧ w.cell? ⟨bb, o + 3, none⟩ = some (.int .i64 x.port) ∧ w.cell? ⟨bb, o + 4, none⟩ = some (.int .i64 x.now) :=
  ⟨h 0 _ rfl, h 1 _ rfl, h 2 _ rfl, h 3 _ rfl, h 4 _ rfl⟩
/-- a call in a block of its own -/
def OpB (w : World) (q : Nat) (x : OpF) : Prop := Blk w q 30 #[.int .i64 x.kind, .int .i64 x.v, .string x.m, .int .i64 x.port, .int .i64 x.now]
theorem OpB.cells {w : World} {q : Nat} {x : OpF} (h : OpB w q x) : w.cell? ⟨q, 1, none⟩ = some (.int .i64 x.v) ∧ w.cell? ⟨q, 2, none⟩ = some (.string x.m) ∧ w.cell? ⟨q, 3, none⟩ = some (.int .i64 x.port) ∧ w.cell? ⟨q, 4, none⟩ = some (.int .i64 x.now) :=
  ⟨Blk.cell h 1, Blk.cell h 2, Blk.cell h 3, Blk.cell h 4⟩
theorem OpB.keep {ys : List Nat} {w w' : World} {q : Nat} {x : OpF} (h : OpB w q x) (hk : Keep ys w w') (hq : q ∉ ys) : OpB w' q x := Keep.blk hk h hq
theorem OpB.lt {w : World} {q : Nat} {x : OpF} (h : OpB w q x) : q < w.heap.size := Blk.lt h
end Fdb
end Go.Proofs.Ytnnpmbjicpndeaa
