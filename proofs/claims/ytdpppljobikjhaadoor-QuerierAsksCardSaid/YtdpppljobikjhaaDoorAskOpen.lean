/-
  The cells of what comes into QuerierAsks: a script of questions, each with a list of sources.
-/
import Derived.Test.YtdpppljobikjhaaDoorOpen
import Derived.Test.YtdpppljobikjhaaDoorAskLaw
namespace Go.Proofs.YtdpppljobikjhaaDoor
set_option linter.unusedVariables false
set_option linter.unusedSimpArgs false
open Go.ChangeShapes Go.WideShapes Go.ChangeAt Go.RowKit Go.Deep
namespace AskL
structure SlA where
  A : Option Addr
  n : Nat
  c : Nat
  ss : List ByteArray
def cellsSl (s : SlA) : List Value := [.slice s.A s.n s.c]
def OkSl (w : World) (s : SlA) : Prop := Reads w w.heap.size 1 s.A s.n (s.ss.map Value.string)
structure QA where
  v : Int
  g : ByteArray
  s : SlA
def cellsQA (k : QA) : List Value := [.int .i64 k.v, .string k.g, .slice k.s.A k.s.n k.s.c]
def OkQA (w : World) (k : QA) : Prop := OkSl w k.s
structure AA where
  do_ : Int
  q : QA
  now : Int
def cellsAA (k : AA) : List Value := [.int .i64 k.do_, .int .i64 k.q.v, .string k.q.g, .slice k.q.s.A k.q.s.n k.q.s.c, .int .i64 k.now]
def OkAA (w : World) (k : AA) : Prop := OkQA w k.q
def toOp (a : AA) : AskOp := ⟨a.do_, ⟨a.q.v, a.q.g, a.q.s.ss⟩, a.q.s.A, a.q.s.n, a.q.s.c, a.now⟩
theorem flat_one : ∀ xs : List ByteArray, xs.flatMap (fun b : ByteArray => [Value.string b]) = xs.map Value.string
  | [] => rfl
  | a :: r => by rw [List.flatMap_cons, flat_one r]; rfl
theorem len_3 {α : Type} (l : List α) (h : l.length = 3) : ∃ c0 c1 c2, l = [c0, c1, c2] := by
  match l, h with
  | [c0, c1, c2], _ => exact ⟨c0, c1, c2, rfl⟩
theorem len_5 {α : Type} (l : List α) (h : l.length = 5) : ∃ c0 c1 c2 c3 c4, l = [c0, c1, c2, c3, c4] := by
  match l, h with
  | [c0, c1, c2, c3, c4], _ => exact ⟨c0, c1, c2, c3, c4, rfl⟩
section
variable {H : Type} {enc : TypeId × Value → H} {w : World} {base : Nat} {spare : Nat → Bool} {held : Bool}
theorem cells_addr {fuel : Nat} {cs : List Value} {x : DataW H × List MemPlace} (h : DataW.trod enc Tryd.prog w base spare held fuel 22 cs = some x) : ∃ k : ByteArray, cs = [Value.string k] := by
  obtain ⟨a, e, _⟩ := DataW.trod_string Tryd.underlying22 h
  exact ⟨a, e⟩
theorem cells_sl {fuel : Nat} {cs : List Value} {x : DataW H × List MemPlace} (h : DataW.trod enc Tryd.prog w base spare held fuel 46 cs = some x) : ∃ k : SlA, cs = cellsSl k ∧ (OkSl w) k := by
  have key : ∀ (A : Option Addr) (len cap : Nat), cs = [.slice A len cap] → ∃ k : SlA, cs = cellsSl k ∧ (OkSl w) k := by
    intro A len cap e
    subst e
    obtain ⟨d, p⟩ := x
    obtain ⟨xs, hr⟩ := open_chunks (fun b : ByteArray => [Value.string b]) 1 (by omega) (fun _ => rfl) Tryd.underlying46 (by kernel_rfl) cells_addr (A := A) (len := len) (cap := cap) ⟨fuel, h⟩
    refine ⟨⟨A, len, cap, xs⟩, rfl, ?_⟩
    rw [flat_one xs] at hr
    exact hr
  rcases open_slice Tryd.underlying46 h with ⟨e, _⟩ | ⟨a, l, c, _, _, _, _, e, _⟩
  · exact key _ _ _ e
  · exact key _ _ _ e
theorem cells_qa {fuel : Nat} {cs : List Value} {x : DataW H × List MemPlace} (h : DataW.trod enc Tryd.prog w base spare held fuel 48 cs = some x) : ∃ k : QA, cs = cellsQA k ∧ (OkQA w) k := by
  obtain ⟨ys, n', _, _, hlen, hyl, hf⟩ := DataW.trod_struct Tryd.underlying48 h
  have hc : Tryd.prog.cellsOf 48 = 3 := by kernel_rfl
  have hc___api_Addr : Tryd.prog.cellsOf 46 = 1 := by kernel_rfl
  have hc_api_Addr : Tryd.prog.cellsOf 22 = 1 := by kernel_rfl
  have hc_int : Tryd.prog.cellsOf 3 = 1 := by kernel_rfl
  obtain ⟨c0, c1, c2, rfl⟩ := len_3 cs (hlen.trans hc)
  have hy : ys.length = 3 := hyl
  have f0 : DataW.trod enc Tryd.prog w base spare held n' 3 (([c0, c1, c2].drop 0).take (Tryd.prog.cellsOf 3)) = ys[0]? := hf 0 _ rfl
  rw [hc_int, List.getElem?_eq_getElem (by omega)] at f0
  simp only [List.drop_zero, List.drop_succ_cons, List.take_succ_cons, List.take_zero] at f0
  obtain ⟨a0, e0, _, w0⟩ := DataW.trod_int Tryd.underlying3 f0
  simp only [List.cons.injEq, and_true] at e0
  have f1 : DataW.trod enc Tryd.prog w base spare held n' 22 (([c0, c1, c2].drop 1).take (Tryd.prog.cellsOf 22)) = ys[1]? := hf 1 _ rfl
  rw [hc_api_Addr, List.getElem?_eq_getElem (by omega)] at f1
  simp only [List.drop_zero, List.drop_succ_cons, List.take_succ_cons, List.take_zero] at f1
  obtain ⟨a1, e1, _⟩ := DataW.trod_string Tryd.underlying22 f1
  simp only [List.cons.injEq, and_true] at e1
  have f2 : DataW.trod enc Tryd.prog w base spare held n' 46 (([c0, c1, c2].drop 2).take (Tryd.prog.cellsOf 46)) = ys[2]? := hf 2 _ rfl
  rw [hc___api_Addr, List.getElem?_eq_getElem (by omega)] at f2
  simp only [List.drop_zero, List.drop_succ_cons, List.take_succ_cons, List.take_zero] at f2
  obtain ⟨a2, e2, o2⟩ := cells_sl f2
  simp only [cellsSl, List.cons.injEq, and_true] at e2
  exact ⟨⟨a0, a1, a2⟩, by simp [cellsQA, e0, e1, e2, cellsSl], o2⟩
theorem cells_aa {fuel : Nat} {cs : List Value} {x : DataW H × List MemPlace} (h : DataW.trod enc Tryd.prog w base spare held fuel 50 cs = some x) : ∃ k : AA, cs = cellsAA k ∧ (OkAA w) k := by
  obtain ⟨ys, n', _, _, hlen, hyl, hf⟩ := DataW.trod_struct Tryd.underlying50 h
  have hc : Tryd.prog.cellsOf 50 = 5 := by kernel_rfl
  have hc_int : Tryd.prog.cellsOf 3 = 1 := by kernel_rfl
  have hc_siphonref20_Question : Tryd.prog.cellsOf 48 = 3 := by kernel_rfl
  obtain ⟨c0, c1, c2, c3, c4, rfl⟩ := len_5 cs (hlen.trans hc)
  have hy : ys.length = 3 := hyl
  have f0 : DataW.trod enc Tryd.prog w base spare held n' 3 (([c0, c1, c2, c3, c4].drop 0).take (Tryd.prog.cellsOf 3)) = ys[0]? := hf 0 _ rfl
  rw [hc_int, List.getElem?_eq_getElem (by omega)] at f0
  simp only [List.drop_zero, List.drop_succ_cons, List.take_succ_cons, List.take_zero] at f0
  obtain ⟨a0, e0, _, w0⟩ := DataW.trod_int Tryd.underlying3 f0
  simp only [List.cons.injEq, and_true] at e0
  have f1 : DataW.trod enc Tryd.prog w base spare held n' 48 (([c0, c1, c2, c3, c4].drop 1).take (Tryd.prog.cellsOf 48)) = ys[1]? := hf 1 _ rfl
  rw [hc_siphonref20_Question, List.getElem?_eq_getElem (by omega)] at f1
  simp only [List.drop_zero, List.drop_succ_cons, List.take_succ_cons, List.take_zero] at f1
  obtain ⟨a1, e1, o1⟩ := cells_qa f1
  simp only [cellsQA, List.cons.injEq, and_true] at e1
  have f2 : DataW.trod enc Tryd.prog w base spare held n' 3 (([c0, c1, c2, c3, c4].drop 4).take (Tryd.prog.cellsOf 3)) = ys[2]? := hf 2 _ rfl
  rw [hc_int, List.getElem?_eq_getElem (by omega)] at f2
  simp only [List.drop_zero, List.drop_succ_cons, List.take_succ_cons, List.take_zero] at f2
  obtain ⟨a2, e2, _, w2⟩ := DataW.trod_int Tryd.underlying3 f2
  simp only [List.cons.injEq, and_true] at e2
  exact ⟨⟨a0, a1, a2⟩, by simp [cellsAA, e0, e1, e2, cellsQA], o1⟩
theorem open_asks {A : Option Addr} {len cap : Nat} {d : DataW H} {p : List MemPlace} (h : DataW.Trod enc Tryd.prog w base spare held 38 (.slice A len cap) d p) :
    ∃ xs : List AskOp, Reads w w.heap.size 5 A len (xs.flatMap cellsA) ∧ ∀ x ∈ xs, Reads w w.heap.size 1 x.A x.n (x.q.ss.map Value.string) := by
  obtain ⟨xs, hx⟩ := open_chunks (fun k : {o : AA // OkAA w o} => cellsAA k.1) 5 (by omega) (fun _ => rfl) Tryd.underlying38 (by kernel_rfl) (fun h => by
    obtain ⟨k, e, ok⟩ := cells_aa h
    exact ⟨⟨k, ok⟩, e⟩) h
  refine ⟨xs.map fun k => toOp k.1, ?_, fun x hx => ?_⟩
  · rw [List.flatMap_map]
    exact hx
  · obtain ⟨k, _, rfl⟩ := List.mem_map.1 hx
    exact k.2
end
end AskL
end Go.Proofs.YtdpppljobikjhaaDoor
