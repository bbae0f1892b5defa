/-
  A list of what was heard, as it comes in: its cells.
-/
import Derived.Test.YtjklleoeganmhaaPrioRolesLaw
import Derived.ProofKit
import Derived.OpenShut
import Derived.ShutString
import Derived.ChangeOld
import Derived.Deep.Slices
namespace Go.Proofs.Ytjklleoeganmhaa
open Go.ChangeShapes Go.WideShapes Go.ChangeAt Go.RowKit Go.Deep
namespace Prio
theorem six {α : Type} (l : List α) (h : l.length = 6) : ∃ a b c d e f, l = [a, b, c, d, e, f] := by
  match l, h with
  | [a, b, c, d, e, f], _ => exact ⟨a, b, c, d, e, f, rfl⟩
theorem choose_list {α : Type} {P : Nat → α → Prop} : ∀ n : Nat, (∀ i, i < n → ∃ x, P i x) → ∃ l : List α, l.length = n ∧ ∀ i, i < n → ∃ x, l[i]? = some x ∧ P i x
  | 0, _ => ⟨[], rfl, fun i hi => absurd hi (by omega)⟩
  | n + 1, h => by
    obtain ⟨l, hl, hp⟩ := choose_list n (fun i hi => h i (by omega))
    obtain ⟨x, hx⟩ := h n (by omega)
    refine ⟨l ++ [x], by simp [hl], fun i hi => ?_⟩
    by_cases hin : i < n
    · obtain ⟨y, hy, hq⟩ := hp i hin
      exact ⟨y, by rw [List.getElem?_append_left (by omega)]; exact hy, hq⟩
    · have : i = n := by omega
      subst this
      exact ⟨x, by rw [List.getElem?_append_right (by omega), hl]; simp, hx⟩
section
variable {H : Type} {enc : TypeId × Value → H} {w : World} {base : Nat} {spare : Nat → Bool} {held : Bool}
theorem cells_heard {fuel : Nat} {cs : List Value} {x : DataW H × List MemPlace} (h : DataW.trod enc Try.prog w base spare held fuel 51 cs = some x) : ∃ k : Heard, cs = cellsH k := by
  obtain ⟨ys, n', _, _, hlen, hyl, hf⟩ := DataW.trod_struct Try.underlying51 h
  have hc : Try.prog.cellsOf 51 = 6 := by kernel_rfl
  have hcv : Try.prog.cellsOf 24 = 4 := by kernel_rfl
  have hcb : Try.prog.cellsOf 4 = 1 := by kernel_rfl
  have hci : Try.prog.cellsOf 3 = 1 := by kernel_rfl
  have hcu : Try.prog.cellsOf 22 = 1 := by kernel_rfl
  obtain ⟨c0, c1, c2, c3, c4, c5, rfl⟩ := six cs (hlen.trans hc)
  have f0 : DataW.trod enc Try.prog w base spare held n' 4 (([c0, c1, c2, c3, c4, c5].drop 0).take (Try.prog.cellsOf 4)) = ys[0]? := hf 0 _ rfl
  rw [hcb] at f0
  have f1 : DataW.trod enc Try.prog w base spare held n' 24 (([c0, c1, c2, c3, c4, c5].drop 1).take (Try.prog.cellsOf 24)) = ys[1]? := hf 1 _ rfl
  rw [hcv] at f1
  have f2 : DataW.trod enc Try.prog w base spare held n' 3 (([c0, c1, c2, c3, c4, c5].drop 5).take (Try.prog.cellsOf 3)) = ys[2]? := hf 2 _ rfl
  rw [hci] at f2
  simp only [List.drop_zero, List.drop_succ_cons, List.take_succ_cons, List.take_zero] at f0 f1 f2
  have hy : ys.length = 3 := hyl
  rw [List.getElem?_eq_getElem (by omega)] at f0 f1 f2
  obtain ⟨b, e0, _⟩ := DataW.trod_bool Try.underlying4 f0
  obtain ⟨z, e5, _⟩ := DataW.trod_int Try.underlying3 f2
  obtain ⟨zs, n'', _, _, hlen', hyl', hf'⟩ := DataW.trod_struct Try.underlying24 f1
  have g0 : DataW.trod enc Try.prog w base spare held n'' 22 (([c1, c2, c3, c4].drop 0).take (Try.prog.cellsOf 22)) = zs[0]? := hf' 0 _ rfl
  rw [hcu] at g0
  have g1 : DataW.trod enc Try.prog w base spare held n'' 3 (([c1, c2, c3, c4].drop 1).take (Try.prog.cellsOf 3)) = zs[1]? := hf' 1 _ rfl
  rw [hci] at g1
  have g2 : DataW.trod enc Try.prog w base spare held n'' 22 (([c1, c2, c3, c4].drop 2).take (Try.prog.cellsOf 22)) = zs[2]? := hf' 2 _ rfl
  rw [hcu] at g2
  have g3 : DataW.trod enc Try.prog w base spare held n'' 3 (([c1, c2, c3, c4].drop 3).take (Try.prog.cellsOf 3)) = zs[3]? := hf' 3 _ rfl
  rw [hci] at g3
  simp only [List.drop_zero, List.drop_succ_cons, List.take_succ_cons, List.take_zero] at g0 g1 g2 g3
  have hz : zs.length = 4 := hyl'
  rw [List.getElem?_eq_getElem (by omega)] at g0 g1 g2 g3
  obtain ⟨a0, e1, _⟩ := DataW.trod_int Try.underlying22 g0
  obtain ⟨a1, e2, _⟩ := DataW.trod_int Try.underlying3 g1
  obtain ⟨a2, e3, _⟩ := DataW.trod_int Try.underlying22 g2
  obtain ⟨a3, e4, _⟩ := DataW.trod_int Try.underlying3 g3
  simp only [List.cons.injEq, and_true] at e0 e1 e2 e3 e4 e5
  exact ⟨⟨b, ⟨a0, a1, a2, a3⟩, z⟩, by rw [e0, e1, e2, e3, e4, e5]; rfl⟩
theorem open_heard {A : Option Addr} {len cap : Nat} {d : DataW H} {p : List MemPlace} (h : DataW.Trod enc Try.prog w base spare held 33 (.slice A len cap) d p) :
    ∃ hs : List Heard, Reads w w.heap.size 6 A len (hs.flatMap cellsH) := by
  obtain ⟨fuel, hf⟩ := h
  have hc : Try.prog.cellsOf 51 = 6 := by kernel_rfl
  rcases open_slice Try.underlying33 hf with ⟨hcs, _⟩ | ⟨a, l, c, m, n, D, Pl, hcs, _, hl, _, hm, _, hi⟩
  · simp [Value.cells] at hcs
    obtain ⟨rfl, rfl, rfl⟩ := hcs
    exact ⟨[], Reads.none_⟩
  · simp [Value.cells] at hcs
    obtain ⟨rfl, rfl, rfl⟩ := hcs
    rw [hc] at hi
    have hlm : len ≤ m := by rw [hm]; split <;> omega
    obtain ⟨hs, hhl, hp⟩ := choose_list (P := fun i (k : Heard) => ∀ j, j < 6 → w.cell? ((a.add (i * 6)).add j) = (cellsH k)[j]?) len (fun i him => by
      obtain ⟨cs', hcell, ht⟩ := hi i (by omega)
      obtain ⟨k, rfl⟩ := cells_heard ht
      obtain ⟨_, _, hat⟩ := World.cells?_some hcell
      exact ⟨k, hat⟩)
    refine ⟨hs, by rw [cellsH_len, hhl], fun hn => ⟨a, rfl, ?_, fun j u hu => ?_⟩⟩
    · obtain ⟨k, _, hk⟩ := hp 0 hn
      have h0 := hk 0 (by omega)
      have h1 := World.block_lt_of_cell? w _ (h0.trans (show (cellsH k)[0]? = some (.bool k.is) from rfl))
      simpa [block_of_add] using h1
    · have hj : j < len * 6 := by
        have := (List.getElem?_eq_some_iff.1 hu).1
        rw [cellsH_len, hhl] at this
        exact this
      obtain ⟨k, hk1, hk2⟩ := hp (j / 6) (by omega)
      have e := cellsH_at hs (j / 6) (j % 6) k hk1 (by omega)
      rw [show j / 6 * 6 + j % 6 = j by omega] at e
      have h2 := hk2 (j % 6) (by omega)
      rw [add_of_add, show j / 6 * 6 + j % 6 = j by omega] at h2
      rw [h2, ← e]
      exact hu
end
theorem law_roles_any (b : Int) (A : Option Addr) (n c : Nat) (hs : List Heard) (w : World) (hr : Reads w w.heap.size 6 A n (hs.flatMap cellsH)) :
    Calls Try.prog 5 #[.int .u64 b, .slice A n c] w fun e w' => e = .returned (.bool true) ∧ Below w.heap.size w w' := by
  by_cases hn : n ≤ 40
  · exact law_roles b A n c hs w hn hr
  · exact law_roles_long b A n c w (by omega)
end Prio
end Go.Proofs.Ytjklleoeganmhaa
