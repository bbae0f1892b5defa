/-
  The walk of the tree's live: some answers that the document gives.
-/
import Derived.Test.YtdgbemafhhhceaaTreePActive
namespace Go.Proofs.Ytdgbemafhhhceaa
set_option linter.unusedVariables false
set_option linter.unusedSimpArgs false
open Go.RowKit
open Go.Proofs.Ytdgbemafhhhceaa.Prio
namespace Tree
def ids3 : List Int := [1, 2, 3]
def links3 : List Lk := [⟨0, 0, 1, 0, 5⟩, ⟨1, 1, 2, 1, 5⟩, ⟨2, 0, 0, 1, 5⟩]
theorem may3 : May ids3 links3 where
  n1 := by decide
  n2 := by decide
  l := by decide
  nd := by decide
  ok := by
    intro e he
    simp [endsOf, links3, two] at he
    rcases he with rfl | rfl | rfl | rfl | rfl | rfl <;> exact ⟨by decide, by decide, by decide, by decide, by decide, by decide⟩
  ap := by
    unfold Apart2
    simp [endsOf, links3, two, SamePort]
theorem wf3 : ∀ x ∈ ids3, (Lit.int .u64 x).wf = true := by
  intro x hx
  simp [ids3] at hx
  rcases hx with rfl | rfl | rfl <;> decide
theorem no0 : ¬ May [] [] := fun h => by have := h.n1; simp at this
theorem rest3 : restOf ids3 links3 = [(2, 1), (2, 3), (1, 2)] := by kernel_rfl
theorem active3 : activeOf ids3 links3 = [0, 2] := by kernel_rfl
theorem reads_new {w : World} (xs : List Value) (t : TypeId) {n size : Nat} (hl : xs.length = n * size) (w' : World) (hw : w' = w.alloc (.cells xs.toArray t)) : Reads w' w'.heap.size size (some ⟨w.heap.size, 0, none⟩) n xs := by
  subst hw
  exact ⟨hl, fun _ => ⟨_, rfl, by simp, new_cells w xs t⟩⟩
theorem eqArr (a b c d : Int) (w : World) : (Op.equalIn 10000 38 (.agg #[.int .i64 a, .int .i64 b]) (.agg #[.int .i64 c, .int .i64 d])).run Try.prog w = .ok (a == c && b == d) w := by
  have u3 := Try.underlying3
  have a3 := Try.isAgg3
  have z3 := Try.sizeOf3
  rw [show (10000 : Nat) = 9999 + 1 from rfl, Op.equalIn]
  simp only [Sem.run_bind, run_underlying Try.underlying38, Result.andThen_ok]
  simp only [Std.Legacy.Range.forIn_eq_forIn_range', Std.Legacy.Range.size, Nat.sub_zero, Nat.add_sub_cancel, Nat.div_one, List.range'_succ, List.range'_zero, List.forIn_cons, List.forIn_nil]
  go_simp
  by_cases h1 : a = c <;> by_cases h2 : b = d <;> simp [h1, h2]
theorem eql2 (a b : Int) (w : World) : Sem.run Try.prog (Go.binOp .eql 38 (.agg #[.int .i64 a, .int .i64 b]) (.agg #[.int .i64 a, .int .i64 b])) w = .ok (.bool true) w := by
  rw [run_eql_struct, eqArr]
  simp
theorem neq2 (a b : Int) (w : World) : Sem.run Try.prog (Go.binOp .neq 38 (.agg #[.int .i64 a, .int .i64 b]) (.agg #[.int .i64 a, .int .i64 b])) w = .ok (.bool false) w := by
  rw [run_neq_struct, eqArr]
  simp
set_option maxHeartbeats 4000000 in
set_option maxRecDepth 100000 in
theorem live_ (w : World) : Calls Try.prog 9 #[] w fun e w' => e = .returned (.bool true) ∧ Below w.heap.size w w' := by
  go_enter Try.func9, Try.ntmps9
  go_wp2_with fail
  have hz1 : (w.alloc (.cells (links3.flatMap cellsL).toArray 45)).heap.size = w.heap.size + 1 := by simp
  have L1 : Reads (w.alloc (.cells (links3.flatMap cellsL).toArray 45)) (w.alloc (.cells (links3.flatMap cellsL).toArray 45)).heap.size 5 (some ⟨w.heap.size, 0, none⟩) 3 (links3.flatMap cellsL) := reads_new (links3.flatMap cellsL) 45 rfl _ rfl
  have I1 : Reads ((w.alloc (.cells (links3.flatMap cellsL).toArray 45)).alloc (.cells (ids3.map (Value.int .u64)).toArray 44)) ((w.alloc (.cells (links3.flatMap cellsL).toArray 45)).alloc (.cells (ids3.map (Value.int .u64)).toArray 44)).heap.size 1 (some ⟨w.heap.size + 1, 0, none⟩) 3 (ids3.map (Value.int .u64)) := by
    have := reads_new (w := w.alloc (.cells (links3.flatMap cellsL).toArray 45)) (ids3.map (Value.int .u64)) 44 (n := 3) (size := 1) rfl _ rfl
    rw [hz1] at this
    exact this
  have L2 := (L1.alloc (Nat.le_refl _) (.cells (ids3.map (Value.int .u64)).toArray 44)).more (B' := ((w.alloc (.cells (links3.flatMap cellsL).toArray 45)).alloc (.cells (ids3.map (Value.int .u64)).toArray 44)).heap.size) (by simp)
  have HB0 : Hid (Below w.heap.size w ((w.alloc (.cells (links3.flatMap cellsL).toArray 45)).alloc (.cells (ids3.map (Value.int .u64)).toArray 44))) := Lib.hid (((Below.refl _ _).alloc (Nat.le_refl _) _).alloc (by simp) _)
  have HR := Lib.hid (rest_ok (some ⟨w.heap.size + 1, 0, none⟩) 3 3 ids3 (some ⟨w.heap.size, 0, none⟩) 3 3 links3 ((w.alloc (.cells (links3.flatMap cellsL).toArray 45)).alloc (.cells (ids3.map (Value.int .u64)).toArray 44)) I1 L2 wf3 may3)
  have HL2 := Lib.hid L2
  clear L1 I1 L2 hz1
  refine HR.out.mono ?_
  rintro e w2 ⟨⟨A2, c2, rfl, r2⟩, b2⟩
  rw [rest3] at r2
  have HB2 := Lib.hid (HB0.out.trans (b2.mono (HB0.out.size)))
  have L3 := (HL2.out.below b2).more b2.size
  have HL3 : Hid (Reads (w2.alloc (.cells (ids3.map (Value.int .u64)).toArray 44)) (w2.alloc (.cells (ids3.map (Value.int .u64)).toArray 44)).heap.size 5 (some ⟨w.heap.size, 0, none⟩) 3 (links3.flatMap cellsL)) := Lib.hid ((L3.alloc (Nat.le_refl _) _).more (by simp))
  have HR2 := Lib.hid r2
  clear HR HL2 HB0 r2 b2 L3
  go_wp2_with fail
  have I3 : Reads (w2.alloc (.cells (ids3.map (Value.int .u64)).toArray 44)) (w2.alloc (.cells (ids3.map (Value.int .u64)).toArray 44)).heap.size 1 (some ⟨w2.heap.size, 0, none⟩) 3 (ids3.map (Value.int .u64)) := reads_new (ids3.map (Value.int .u64)) 44 rfl _ rfl
  have ha := active_ok (some ⟨w2.heap.size, 0, none⟩) 3 3 ids3 (some ⟨w.heap.size, 0, none⟩) 3 3 links3 (w2.alloc (.cells (ids3.map (Value.int .u64)).toArray 44)) I3 HL3.out wf3 may3
  rw [active3] at ha
  have HA : Hid (Calls Try.prog 14 #[.slice (some ⟨w2.heap.size, 0, none⟩) 3 3, .slice (some ⟨w.heap.size, 0, none⟩) 3 3] (w2.alloc (.cells (ids3.map (Value.int .u64)).toArray 44)) fun e w' => (∃ A' c', e = .returned (.tuple #[.slice A' 2 c', .int .i64 0]) ∧ Reads w' w'.heap.size 1 A' 2 (([0, 2] : List Int).map (Value.int .i64))) ∧ Below (w2.alloc (.cells (ids3.map (Value.int .u64)).toArray 44)).heap.size (w2.alloc (.cells (ids3.map (Value.int .u64)).toArray 44)) w') := Lib.hid ha
  clear I3 ha
  refine HA.out.mono ?_
  rintro e w3 ⟨⟨A3, c3, rfl, r3⟩, b3⟩
  have bb : Below w2.heap.size w2 w3 := ((Below.refl _ _).alloc (Nat.le_refl _) _).trans (b3.mono (by simp))
  have HB3 := Lib.hid (HB2.out.trans (bb.mono HB2.out.size))
  have r2 := HR2.out.below bb
  obtain ⟨b, o, p1, rfl, hb, hp1, d0, d1⟩ := read2 r2 (k := 1) (by omega)
  obtain ⟨b', o', p0, hA, _, hp0, d2, d3⟩ := read2 r2 (k := 0) (by omega)
  cases hA
  simp at hp0 hp1
  subst hp0
  subst hp1
  have e0 : w3.cell? ⟨b, o, none⟩ = some (.int .i64 2) := by simpa using d2
  have e1 : w3.cell? ⟨b, o + 1, none⟩ = some (.int .i64 1) := by simpa using d3
  have e2 : w3.cell? ⟨b, o + 2, none⟩ = some (.int .i64 2) := by simpa using d0
  have e3 : w3.cell? ⟨b, o + 2 + 1, none⟩ = some (.int .i64 3) := by simpa using d1
  have HS := Lib.hid (sameInts_ (w3.alloc (.cells (([0, 2] : List Int).map (Value.int .i64)).toArray 3)) A3 (some ⟨w3.heap.size, 0, none⟩) c3 2 2 [0, 2] ((r3.alloc (Nat.le_refl _) _).more (by simp)) (reads_new (([0, 2] : List Int).map (Value.int .i64)) 3 rfl _ rfl) (by omega))
  have HC := fun W => pcheck_ none 0 0 [] none 0 0 [] W Reads.none_ Reads.none_ (by simp)
  rw [chk_no no0] at HC
  have HC' := Lib.hid HC
  have q1 := eql2 2 3
  have q2 := eql2 2 1
  clear HA HL3 HR2 r3 b3 bb r2 d0 d1 d2 d3 HC hb
  go_wp2_with (first
    | (go_at_call 17; refine HS.out.mono ?_; rintro e w4 ⟨rfl, m4, rfl⟩)
    | (go_at_call 11; refine (HC'.out _).mono ?_; rintro e w5 ⟨rfl, b5⟩)
    | go_in)
  go_ret
  refine ⟨rfl, ?_⟩
  have h6 := below_drewN (HB3.out.alloc HB3.out.size (.cells (([0, 2] : List Int).map (Value.int .i64)).toArray 3)) m4
  exact h6.trans (b5.mono h6.size)
end Tree
end Go.Proofs.Ytdgbemafhhhceaa
