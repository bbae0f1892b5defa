/-
  The document's questions that wait (siphonref20.Asks), in memory: the walks of time, first and Add.
-/
import Derived.Test.YtdpppljobikjhaaDoorAskDue
import Derived.Test.YtdpppljobikjhaaDoorRow
namespace Go.Proofs.YtdpppljobikjhaaDoor
set_option linter.unusedVariables false
set_option linter.unusedSimpArgs false
open Go.RowKit Go.Maps
namespace AskR
open Go.Proofs.YtdpppljobikjhaaDoor.Ask
/-- a question that waits, as the document keeps it -/
structure Dw where
  q : Qn
  A : Option Addr
  n : Nat
  c : Nat
  at_ : Int
  left : Int
def dd (x : Dw) : Wait := ⟨x.q, x.at_, x.left⟩
def c5 (x : Dw) : List Value := [.int .i64 x.q.v, .string x.q.g, .slice x.A x.n x.c, .int .i64 x.at_, .int .i64 x.left]
def c3 (x : Dw) : List Value := [.int .i64 x.q.v, .string x.q.g, .slice x.A x.n x.c]
theorem len5 (x : Dw) : (c5 x).length = 5 := rfl
theorem len3 (x : Dw) : (c3 x).length = 3 := rfl
theorem one5 (x : Dw) : ∀ u ∈ c5 x, u.oneCell' = true := by
  intro u hu
  simp [c5] at hu
  rcases hu with rfl | rfl | rfl | rfl | rfl <;> rfl
theorem one3 (x : Dw) : ∀ u ∈ c3 x, u.oneCell' = true := by
  intro u hu
  simp [c3] at hu
  rcases hu with rfl | rfl | rfl <;> rfl
theorem one5s (xs : List Dw) : ∀ u ∈ xs.flatMap c5, u.oneCell' = true := by
  intro u hu
  obtain ⟨x, _, hx⟩ := List.mem_flatMap.1 hu
  exact one5 x u hx
/-- its sources lie below -/
def Low (w : World) (B : Nat) (x : Dw) : Prop := Reads w B 1 x.A x.n (x.q.ss.map Value.string)
def RAt (w : World) (q : Nat) (count gap : Int) (L : List Dw) : Prop :=
  ∃ v, Blk w q 45 #[.int .i64 count, .int .i64 gap, v] ∧ w.ownsRow (q + 1) 81 5 v L.length (L.flatMap c5)
theorem RAt.keep {ys : List Nat} {w w' : World} {q : Nat} {count gap : Int} {L : List Dw} (h : RAt w q count gap L) (hk : Keep ys w w') (hy : ∀ y ∈ ys, y < q ∨ w.heap.size ≤ y) : RAt w' q count gap L := by
  obtain ⟨v, h1, h2⟩ := h
  refine ⟨v, Keep.blk hk h1 (fun hm => by have := hy q hm; have := h1.lt; omega), ?_⟩
  obtain ⟨h3, h4⟩ := h2
  refine ⟨h3, ?_⟩
  rcases h4 with h4 | ⟨g, cap, cur, rfl, hg, hh, hr⟩
  · exact .inl h4
  · have hgl := (Array.getElem?_eq_some_iff.1 hh).1
    exact .inr ⟨g, cap, cur, rfl, hg, (hk.block g hgl (fun hm => by have := hy g hm; omega)).trans hh, hr⟩
theorem RAt.drewN {w : World} {q : Nat} {count gap : Int} {L : List Dw} (h : RAt w q count gap L) (n : Nat) : RAt (w.drewN n) q count gap L := h
theorem RAt.lt {w : World} {q : Nat} {count gap : Int} {L : List Dw} (h : RAt w q count gap L) : q < w.heap.size := by
  obtain ⟨v, h1, _⟩ := h
  exact h1.lt
theorem info5 : (Tryd.prog.info? 81).map (fun i => (i.zero, i.size, i.bytes)) = some (some (.agg #[.int .i64 0, .string ByteArray.empty, .slice none 0 0, .int .i64 0, .int .i64 0]), 5, 64) := by kernel_rfl
theorem info3 : (Tryd.prog.info? 48).map (fun i => (i.zero, i.size, i.bytes)) = some (some (.agg #[.int .i64 0, .string ByteArray.empty, .slice none 0 0]), 3, 48) := by kernel_rfl
theorem rtime_ (now : Int) (w : World) : Calls Tryd.prog 26 #[.int .i64 now] w fun e w' => e = .returned (.bool (Q.inB now 0 1099511627776)) ∧ w = w' := by
  by_cases h1 : 0 ≤ now
  · have e : Q.inB now 0 1099511627776 = decide (now ≤ 1099511627776) := by simp [Q.inB, h1]
    have E := Lib.hid e
    clear e
    go_enter Tryd.func26, Tryd.ntmps26
    go_wp2
    all_goals
      go_ret
      exact ⟨retb (by rw [E.out]), rfl⟩
  · have e : Q.inB now 0 1099511627776 = false := by simp [Q.inB, h1]
    have E := Lib.hid e
    clear e
    go_enter Tryd.func26, Tryd.ntmps26
    go_wp2
    go_ret
    exact ⟨retb (by rw [E.out]), rfl⟩
def FirstIs (L : List Wait) (k : Nat) (b : Int) : Prop := (k = 0 ∧ b = -1) ∨ ∃ i : Nat, b = i ∧ BestIs L k i
set_option maxHeartbeats 2000000 in
set_option maxRecDepth 20000 in
theorem first_ (w : World) (q : Nat) (count gap : Int) (L : List Dw) (h : RAt w q count gap L) (hn : L.length ≤ 5000) :
    Calls Tryd.prog 31 #[.pointer (some ⟨q, 0, none⟩)] w fun e w' => (∃ b, FirstIs (L.map dd) L.length b ∧ e = .returned (.int .i64 b)) ∧ ∃ n, w' = w.drewN n := by
  obtain ⟨v, hblk, hown⟩ := h
  obtain ⟨A, c, rfl, hrd⟩ := own_form hown
  have c2 : w.cell? ⟨q, 2, none⟩ = some (.slice A L.length c) := hblk.cell 2
  go_enter Tryd.func31, Tryd.ntmps31
  go_wp2
  go_loopw [3, 4] (fun f i wr => ∃ (k : Nat) (b : Int) (n : Nat), k ≤ L.length ∧ i = .int .i64 k ∧ f = .int .i64 b ∧ FirstIs (L.map dd) k b ∧ wr = w.drewN n) (fun _ i _ => L.length - (intOf i).toNat)
  case atStart => exact ⟨0, -1, 0, Nat.zero_le _, rfl, rfl, Or.inl ⟨rfl, rfl⟩, rfl⟩
  case round =>
    obtain ⟨k, b, n, hk, rfl, rfl, hf, rfl⟩ := hrel
    by_cases hlt : k < L.length
    · obtain ⟨bb, off, y, rfl, hbb, hy, hcc⟩ := hrd.chunk c5 5 (by omega) len5 hlt
      have d1 : w.cell? ⟨bb, off + k * 5 + 3, none⟩ = some (.int .i64 y.at_) := hcc 3 _ rfl
      have hlt' : (k : Int) < (L.length : Int) := by omega
      have hym : (L.map dd)[k]? = some (dd y) := by rw [List.getElem?_map, hy]; rfl
      rcases hf with ⟨rfl, rfl⟩ | ⟨i, rfl, hbest⟩
      · have HF := Lib.hid (best_start (L := L.map dd) (by simp; omega))
        clear hcc hy hym
        go_wp2
        go_quiet (fail)
        go_wp2
        exact ⟨⟨1, 0, n + nq, by omega, by go_num, rfl, Or.inr ⟨0, rfl, HF.out⟩, by simp⟩, by simp [intOf]; omega⟩
      · obtain ⟨x', hx, hbk, _, _⟩ := id hbest
        rw [List.getElem?_map] at hx
        obtain ⟨x, hxl, rfl⟩ := Option.map_eq_some_iff.1 hx
        have hjl := (List.getElem?_eq_some_iff.1 hxl).1
        obtain ⟨bb', off', x', hA, _, hx', hcc'⟩ := hrd.chunk c5 5 (by omega) len5 hjl
        cases hA
        rw [hxl] at hx'
        cases hx'
        have e1 : w.cell? ⟨bb, off + i * 5 + 3, none⟩ = some (.int .i64 x.at_) := hcc' 3 _ rfl
        have hi0 : ¬ (i : Int) < 0 := by omega
        have hxm : (L.map dd)[i]? = some (dd x) := by rw [List.getElem?_map, hxl]; rfl
        by_cases hc : y.at_ < x.at_
        · have HF := Lib.hid (best_new hbest hxm hym hc)
          clear hbest hx hxl hcc hcc' hy hym hxm
          go_wp2
          go_quiet (fail)
          go_wp2
          exact ⟨⟨k + 1, k, n + nq, by omega, by go_num, rfl, Or.inr ⟨k, rfl, HF.out⟩, by simp⟩, by simp [intOf]; omega⟩
        · have HF := Lib.hid (best_old hbest hxm hym hc)
          clear hbest hx hxl hcc hcc' hy hym hxm
          go_wp2
          go_quiet (fail)
          go_wp2
          exact ⟨⟨k + 1, i, n + nq, by omega, by go_num, rfl, Or.inr ⟨i, rfl, HF.out⟩, by simp⟩, by simp [intOf]; omega⟩
    · have e : k = L.length := by omega
      subst e
      have HF := Lib.hid hf
      clear hf
      go_wp2
      go_ret
      exact ⟨⟨b, HF.out, rfl⟩, n, rfl⟩
end AskR
end Go.Proofs.YtdpppljobikjhaaDoor
