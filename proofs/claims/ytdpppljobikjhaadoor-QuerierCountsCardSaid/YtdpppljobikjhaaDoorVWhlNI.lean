/-
  Wheel[int]: the walk of Next.
-/
import Derived.Test.YtdpppljobikjhaaDoorVWhlI
import Derived.Test.YtdpppljobikjhaaDoorWhlMin
import Derived.Test.YtdpppljobikjhaaDoorTimR
import Derived.Sort.MapsRangeIn
namespace Go.Proofs.YtdpppljobikjhaaDoor
set_option linter.unusedVariables false
set_option linter.unusedSimpArgs false
open Go.RowKit Go.Maps
namespace WhlI
open Whl WhlC
def kv (k : Int) : Value := (.int .i64 k)
theorem invK (key : Value) (kl' : Lit) (h : Go.keyOf Tryd.prog 3 key = some kl') : ∃ x, key = kv x := by
  obtain ⟨x, h1, _⟩ := Maps.keyOf_int_inv Tryd.underlying3 h
  exact ⟨x, h1⟩
theorem kvK (y : Int) (kl' : Lit) (h : Go.keyOf Tryd.prog 3 (kv y) = some kl') : kl' = kl y := by
  obtain ⟨x, h1, h2, _⟩ := Maps.keyOf_int_inv Tryd.underlying3 h
  have h1' : y = x := by simpa [kv] using h1
  rw [h2, h1']; rfl
theorem kvWf (y : Int) (kl' : Lit) (h : Go.keyOf Tryd.prog 3 (kv y) = some kl') : (Lit.int .i64 y).wf = true := by
  obtain ⟨x, h1, h2, h3⟩ := Maps.keyOf_int_inv Tryd.underlying3 h
  have h1' : y = x := by simpa [kv] using h1
  rw [h1']; exact h3
/-- when the first one is due -/
def NextIs (ts : List Tm) (m : Int) : Prop := (∃ x ∈ ts, x.2.1 = m) ∧ ∀ x ∈ ts, m ≤ x.2.1
theorem oneT (x : Tt) : ∀ u ∈ cellsTt x, u.oneCell' = true := by
  intro u hu
  simp [cellsTt] at hu
  rcases hu with rfl | rfl <;> rfl
theorem fieldT (a t : Int) (w : World) : (Instr.field 99 (.agg #[.int .i64 a, .int .i64 t]) 0).run Tryd.prog w = .ok (.int .i64 a) w := by kernel_rfl
theorem infoT : (Tryd.prog.info? 99).map (fun i => (i.zero, i.size, i.bytes)) = some (some (.agg #[.int .i64 0, .int .i64 0]), 2, 16) := by kernel_rfl
theorem minTo_le (x0 : Tt) : ∀ (xs : List Tt), (xs.foldl WhlC.stepT x0).1 ≤ x0.1 ∧ (∀ x ∈ xs, (xs.foldl WhlC.stepT x0).1 ≤ x.1) ∧ (xs.foldl WhlC.stepT x0 = x0 ∨ xs.foldl WhlC.stepT x0 ∈ xs) := by
  intro xs
  induction xs generalizing x0 with
  | nil => simp
  | cons y r ih =>
    obtain ⟨h1, h2, h3⟩ := ih (WhlC.stepT x0 y)
    have hs : (WhlC.stepT x0 y).1 ≤ x0.1 ∧ (WhlC.stepT x0 y).1 ≤ y.1 ∧ (WhlC.stepT x0 y = x0 ∨ WhlC.stepT x0 y = y) := by
      unfold WhlC.stepT
      split
      · rename_i h
        refine ⟨?_, Int.le_refl _, Or.inr rfl⟩
        unfold cmpT or2 cmpI at h
        (repeat' split at h) <;> omega
      · rename_i h
        refine ⟨Int.le_refl _, ?_, Or.inl rfl⟩
        unfold cmpT or2 cmpI at h
        (repeat' split at h) <;> omega
    rw [List.foldl_cons]
    refine ⟨by omega, fun x hx => ?_, ?_⟩
    · rcases List.mem_cons.1 hx with rfl | hx
      · omega
      · exact h2 x hx
    · rcases h3 with h3 | h3
      · rw [h3]
        rcases hs.2.2 with h4 | h4
        · exact Or.inl h4
        · exact Or.inr (by rw [h4]; simp)
      · exact Or.inr (List.mem_cons_of_mem _ h3)
theorem nextIs_of {ts dn : List Tm} (hp : dn.Perm ts) {x0 : Tt} (h0 : (dn.map (·.2))[0]? = some x0) : NextIs ts (minTo x0 (dn.map (·.2)) (dn.map (·.2)).length).1 := by
  have hx0 : x0 ∈ dn.map (·.2) := List.mem_of_getElem? h0
  unfold minTo
  rw [List.take_length]
  obtain ⟨h1, h2, h3⟩ := minTo_le x0 (dn.map (·.2))
  constructor
  · have : (dn.map (·.2)).foldl WhlC.stepT x0 ∈ dn.map (·.2) := by
      rcases h3 with h3 | h3
      · rw [h3]; exact hx0
      · exact h3
    obtain ⟨x, hx, e⟩ := List.mem_map.1 this
    exact ⟨x, hp.mem_iff.1 hx, by rw [← e]⟩
  · intro x hx
    exact h2 _ (List.mem_map.2 ⟨x, hp.mem_iff.2 hx, rfl⟩)
theorem next_none (w : World) (g b : Nat) (room turn : Int) (h : At w g b room turn []) :
    Calls Tryd.prog 27 #[.pointer (some ⟨g, 0, none⟩)] w fun e w' => e = .returned (.tuple #[.int .i64 0, .bool false]) ∧ Below w.heap.size w w' := by
  go_enter Tryd.func27, Tryd.ntmps27
  go_wp2_with (first
    | (go_at_call 40; refine (len_ _ g b room turn [] h).mono ?_; rintro _ _ ⟨rfl, rfl⟩)
    | go_in)
  go_ret2
  exact ⟨rfl, by repeat (first | exact Below.refl _ _ | apply Below.drew | (refine Below.alloc ?_ (by simp <;> omega) _) | (refine Below.setCell ?_ (by simp <;> omega) _))⟩
set_option maxHeartbeats 4000000 in
set_option maxRecDepth 20000 in
theorem next_ (w : World) (g b : Nat) (room turn : Int) (ts : List Tm) (h : At w g b room turn ts) (hd : ts.Pairwise fun x y => x.1 ≠ y.1) (hn : ts.length ≤ 5000) (hne : 0 < ts.length) :
    Calls Tryd.prog 27 #[.pointer (some ⟨g, 0, none⟩)] w fun e w' => (∃ m, NextIs ts m ∧ e = .returned (.tuple #[.int .i64 m, .bool true])) ∧ Below w.heap.size w w' := by
  have c2 : w.cell? ⟨g, 2, none⟩ = some (.map (some b)) := h.blk.cell 2
  have hm := h.map
  have hb := h.lt.2
  have hln : ((ts.length : Int) == 0) = false := by rw [beq_eq_false_iff_ne]; omega
  obtain ⟨i0, hi, hz0, hz1, hz2⟩ := info_parts infoT
  go_enter Tryd.func27, Tryd.ntmps27
  go_wp2_with (first
    | (go_at_call 40; refine (len_ _ g b room turn ts h).mono ?_; rintro _ _ ⟨rfl, rfl⟩)
    | (at_range; refine wpList_rangeT _ rfl _ _ rfl 3 99 law Tryd.underlying95 klOk b ts rfl hm ?_; intro w0 hrg0 hg0 hs0)
    | go_in)
  go_frame
  go_loopw [4] (fun v wr => ∃ dn : List Tm, wr.ownsRow (w.heap.size + 1) 99 2 v dn.length ((dn.map (·.2)).flatMap cellsTt) ∧ RgT Tryd.prog 3 kl wr b w.heap.size ts dn ∧ Below w.heap.size w wr)
    (fun _ wr => wr.rangeLeft b w.heap.size)
  case atStart => exact ⟨[], ⟨by simp, .inl ⟨rfl, rfl⟩⟩, hrg0, Keep.below (Keep.of_grown (xs := []) hg0 (by simp)) (Nat.le_refl _) (by simp)⟩
  case round =>
    obtain ⟨dn, hown, hrg, hbel⟩ := hrel
    go_wp2_with (first
      | (at_next; refine wpList_nextT _ rfl _ rfl 3 law klOk kv invK kvK b w.heap.size ts dn hd rfl hrg ?_ ?_)
      | go_in)
    · intro hp
      have hlen := hp.length_eq
      obtain ⟨gq, cap, rfl, hgq, hcap, hcm, hrow⟩ := Row.of_own hown (by omega)
      obtain ⟨x0, hx0⟩ : ∃ x0, (dn.map (·.2))[0]? = some x0 := ⟨_, List.getElem?_eq_getElem (by simp; omega)⟩
      have HN := Lib.hid (nextIs_of hp hx0)
      have hml : (dn.map (·.2)).length = dn.length := by simp
      have hbz := hbel.size
      have hx5 : (dn.map (·.2)).length ≤ 5000 := by omega
      rw [← hml]
      clear hml hown hlen hp hrg
      generalize dn.map (·.2) = xs at *
      have hfield := fieldT (minTo x0 xs xs.length).1 (minTo x0 xs xs.length).2
      go_wp2_with (first
        | (go_at_call 41; refine (min_ gq cap x0 xs _ hx0 hx5 hrow).mono ?_; rintro e wm ⟨rfl, hbm⟩)
        | go_in)
      go_ret2
      exact ⟨⟨_, HN.out, rfl⟩, hbel.trans (hbm.mono hbz)⟩
    · intro x0 x1 x2 w1 hx hrg1 hlt1 hg1 hsz1 hen
      have hlen := hrg1.dn_le
      rw [List.length_append, List.length_singleton] at hlen
      have hbz := hbel.size
      have q3 : dn.length + 1 ≤ maxLen := by unfold maxLen; omega
      have q4 : (dn.length + 1) * 16 ≤ 140737488355328 := by omega
      have hr0 := hrg.lt
      obtain ⟨A', c', rfl, _⟩ := own_form hown
      have hown1 := hown.kept hg1 (Or.inr (own_ne hown (Nat.lt_succ_self _)))
      go_wp2_with (first
        | (at_builtin; refine wpList_append_own _ rfl (.tmp 19) (.tmp 21) 101 rfl (w.heap.size + 1) 99 i0 _ 2 16 Tryd.underlying101 hi hz0 hz1 hz2 rfl (by omega) (.slice A' dn.length c') _ _ rfl ((hown1.alloc _).alloc _) ⟨wr.heap.size + 1, 0, none⟩ 1 1 (cellsTt (x1, x2)) rfl rfl (new_cells' _ (cellsTt (x1, x2)) 99 _ (by simp [hsz1])) (oneT _) q3 q4 (by simp; omega) ?_; intro v' w9 hown' hgrow _)
        | go_in)
      go_roundw
      case rel =>
        refine ⟨dn ++ [(x0, x1, x2)], ?_, ?_, ?_⟩
        · rw [List.length_append, List.map_append, List.flatMap_append]
          simpa using hown'
        · refine ((hrg1.alloc _).alloc _).kept hgrow ?_ ?_
          · exact fun e => own_ne hown (b := b) (by omega) e.symm
          · exact fun e => own_ne hown (b := w.heap.size) (by omega) e.symm
        · have hb1 : Below w.heap.size w w1 := hbel.grown hg1 hbz (fun q hq => by cases hq; exact Nat.le_refl _)
          have hz1' := hb1.size
          exact ((hb1.alloc hz1' _).alloc (by simp; omega) _).grown hgrow (by simp; omega) (fun q hq => by have := own_from hown q hq; omega)
      case measure =>
        have e2 := (((hrg1.alloc _).alloc _).left_kept hgrow (fun e => own_ne hown (b := b) (by omega) e.symm) (fun e => own_ne hown (b := w.heap.size) (by omega) e.symm))
        rw [e2, (hrg1.alloc _).left_alloc, hrg1.left_alloc]
        exact hlt1
end WhlI
end Go.Proofs.YtdpppljobikjhaaDoor
