/-
  Questions that wait, in memory: querier.Asks as a word, and the walks of own, NewAsks and Len.
-/
import Derived.Test.YtdpppljobikjhaaDoorAskMath
import Derived.Test.YtdpppljobikjhaaDoorMapR
import Derived.Laws.CopyOwn
namespace Go.Proofs.YtdpppljobikjhaaDoor
set_option linter.unusedVariables false
set_option linter.unusedSimpArgs false
open Go.RowKit Go.Maps
namespace Ask
open Whl Mp
/-- a question that waits, as the program keeps it -/
structure Pw where
  key : Int
  q : Qn
  sl : Option (Nat × Nat)
  at_ : Int
  turn : Int
  left : Int
def doc (x : Pw) : Wait := ⟨x.q, x.at_, x.left⟩
def tim (x : Pw) : Ti Int := (x.key, x.at_, x.turn)
def slV : Option (Nat × Nat) → Value
  | some (s, n) => .slice (some ⟨s, 0, none⟩) n n
  | none => .slice none 0 0
def slD : Option (Nat × Nat) → DataW Unit
  | some (s, n) => .agg [.lit (.int .i64 s), .lit (.int .i64 n)]
  | none => .agg []
def valW (x : Pw) : Value := .agg #[.int .i64 x.q.v, .string x.q.g, slV x.sl, .int .i64 x.left]
def datW (x : Pw) : DataW Unit := .agg [.lit (.int .i64 x.q.v), .lit (.string x.q.g.data.toList), slD x.sl, .lit (.int .i64 x.left)]
theorem slV_inj {a b : Option (Nat × Nat)} (h : slV a = slV b) : slD a = slD b := by
  cases a with
  | none => cases b with
    | none => rfl
    | some b => simp [slV] at h
  | some a => cases b with
    | none => simp [slV] at h
    | some b =>
      obtain ⟨a1, a2⟩ := a
      obtain ⟨b1, b2⟩ := b
      simp [slV] at h
      obtain ⟨e1, e2⟩ := h
      subst e1; subst e2; rfl
theorem slD_inj {a b : Option (Nat × Nat)} (h : slD a = slD b) : slV a = slV b := by
  cases a with
  | none => cases b with
    | none => rfl
    | some b => simp [slD] at h
  | some a => cases b with
    | none => simp [slD] at h
    | some b =>
      obtain ⟨a1, a2⟩ := a
      obtain ⟨b1, b2⟩ := b
      simp [slD] at h
      obtain ⟨e1, e2⟩ := h
      have e1' : a1 = b1 := by omega
      have e2' : a2 = b2 := by omega
      subst e1'; subst e2'; rfl
theorem bytes_inj {a b : ByteArray} (h : a.data.toList = b.data.toList) : a = b := by
  have e := Array.toList_inj.1 h
  cases a; cases b; cases e; rfl
theorem valW_inj {x y : Pw} (h : valW x = valW y) : datW x = datW y := by
  simp only [valW, Value.agg.injEq, Array.mk.injEq, List.cons.injEq, Value.int.injEq, Value.string.injEq, true_and, and_true] at h
  obtain ⟨e1, e2, e3, e4⟩ := h
  unfold datW
  rw [e1, e2, slV_inj e3, e4]
open Classical in
noncomputable def RW (v : Value) : Option (DataW Unit × List MemPlace) := if h : ∃ x : Pw, v = valW x then some (datW h.choose, []) else none
theorem RW_mk (x : Pw) : RW (valW x) = some (datW x, []) := by
  have h : ∃ y : Pw, valW x = valW y := ⟨x, rfl⟩
  unfold RW
  rw [dif_pos h, valW_inj h.choose_spec.symm]
noncomputable def E : Enc Int Pw where
  key x := x.key
  kl := WhlI.kl
  val := valW
  dat := datW
  R := RW
  out := RW_mk
  inv := by
    intro v y h
    unfold RW at h
    split at h
    · rename_i hx
      injection h with h
      exact ⟨hx.choose, hx.choose_spec, h.symm⟩
    · cases h
  inj := by
    intro x y h
    simp only [datW, DataW.agg.injEq, List.cons.injEq, DataW.lit.injEq, Lit.int.injEq, Lit.string.injEq, true_and, and_true] at h
    obtain ⟨e1, e2, e3, e4⟩ := h
    show valW x = valW y
    unfold valW
    rw [e1, bytes_inj e2, slD_inj e3, e4]
theorem sameE : Same E := WhlI.klOk.same
theorem zeroW (w : World) : (zeroValue 79).run Tryd.prog w = .ok (E.val ⟨0, ⟨0, ByteArray.empty, []⟩, none, 0, 0, 0⟩) w := by kernel_rfl
/-- its sources lie in a block of their own, above -/
def Src (w : World) (g : Nat) (x : Pw) : Prop := ∃ s, x.sl = some (s, x.q.ss.length) ∧ g < s ∧ Blk w s 22 (x.q.ss.map Value.string).toArray
/-- the questions in memory, less the wheel -/
structure Bk (w : World) (g gw bw bm : Nat) (count gap turn : Int) (ws : List Pw) : Prop where
  blk : Blk w g 75 #[.int .i64 count, .int .i64 gap, .int .i64 turn, .pointer (some ⟨gw, 0, none⟩), .map (some bm)]
  map : Has E Tryd.prog 3 w bm ws
  src : ∀ x ∈ ws, Src w g x
  apart : Apart E ws
  top : ∀ x ∈ ws, 0 ≤ x.key ∧ x.key ≤ turn
  lw : gw < g
  lb : bw < g
  lm : bm < g
  n1 : bm ≠ gw
  n2 : bm ≠ bw
structure At (w : World) (g gw bw bm : Nat) (count gap turn tu : Int) (ts ws : List Pw) : Prop where
  bk : Bk w g gw bw bm count gap turn ws
  on : WhlI.On w gw bw 200 tu (ts.map tim)
  sub : ∀ x ∈ ts, x ∈ ws
section
variable {w w' : World} {g gw bw bm : Nat} {count gap turn tu : Int} {ts ws : List Pw}
theorem Src.keep {ys : List Nat} {x : Pw} (h : Src w g x) (hk : Keep ys w w') (hy : ∀ y ∈ ys, y ≤ g ∨ w.heap.size ≤ y) : Src w' g x := by
  obtain ⟨s, h1, h2, h3⟩ := h
  have hl := h3.lt
  exact ⟨s, h1, h2, Keep.blk hk h3 (fun hm => by have := hy s hm; omega)⟩
theorem Bk.keep {ys : List Nat} (h : Bk w g gw bw bm count gap turn ws) (hk : Keep ys w w') (hy : ∀ y ∈ ys, y < g ∧ y ≠ bm ∨ w.heap.size ≤ y) : Bk w' g gw bw bm count gap turn ws :=
  ⟨Keep.blk hk h.blk (fun hm => by have := hy g hm; have := h.blk.lt; omega), h.map.block (hk.block bm h.map.lt (fun hm => by have := hy bm hm; have := h.map.lt; omega)), fun x hx => (h.src x hx).keep hk (fun y hm => by have := hy y hm; omega), h.apart, h.top, h.lw, h.lb, h.lm, h.n1, h.n2⟩
theorem At.keep {ys : List Nat} (h : At w g gw bw bm count gap turn tu ts ws) (hk : Keep ys w w') (hy : ∀ y ∈ ys, w.heap.size ≤ y) : At w' g gw bw bm count gap turn tu ts ws :=
  ⟨h.bk.keep hk (fun y hm => Or.inr (hy y hm)), h.on.keep hk (fun hm => by have := hy _ hm; have := h.on.lt.1; omega) (fun hm => by have := hy _ hm; have := h.on.lt.2; omega), h.sub⟩
theorem At.alloc (h : At w g gw bw bm count gap turn tu ts ws) (o : Obj) : At (w.alloc o) g gw bw bm count gap turn tu ts ws := h.keep ((Keep.refl [] w).alloc o) (by simp)
theorem At.drewN (h : At w g gw bw bm count gap turn tu ts ws) (n : Nat) : At (w.drewN n) g gw bw bm count gap turn tu ts ws := h.keep ((Keep.refl [] w).drewN n) (by simp)
end
theorem len_ (w : World) (g gw bw bm : Nat) (count gap turn tu : Int) (ts ws : List Pw) (h : At w g gw bw bm count gap turn tu ts ws) :
    Calls Tryd.prog 19 #[.pointer (some ⟨g, 0, none⟩)] w fun e w' => e = .returned (.int .i64 ws.length) ∧ w = w' := by
  have c4 : w.cell? ⟨g, 4, none⟩ = some (.map (some bm)) := h.bk.blk.cell 4
  have hrun : ∀ ty, (Builtin.len_ #[73] ty #[.map (some bm)]).run Tryd.prog w = .ok (.int .i64 ws.length) w := fun ty => h.bk.map.len Tryd.underlying73 ty
  go_enter Tryd.func19, Tryd.ntmps19
  go_wp2
  go_ret
  exact ⟨rfl, rfl⟩
theorem infoA : (Tryd.prog.info? 22).map (fun i => (i.zero, i.size, i.bytes)) = some (some (.string ByteArray.empty), 1, 16) := by kernel_rfl
theorem info_parts {z : Value} {s b : Nat} {P : Program} {t : TypeId} (h : (P.info? t).map (fun i => (i.zero, i.size, i.bytes)) = some (some z, s, b)) : ∃ i, P.info? t = some i ∧ i.zero = some z ∧ i.size = s ∧ i.bytes = b := by
  obtain ⟨i, hi, e⟩ := Option.map_eq_some_iff.1 h
  simp at e
  exact ⟨i, hi, e.1, e.2.1, e.2.2⟩
theorem cells_string (l : List ByteArray) : ∀ u ∈ l.map Value.string, u.oneCell' = true := by
  intro u hu
  obtain ⟨x, _, rfl⟩ := List.mem_map.1 hu
  rfl
theorem made_len (n : Nat) : (madeCells (Value.string ByteArray.empty).cells (n * 1)).toList.length = n := by
  simp [madeCells]
theorem own_whole {w : World} {base g n : Nat} {e : TypeId} {xs : List Value} (h : w.ownsRow base e 1 (.slice (some ⟨g, 0, none⟩) n n) n xs) : w.heap[g]? = some (.cells xs.toArray e (0, 0)) := by
  rcases h.2 with ⟨h0, _⟩ | ⟨g', cap, cur, hv, _, hh, _, _, hs, ht⟩
  · cases h0
  · cases hv
    have e1 : cur.toList = xs := by
      rw [← ht, List.take_of_length_le]
      simp [hs]
    rw [hh, ← e1]
theorem own_len {w : World} {base n : Nat} {e : TypeId} {v : Value} {xs : List Value} (h : w.ownsRow base e 1 v n xs) : xs.length = n := by
  have := h.1
  simpa using this
theorem below_of_grown {a b : World} (h : a.grownBy b none) : Below a.heap.size a b := ⟨h.os, h.tape, h.output, h.size, fun i hi => h.block i hi (by simp)⟩
theorem read_all {w : World} {B n : Nat} {A : Option Addr} {xs : List Value} (h : Reads w B 1 A n xs) (h0 : 0 < n) : ∃ ad, A = some ad ∧ ∀ j v, xs[j]? = some v → w.cell? (ad.add j) = some v := by
  obtain ⟨ad, e, _, hc⟩ := h.2 h0
  exact ⟨ad, e, hc⟩
theorem splice_all {L cs : List Value} (h : L.length = cs.length) : splice L 0 cs = cs := by
  unfold splice
  rw [List.take_zero, List.nil_append, Nat.zero_add, List.drop_of_length_le (by omega), List.append_nil]
set_option maxRecDepth 20000 in
theorem own_ (w : World) (A : Option Addr) (n c : Nat) (ss : List ByteArray) (hr : Reads w w.heap.size 1 A n (ss.map Value.string)) (hn : n ≤ 1000) :
    Calls Tryd.prog 25 #[.slice A n c] w fun e w' => e = .returned (.slice (some ⟨w.heap.size, 0, none⟩) n n) ∧ Blk w' w.heap.size 22 (ss.map Value.string).toArray ∧ Below w.heap.size w w' := by
  obtain ⟨i0, hi, hz0, hz1, hz2⟩ := info_parts infoA
  have hl : ss.length = n := by have := hr.1; simpa using this
  have b2 : i0.bytes * n ≤ 281474976710656 := by rw [hz2]; omega
  have HR := Lib.hid hr
  have hsz : (Tryd.prog.info? 22).map (·.size) = some 1 := by rw [hi]; simp [hz1]
  go_enter Tryd.func25, Tryd.ntmps25
  go_wp2_with (first
    | (at_make; refine wpList_make_full _ rfl (.tmp 5) (.tmp 5) 46 rfl w.heap.size 22 i0 _ 1 Tryd.underlying46 hi hz0 hz1 .i64 .i64 _ _ n rfl rfl rfl rfl b2 (by unfold maxLen; omega) (Nat.le_refl _) ?_; intro w1 hown hg1; have HB1 := Lib.hid (own_whole hown); have HL1 := Lib.hid (own_len hown); have HG1 := Lib.hid (below_of_grown hg1); have HR1 := Lib.hid (hr.grown hg1 (Nat.le_refl _) (by simp)); clear hown hg1)
    | (refine wpList_copy_splice (o := ⟨some 9, _, _, _, _, _⟩) rfl (.tmp 7) (.tmp 8) 46 46 rfl 22 Tryd.underlying46 hsz _ _ n n n c rfl rfl w.heap.size 0 _ 22 HB1.out (ss.map Value.string) (by simp [hl]) (fun h0 => ⟨rfl, read_all HR1.out (by simpa [hl] using h0)⟩) (by rw [HL1.out]; simp [hl]) (cells_string ss) w.heap.size w HG1.out (Nat.le_refl _) ?_; intro w2 hb2 hbel2)
    | go_in)
  go_ret
  refine ⟨rfl, ?_, hbel2⟩
  have h2 := hb2.out
  rw [splice_all (by rw [HL1.out]; simp [hl])] at h2
  exact h2
end Ask
end Go.Proofs.YtdpppljobikjhaaDoor
