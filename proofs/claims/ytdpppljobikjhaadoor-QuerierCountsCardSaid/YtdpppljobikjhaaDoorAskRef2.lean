/-
  The document's questions that wait: what its calls leave as it was; the walk of Add.
-/
import Derived.Test.YtdpppljobikjhaaDoorAskRef
import Derived.Deep.RegionLaw
import Derived.OneCell
namespace Go.Proofs.YtdpppljobikjhaaDoor
set_option linter.unusedVariables false
set_option linter.unusedSimpArgs false
open Go.RowKit Go.Maps
namespace AskR
open Go.Proofs.YtdpppljobikjhaaDoor.Ask
/-- what lies below, and blocks of other things, stay as they were -/
structure Safe (q : Nat) (w w' : World) : Prop where
  low : Below q w w'
  size : w.heap.size ≤ w'.heap.size
  blk : ∀ bx T cs, Blk w bx T cs → 81 ≠ T → bx ≠ q → Blk w' bx T cs
section
variable {q : Nat} {a b c : World}
theorem Safe.refl (q : Nat) (w : World) : Safe q w w := ⟨Below.refl _ _, Nat.le_refl _, fun _ _ _ h _ _ => h⟩
theorem Safe.trans (h : Safe q a b) (k : Safe q b c) : Safe q a c := ⟨h.low.trans k.low, Nat.le_trans h.size k.size, fun bx T cs hB hT hq => k.blk bx T cs (h.blk bx T cs hB hT hq) hT hq⟩
theorem Safe.below (h : Safe q a b) (hb : Below b.heap.size b c) (hq : q ≤ a.heap.size) : Safe q a c := ⟨h.low.trans (hb.mono (by have := h.size; omega)), Nat.le_trans h.size hb.size, fun bx T cs hB hT hne => (h.blk bx T cs hB hT hne).below hb (h.blk bx T cs hB hT hne).lt⟩
theorem Safe.drewN (h : Safe q a b) (n : Nat) : Safe q a (b.drewN n) := ⟨below_drewN h.low n, h.size, fun bx T cs hB hT hne => (h.blk bx T cs hB hT hne).drewN n⟩
theorem Safe.alloc (h : Safe q a b) (hq : q ≤ b.heap.size) (o : Obj) : Safe q a (b.alloc o) := ⟨h.low.alloc hq o, by have := h.size; simp; omega, fun bx T cs hB hT hne => (h.blk bx T cs hB hT hne).alloc o⟩
theorem Safe.grown (h : Safe q a b) {base n : Nat} {v : Value} {xs : List Value} (hown : b.ownsRow base 81 5 v n xs) (hb : q ≤ base) (hq : q ≤ b.heap.size) (hg : b.grownBy c v.ownBlock) : Safe q a c :=
  ⟨h.low.grown hg hq (fun x hx => by have := own_from hown x hx; omega), Nat.le_trans h.size hg.size, fun bx T cs hB hT hne => (h.blk bx T cs hB hT hne).grown hg (fun e => own_blk_ne hown (h.blk bx T cs hB hT hne) hT e.symm)⟩
/-- what grew was made since -/
theorem Safe.grownN (h : Safe q a b) {row : Option Nat} (hr : ∀ g, row = some g → a.heap.size ≤ g) (hq : q ≤ a.heap.size) (hg : b.grownBy c row) : Safe q a c :=
  ⟨h.low.grown hg (by have := h.size; omega) (fun x hx => by have := hr x hx; omega), Nat.le_trans h.size hg.size, fun bx T cs hB hT hne => (h.blk bx T cs hB hT hne).grown hg (fun e => by have := hr _ e.symm; have := hB.lt; omega)⟩
theorem Safe.set_ (h : Safe q a b) (i : Nat) (u : Value) : Safe q a (b.setCell ⟨q, i, none⟩ u) := ⟨h.low.setCell (Nat.le_refl _) u, by have := h.size; simpa [World.setCell] using this, fun bx T cs hB hT hne => (h.blk bx T cs hB hT hne).far hne u⟩
theorem Safe.setN (h : Safe q a b) {p : Addr} (hp : a.heap.size ≤ p.block) (hq : q ≤ a.heap.size) (u : Value) : Safe q a (b.setCell p u) := ⟨h.low.setCell (by omega) u, by have := h.size; simpa [World.setCell] using this, fun bx T cs hB hT hne => (h.blk bx T cs hB hT hne).far (fun e => by have := hB.lt; omega) u⟩
theorem Safe.own (h : Safe q a b) {base n size : Nat} {e : TypeId} {v : Value} {xs : List Value} (ho : a.ownsRow base e size v n xs) (he : 81 ≠ e) (hb : q < base) : b.ownsRow base e size v n xs := by
  obtain ⟨h1, h2⟩ := ho
  refine ⟨h1, ?_⟩
  rcases h2 with h2 | ⟨g, cap, cur, rfl, hg, hh, hr⟩
  · exact .inl h2
  · exact .inr ⟨g, cap, cur, rfl, hg, h.blk g e cur hh he (by omega), hr⟩
end
def addL (L : List Dw) (q : Qn) (A : Option Addr) (n c : Nat) (now count : Int) : List Dw := L ++ [⟨q, A, n, c, now, count⟩]
theorem radd_bad (w : World) (q : Nat) (qu : Value) (now : Int) (v1 v2 v3 : Value) (hq : qu = .agg #[v1, v2, v3]) (h : Q.inB now 0 1099511627776 = false) :
    Calls Tryd.prog 15 #[.pointer (some ⟨q, 0, none⟩), qu, .int .i64 now] w fun e w' => e = .returned (.int .i64 1) ∧ Below w.heap.size w w' := by
  subst hq
  have htm := rtime_ now
  rw [h] at htm
  go_enter Tryd.func15, Tryd.ntmps15
  go_wp2_with (first
    | (go_at_call 26; refine (htm _).mono ?_; rintro e w1 ⟨rfl, rfl⟩)
    | go_in)
  go_ret
  exact ⟨rfl, by repeat (first | exact Below.refl _ _ | apply Below.drew | (refine Below.alloc ?_ (by simp <;> omega) _) | (refine Below.setCell ?_ (by simp <;> omega) _))⟩
theorem radd_full (w : World) (q : Nat) (count gap : Int) (L : List Dw) (hat : RAt w q count gap L) (hl : 200 ≤ L.length) (qu : Value) (now : Int) (v1 v2 v3 : Value) (hq : qu = .agg #[v1, v2, v3]) (h : Q.inB now 0 1099511627776 = true) :
    Calls Tryd.prog 15 #[.pointer (some ⟨q, 0, none⟩), qu, .int .i64 now] w fun e w' => e = .returned (.int .i64 5) ∧ Below w.heap.size w w' := by
  subst hq
  have htm := rtime_ now
  rw [h] at htm
  have hql := hat.lt
  obtain ⟨v, hblk, hown⟩ := hat
  obtain ⟨A, c, rfl, _⟩ := own_form hown
  have c2 : w.cell? ⟨q, 2, none⟩ = some (.slice A L.length c) := hblk.cell 2
  have hl' : (200 : Int) ≤ (L.length : Int) := by omega
  clear hblk hown
  go_enter Tryd.func15, Tryd.ntmps15
  go_wp2_with (first
    | (go_at_call 26; refine (htm _).mono ?_; rintro e w1 ⟨rfl, rfl⟩)
    | go_in)
  go_ret
  exact ⟨rfl, by repeat (first | exact Below.refl _ _ | apply Below.drew | (refine Below.alloc ?_ (by simp <;> omega) _) | (refine Below.setCell ?_ (by simp <;> omega) _))⟩
set_option maxHeartbeats 4000000 in
set_option maxRecDepth 20000 in
theorem radd_ok (w : World) (q : Nat) (count gap : Int) (L : List Dw) (hat : RAt w q count gap L) (hl : L.length < 200) (x : Qn) (A : Option Addr) (n c : Nat) (now : Int) (h : Q.inB now 0 1099511627776 = true) :
    Calls Tryd.prog 15 #[.pointer (some ⟨q, 0, none⟩), .agg #[.int .i64 x.v, .string x.g, .slice A n c], .int .i64 now] w fun e w' => e = .returned (.int .i64 0) ∧ Safe q w w' ∧ RAt w' q count gap (addL L x A n c now count) := by
  have htm := rtime_ now
  rw [h] at htm
  have hql := hat.lt
  obtain ⟨i0, hi, hz0, hz1, hz2⟩ := info_parts info5
  have q3 : L.length + 1 ≤ maxLen := by unfold maxLen; omega
  have q4 : (L.length + 1) * 64 ≤ 140737488355328 := by omega
  obtain ⟨v, hblk, hown⟩ := hat
  have HBLK := Lib.hid hblk
  have HOWN := Lib.hid hown
  obtain ⟨A', c', rfl, _⟩ := own_form hown
  have c2 : w.cell? ⟨q, 2, none⟩ = some (.slice A' L.length c') := hblk.cell 2
  have c0 : w.cell? ⟨q, 0, none⟩ = some (.int .i64 count) := hblk.cell 0
  have hl' : ¬ (200 : Int) ≤ (L.length : Int) := by omega
  have hx1 := Lib.hid ((Keep.refl [] w).alloc (.cells #[.int .i64 x.v, .string x.g, .slice A n c] 48))
  clear hblk hown
  go_enter Tryd.func15, Tryd.ntmps15
  go_wp2_with (first
    | (go_at_call 26; refine (htm _).mono ?_; rintro e w1 ⟨rfl, rfl⟩)
    | go_in)
  have hW := (Keep.refl [] w).alloc (.cells #[.int .i64 x.v, .string x.g, .slice A n c] 48)
  have hsafe := (Safe.refl q w).alloc (Nat.le_of_lt hql) (.cells #[.int .i64 x.v, .string x.g, .slice A n c] 48)
  have hbx := Blk.new w 48 #[.int .i64 x.v, .string x.g, .slice A n c]
  have hwz : w.heap.size < (w.alloc (.cells #[.int .i64 x.v, .string x.g, .slice A n c] 48)).heap.size := by simp
  have hblk := HBLK.out.alloc (.cells #[.int .i64 x.v, .string x.g, .slice A n c] 48)
  have hown := HOWN.out.alloc (.cells #[.int .i64 x.v, .string x.g, .slice A n c] 48)
  clear c2 c0 hx1
  generalize w.alloc (.cells #[.int .i64 x.v, .string x.g, .slice A n c] 48) = W at *
  have c2 : W.cell? ⟨q, 2, none⟩ = some (.slice A' L.length c') := hblk.cell 2
  have c0 : W.cell? ⟨q, 0, none⟩ = some (.int .i64 count) := hblk.cell 0
  have x0 : W.cell? ⟨w.heap.size, 0, none⟩ = some (.int .i64 x.v) := hbx.cell 0
  have x1 : W.cell? ⟨w.heap.size, 1, none⟩ = some (.string x.g) := hbx.cell 1
  have x2 : W.cell? ⟨w.heap.size, 2, none⟩ = some (.slice A n c) := hbx.cell 2
  have f2 := hblk.frozen 2
  have hqW : q < W.heap.size := hblk.lt
  have hnew : ∀ w9 : World, ((W.alloc (.cells #[.int .i64 x.v, .string x.g, .slice A n c, .int .i64 now, .int .i64 count] 81)).drew).grownBy w9 (Value.slice A' L.length c').ownBlock → Blk w9 q 45 #[.int .i64 count, .int .i64 gap, .slice A' L.length c'] ∧ Safe q w w9 := fun w9 hg =>
    ⟨((hblk.alloc _).drew).grown hg (fun e => own_ne hown (Nat.lt_succ_self q) e.symm), ((hsafe.alloc (by omega) _).drewN 1).grown (hown.alloc _) (Nat.le_succ _) (by simp; omega) hg⟩
  have HNEW := Lib.hid hnew
  have HOW := Lib.hid hown
  clear hW hsafe hbx hblk hown hnew
  go_region_law (first
    | (refine step_append_lies _ (by rfl) _ _ _ (by rfl) (q + 1) 81 i0 _ 5 64 Tryd.underlying43 hi hz0 hz1 hz2 rfl (by omega) _ L.length _ (by rfl) ((HOW.out.alloc _).drew) ⟨W.heap.size, 0, none⟩ 1 1 (c5 ⟨x, A, n, c, now, count⟩) (by rfl) (by rfl) (new_cells W (c5 ⟨x, A, n, c, now, count⟩) 81) (one5 _) (by omega) q3 q4 (Nat.le_trans (show q + 1 ≤ W.heap.size + 1 by omega) (by show W.heap.size + 1 ≤ (W.alloc _).heap.size; simp)) (W.heap.size + 1) (by simp) ?_; intro gg cap2 w9 hown' hgrow hat9 hlt9; have hb9 := (HNEW.out w9 hgrow).1; have k9 : w9.cell? ⟨q, 2, none⟩ = _ := hb9.cell 2; have f9 := hb9.frozen 2))
  all_goals
    go_wp2
    go_ret
    refine ⟨rfl, (HNEW.out w9 hgrow).2.set_ 2 _, _, (HNEW.out w9 hgrow).1.set_ 2 _, ?_⟩
    have h9 := ownsRow_setCell_other hown' (a := ⟨q, 2, none⟩) (own_ne hown' (Nat.lt_succ_self q)) (.slice (some ⟨gg, 0, none⟩) (L.length + 1) cap2)
    unfold addL
    rw [List.length_append, List.flatMap_append]
    simpa using h9
end AskR
end Go.Proofs.YtdpppljobikjhaaDoor
