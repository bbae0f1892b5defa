/-
  Wheel[int] in memory, and the walks of Len, At, Cancel.
-/
import Derived.Test.YtdpppljobikjhaaDoorRows
import Derived.Test.YtdpppljobikjhaaDoorRow
import Derived.StringKeys
import Derived.Carry
import Derived.WalkLawsBesides
import Derived.WalkSpells
import Derived.RegionTactic
import Derived.StillTailTactics
import Derived.Deep.DeepCutAuto
import Derived.Test.YtdpppljobikjhaaDoorTim
namespace Go.Proofs.YtdpppljobikjhaaDoor
set_option linter.unusedVariables false
set_option linter.unusedSimpArgs false
open Go.RowKit Go.Maps
namespace WhlI
open Whl
def kl (k : Int) : Lit := .int .i64 k
theorem klKey (k : Int) : WideAt.IsKeyLit (kl k) := by
  unfold kl
  simp [WideAt.IsKeyLit]
theorem klInj {a b : Int} (h : kl a = kl b) : a = b := by
  unfold kl at h
  injection h
theorem klOk : KeyOk kl := ⟨fun a b => by
  by_cases h : a = b
  · subst h; simp [WideAt.sameKey_self (klKey a)]
  · rw [decide_eq_false h]
    cases e : (kl a).sameKey (kl b) with
    | false => rfl
    | true => exact absurd (klInj (WideAt.sameKey_eq e)) h⟩
theorem law : Keyed Tryd.prog 3 := int_keyed Tryd.underlying3
theorem zeroT (w : World) : (zeroValue 99).run Tryd.prog w = .ok (.agg #[.int .i64 0, .int .i64 0]) w := by kernel_rfl
theorem keyOf {k : Int} (hk : (Lit.int .i64 k).wf = true) : Go.keyOf Tryd.prog 3 (.int .i64 k) = some (kl k) :=keyOf_int_mk Tryd.underlying3 hk
abbrev Tm := Ti Int
structure At (w : World) (g b : Nat) (room turn : Int) (ts : List Tm) : Prop where
  blk : Blk w g 97 #[.int .i64 room, .int .i64 turn, .map (some b)]
  map : HasT Tryd.prog 3 kl w b ts
  ne : g ≠ b
theorem At.lt {w : World} {g b : Nat} {room turn : Int} {ts : List Tm} (h : At w g b room turn ts) : g < w.heap.size ∧ b < w.heap.size := ⟨h.blk.lt, h.map.lt⟩
theorem At.alloc {w : World} {g b : Nat} {room turn : Int} {ts : List Tm} (h : At w g b room turn ts) (o : Obj) : At (w.alloc o) g b room turn ts := ⟨h.blk.alloc o, h.map.alloc o, h.ne⟩
theorem At.drew {w : World} {g b : Nat} {room turn : Int} {ts : List Tm} (h : At w g b room turn ts) : At w.drew g b room turn ts := ⟨h.blk, h.map, h.ne⟩
theorem len_ (w : World) (g b : Nat) (room turn : Int) (ts : List Tm) (h : At w g b room turn ts) :
    Calls Tryd.prog 40 #[.pointer (some ⟨g, 0, none⟩)] w fun e w' => e = .returned (.int .i64 ts.length) ∧ w = w' := by
  have c2 : w.cell? ⟨g, 2, none⟩ = some (.map (some b)) := h.blk.cell 2
  obtain ⟨es, hes, hp⟩ := h.map
  have hn := HasT.size hp
  go_enter Tryd.func40, Tryd.ntmps40
  go_wp2_with (first
    | (at_len; refine wpList_len_own _ rfl _ _ rfl 3 99 Tryd.underlying95 R2 b _ _ rfl hes ?_)
    | go_in)
  go_ret
  exact ⟨rfl, rfl⟩
/-- the walk of Arm -/
def armed (room turn : Int) (ts : List Tm) (k : Int) (at_ : Int) : Option (Int × List Tm) :=
  if at_ < 0 then none else if ts.any (keyIs k) = false ∧ room ≤ ts.length then none else some (turn + 1, (ts.filter fun x => !keyIs k x) ++ [(k, at_, turn + 1)])
theorem arm_neg (w : World) (g b : Nat) (room turn : Int) (ts : List Tm) (h : At w g b room turn ts) (hd : ts.Pairwise fun x y => x.1 ≠ y.1) (k : Int) (hk : (Lit.int .i64 k).wf = true) (t : Int) (ht : t < 0) :
    Calls Tryd.prog 24 #[.pointer (some ⟨g, 0, none⟩), (.int .i64 k), .int .i64 t] w fun e w' => e = .returned (.int .i64 1) ∧ Below w.heap.size w w' := by
  have c2 : w.cell? ⟨g, 2, none⟩ = some (.map (some b)) := h.blk.cell 2
  have hm := h.map
  have hkey := keyOf hk
  go_enter Tryd.func24, Tryd.ntmps24
  go_wp2_with (first
    | (at_lookup; refine wpList_lookT_ok _ rfl _ _ _ rfl 3 99 law Tryd.underlying95 (zeroT _) klOk b ts rfl hm hd _ k rfl hkey ?_)
    | go_in)
  go_ret
  exact ⟨rfl, by repeat (first | exact Below.refl _ _ | apply Below.drew | (refine Below.alloc ?_ (by simp <;> omega) _) | (refine Below.setCell ?_ (by simp <;> omega) _))⟩
theorem arm_full (w : World) (g b : Nat) (room turn : Int) (ts : List Tm) (h : At w g b room turn ts) (hd : ts.Pairwise fun x y => x.1 ≠ y.1) (k : Int) (hk : (Lit.int .i64 k).wf = true) (t : Int) (ht : 0 ≤ t)
    (hno : ts.any (keyIs k) = false) (hr : room ≤ ts.length) :
    Calls Tryd.prog 24 #[.pointer (some ⟨g, 0, none⟩), (.int .i64 k), .int .i64 t] w fun e w' => e = .returned (.int .i64 5) ∧ Keep [] w w' := by
  have c0 : w.cell? ⟨g, 0, none⟩ = some (.int .i64 room) := h.blk.cell 0
  have c2 : w.cell? ⟨g, 2, none⟩ = some (.map (some b)) := h.blk.cell 2
  have hm := h.map
  have hb := h.blk.lt
  have hrun : ∀ (m : Nat) ty, (Builtin.len_ #[95] ty #[.map (some b)]).run Tryd.prog ((w.alloc (.cells #[.int .i64 (Whl.look ts k).1, .int .i64 (Whl.look ts k).2] 99)).drewN m) = .ok (.int .i64 ts.length) ((w.alloc (.cells #[.int .i64 (Whl.look ts k).1, .int .i64 (Whl.look ts k).2] 99)).drewN m) := fun m ty =>
    ((hm.alloc (.cells #[.int .i64 (Whl.look ts k).1, .int .i64 (Whl.look ts k).2] 99)).drewN m).len Tryd.underlying95 ty
  have hkey := keyOf hk
  have ht' : ¬ t < 0 := by omega
  have hr' : (ts.length : Int) ≥ room := hr
  go_enter Tryd.func24, Tryd.ntmps24
  go_wp2_with (first
    | (at_lookup; refine wpList_lookT_ok _ rfl _ _ _ rfl 3 99 law Tryd.underlying95 (zeroT _) klOk b ts rfl hm hd _ k rfl hkey ?_)
    | go_in)
  go_quiet (fail)
  go_wp2
  go_ret
  exact ⟨rfl, ((Keep.refl _ _).alloc _).drewN _⟩
theorem arm_ok (w : World) (g b : Nat) (room turn : Int) (ts : List Tm) (h : At w g b room turn ts) (hd : ts.Pairwise fun x y => x.1 ≠ y.1) (k : Int) (hk : (Lit.int .i64 k).wf = true) (t : Int) (ht : 0 ≤ t)
    (hr : ts.any (keyIs k) = true ∨ ts.length < room) (hn : ts.length < maxLen) (htu : 0 ≤ turn) (htm : turn < 4611686018427387904) :
    Calls Tryd.prog 24 #[.pointer (some ⟨g, 0, none⟩), (.int .i64 k), .int .i64 t] w fun e w' => e = .returned (.int .i64 0) ∧ Keep [g, b] w w' ∧ At w' g b room (turn + 1) ((ts.filter fun x => !keyIs k x) ++ [(k, t, turn + 1)]) := by
  have c0 : w.cell? ⟨g, 0, none⟩ = some (.int .i64 room) := h.blk.cell 0
  have c1 : w.cell? ⟨g, 1, none⟩ = some (.int .i64 turn) := h.blk.cell 1
  have c2 : w.cell? ⟨g, 2, none⟩ = some (.map (some b)) := h.blk.cell 2
  have f1 : w.frozen? ⟨g, 1, none⟩ = false := h.blk.frozen 1
  have hm := h.map
  have hb := h.blk.lt
  have hrun : ∀ (m : Nat) ty, (Builtin.len_ #[95] ty #[.map (some b)]).run Tryd.prog ((w.alloc (.cells #[.int .i64 (Whl.look ts k).1, .int .i64 (Whl.look ts k).2] 99)).drewN m) = .ok (.int .i64 ts.length) ((w.alloc (.cells #[.int .i64 (Whl.look ts k).1, .int .i64 (Whl.look ts k).2] 99)).drewN m) := fun m ty =>
    ((hm.alloc (.cells #[.int .i64 (Whl.look ts k).1, .int .i64 (Whl.look ts k).2] 99)).drewN m).len Tryd.underlying95 ty
  have hkey := keyOf hk
  have ht' : ¬ t < 0 := by omega
  have hw64 : wrap64 (turn + 1) = turn + 1 := by simp [wrap64]; omega
  cases hany : ts.any (keyIs k) with
  | true =>
    go_enter Tryd.func24, Tryd.ntmps24
    go_wp2_with (first
      | (at_lookup; refine wpList_lookT_ok _ rfl _ _ _ rfl 3 99 law Tryd.underlying95 (zeroT _) klOk b ts rfl hm hd _ k rfl hkey ?_)
      | go_in)
    go_quiet (fail)
    go_wp2
    refine region_tail 11 (by kernel_rfl) (by kernel_rfl) ?_
    simp only [List.take_succ_cons, List.take_zero, List.drop_succ_cons, List.drop_zero]
    refine SW.un ?_
    (refine SW.want (by kernel_rfl) (fun K hK => ?_); have HK := Lib.hid hK; clear hK; go_simp; refine SW.on HK ?_; clear HK K)
    (refine SW.want (by kernel_rfl) (fun K hK => ?_); have HK := Lib.hid hK; clear hK; go_simp; refine SW.on HK ?_; clear HK K)
    (refine SW.want (by kernel_rfl) (fun K hK => ?_); have HK := Lib.hid hK; clear hK; go_simp; refine SW.on HK ?_; clear HK K)
    (refine SW.want (by kernel_rfl) (fun K hK => ?_); have HK := Lib.hid hK; clear hK; go_simp; refine SW.on HK ?_; clear HK K)
    (refine SW.want (by kernel_rfl) (fun K hK => ?_); have HK := Lib.hid hK; clear hK; go_simp; refine SW.on HK ?_; clear HK K)
    (refine SW.want (by kernel_rfl) (fun K hK => ?_); have HK := Lib.hid hK; clear hK; go_simp; refine SW.on HK ?_; clear HK K)
    (refine SW.want (by kernel_rfl) (fun K hK => ?_); have HK := Lib.hid hK; clear hK; go_simp; refine SW.on HK ?_; clear HK K)
    (refine SW.want (by kernel_rfl) (fun K hK => ?_); have HK := Lib.hid hK; clear hK; go_simp; refine SW.on HK ?_; clear HK K)
    (refine SW.want (by kernel_rfl) (fun K hK => ?_); have HK := Lib.hid hK; clear hK; go_simp; refine SW.on HK ?_; clear HK K)
    (refine SW.want (by kernel_rfl) (fun K hK => ?_); have HK := Lib.hid hK; clear hK; go_simp; refine SW.on HK ?_; clear HK K)
    (refine SW.want (by kernel_rfl) (fun K hK => ?_); have HK := Lib.hid hK; clear hK; go_simp; refine SW.on HK ?_; clear HK K)
    refine SW.nil ?_
    go_wp2_with (first
      | (at_mapUpdate; refine wpList_putT _ rfl _ _ _ _ rfl 3 99 law Tryd.underlying95 klOk b ts rfl (((hm.alloc _).drewN _).setCell (Ne.symm h.ne) _) hn _ (k, t, turn + 1) rfl rfl hkey ?_; intro w1 hown1 hgrow1)
      | go_in)
    go_ret
    refine ⟨rfl, Keep.trans (b := (((w.alloc _).drewN nq).setCell ⟨g, 1, none⟩ _).drew) (((((Keep.refl [g, b] w).alloc _).drewN nq).set_ (Or.inl (by simp)) _).drew) (Keep.of_grown hgrow1 (by simp)), ((((h.blk.alloc _).drewN nq).set_ 1 _).drew).grown hgrow1 (by simp [h.ne]), hown1, h.ne⟩
  | false =>
    have hr' : (ts.length : Int) < room := by rcases hr with h1 | h1; rw [h1] at hany; cases hany; omega
    go_enter Tryd.func24, Tryd.ntmps24
    go_wp2_with (first
      | (at_lookup; refine wpList_lookT_ok _ rfl _ _ _ rfl 3 99 law Tryd.underlying95 (zeroT _) klOk b ts rfl hm hd _ k rfl hkey ?_)
      | go_in)
    go_quiet (fail)
    have hdec : decide (room ≤ (ts.length : Int)) = false := decide_eq_false (by omega)
    simp only [hdec]
    clear hdec hr hr' hany
    go_wp2
    refine region_tail 11 (by kernel_rfl) (by kernel_rfl) ?_
    simp only [List.take_succ_cons, List.take_zero, List.drop_succ_cons, List.drop_zero]
    refine SW.un ?_
    (refine SW.want (by kernel_rfl) (fun K hK => ?_); have HK := Lib.hid hK; clear hK; go_simp; refine SW.on HK ?_; clear HK K)
    (refine SW.want (by kernel_rfl) (fun K hK => ?_); have HK := Lib.hid hK; clear hK; go_simp; refine SW.on HK ?_; clear HK K)
    (refine SW.want (by kernel_rfl) (fun K hK => ?_); have HK := Lib.hid hK; clear hK; go_simp; refine SW.on HK ?_; clear HK K)
    (refine SW.want (by kernel_rfl) (fun K hK => ?_); have HK := Lib.hid hK; clear hK; go_simp; refine SW.on HK ?_; clear HK K)
    (refine SW.want (by kernel_rfl) (fun K hK => ?_); have HK := Lib.hid hK; clear hK; go_simp; refine SW.on HK ?_; clear HK K)
    (refine SW.want (by kernel_rfl) (fun K hK => ?_); have HK := Lib.hid hK; clear hK; go_simp; refine SW.on HK ?_; clear HK K)
    (refine SW.want (by kernel_rfl) (fun K hK => ?_); have HK := Lib.hid hK; clear hK; go_simp; refine SW.on HK ?_; clear HK K)
    (refine SW.want (by kernel_rfl) (fun K hK => ?_); have HK := Lib.hid hK; clear hK; go_simp; refine SW.on HK ?_; clear HK K)
    (refine SW.want (by kernel_rfl) (fun K hK => ?_); have HK := Lib.hid hK; clear hK; go_simp; refine SW.on HK ?_; clear HK K)
    (refine SW.want (by kernel_rfl) (fun K hK => ?_); have HK := Lib.hid hK; clear hK; go_simp; refine SW.on HK ?_; clear HK K)
    (refine SW.want (by kernel_rfl) (fun K hK => ?_); have HK := Lib.hid hK; clear hK; go_simp; refine SW.on HK ?_; clear HK K)
    refine SW.nil ?_
    go_wp2_with (first
      | (at_mapUpdate; refine wpList_putT _ rfl _ _ _ _ rfl 3 99 law Tryd.underlying95 klOk b ts rfl (((hm.alloc _).drewN _).setCell (Ne.symm h.ne) _) hn _ (k, t, turn + 1) rfl rfl hkey ?_; intro w1 hown1 hgrow1)
      | go_in)
    go_ret
    refine ⟨rfl, Keep.trans (b := (((w.alloc _).drewN nq).setCell ⟨g, 1, none⟩ _).drew) (((((Keep.refl [g, b] w).alloc _).drewN nq).set_ (Or.inl (by simp)) _).drew) (Keep.of_grown hgrow1 (by simp)), ((((h.blk.alloc _).drewN nq).set_ 1 _).drew).grown hgrow1 (by simp [h.ne]), hown1, h.ne⟩
theorem new_bad (w : World) (n : Int) (hn : n < 1 ∨ 4096 < n) :
    Calls Tryd.prog 23 #[.int .i64 n] w fun e w' => e = .returned (.tuple #[.pointer none, .int .i64 1]) ∧ ∃ m, w' = w.drewN m := by
  rcases hn with h1 | h1
  all_goals
    go_enter Tryd.func23, Tryd.ntmps23
    go_wp2
    go_ret2
    exact ⟨rfl, 0, rfl⟩
theorem new_ok (w : World) (n : Int) (h1 : 1 ≤ n) (h2 : n ≤ 4096) :
    Calls Tryd.prog 23 #[.int .i64 n] w fun e w' => e = .returned (.tuple #[.pointer (some ⟨w.heap.size + 1, 0, none⟩), .int .i64 0]) ∧ Below w.heap.size w w' ∧ At w' (w.heap.size + 1) w.heap.size n 0 [] := by
  have hrm := run_makeMap (P := Tryd.prog) 95 w
  go_enter Tryd.func23, Tryd.ntmps23
  go_wp2
  go_ret2
  exact ⟨rfl, by repeat (first | exact Below.refl _ _ | apply Below.drew | (refine Below.alloc ?_ (by simp <;> omega) _) | (refine Below.setCell ?_ (by simp <;> omega) _)), by have := Blk.new (w.alloc (.map #[] 0)) 97 #[.int .i64 n, .int .i64 0, .map (some w.heap.size)]; simpa using this, (HasT.made w _ _ _).alloc _, by simp⟩
end WhlI
end Go.Proofs.YtdpppljobikjhaaDoor
