/-
  The walks of NewAsks and of Add of querier.Asks.
-/
import Derived.Test.YtdpppljobikjhaaDoorAskMod
import Derived.Test.YtdpppljobikjhaaDoorQBase
namespace Go.Proofs.YtdpppljobikjhaaDoor
set_option linter.unusedVariables false
set_option linter.unusedSimpArgs false
open Go.RowKit Go.Maps
namespace Ask
open Whl Mp
theorem within_at {n l m : Int} {b : Bool} (hb : Q.inB n l m = b) (w : World) : Calls Tryd.prog 21 #[.int .i64 n, .int .i64 l, .int .i64 m] w fun e w' => e = .returned (.bool b) ∧ w = w' :=
  (Q.within_ n l m w).mono fun _ _ h => ⟨by rw [h.1, hb], h.2⟩
theorem newA_bad (w : World) (count gap : Int) (h : ¬ (Q.inB count 1 7 = true ∧ Q.inB gap 1 1000 = true)) :
    Calls Tryd.prog 13 #[.int .i64 count, .int .i64 gap] w fun e w' => e = .returned (.tuple #[.pointer none, .int .i64 1]) ∧ w = w' := by
  cases hc : Q.inB count 1 7 with
  | false =>
    go_enter Tryd.func13, Tryd.ntmps13
    go_wp2_with (first
      | (go_at_call 21; refine (within_at hc _).mono ?_; rintro e w1 ⟨rfl, rfl⟩)
      | go_in)
    go_ret2
    exact ⟨rfl, rfl⟩
  | true =>
    have hg : Q.inB gap 1 1000 = false := by
      cases hg : Q.inB gap 1 1000 with
      | false => rfl
      | true => exact absurd ⟨hc, hg⟩ h
    go_enter Tryd.func13, Tryd.ntmps13
    go_wp2_with (first
      | (go_at_call 21; first | (with_reducible refine (within_at hc _).mono ?_; rintro e w1 ⟨rfl, rfl⟩) | (with_reducible refine (within_at hg _).mono ?_; rintro e w1 ⟨rfl, rfl⟩))
      | go_in)
    go_ret2
    exact ⟨rfl, rfl⟩
theorem newA_ok (w : World) (count gap : Int) (h : Q.inB count 1 7 = true ∧ Q.inB gap 1 1000 = true) :
    Calls Tryd.prog 13 #[.int .i64 count, .int .i64 gap] w fun e w' => ∃ g gw bw bm, w.heap.size ≤ gw ∧ w.heap.size ≤ bw ∧ w.heap.size ≤ bm ∧ w.heap.size ≤ g ∧ e = .returned (.tuple #[.pointer (some ⟨g, 0, none⟩), .int .i64 0]) ∧ At w' g gw bw bm count gap 0 0 [] [] ∧ Below w.heap.size w w' := by
  obtain ⟨hc, hg⟩ := h
  go_enter Tryd.func13, Tryd.ntmps13
  go_wp2_with (first
    | (go_at_call 21; first | (with_reducible refine (within_at hc _).mono ?_; rintro e w1 ⟨rfl, rfl⟩) | (with_reducible refine (within_at hg _).mono ?_; rintro e w1 ⟨rfl, rfl⟩))
    | (go_at_call 23; refine (WhlI.newO _ 200 (by omega) (by omega)).mono ?_; rintro e w1 ⟨rfl, b1, on1⟩; have hrm := run_makeMap (P := Tryd.prog) 73 w1)
    | go_in)
  go_ret2
  have z1 := b1.size
  have hl := on1.lt
  refine ⟨w1.heap.size + 1, w.heap.size + 1, w.heap.size, w1.heap.size, by omega, by omega, by omega, by omega, rfl, ⟨⟨?blk, ?map, by simp, List.Pairwise.nil, by simp, by omega, by omega, by omega, by omega, by omega⟩, ?on, by simp⟩, ?low⟩
  case on => exact (on1.keep ((Keep.refl [] w1).alloc (.map #[] 0)) (by simp) (by simp)).keep ((Keep.refl [] _).alloc _) (by simp) (by simp)
  case map => exact (Has.made w1 _ _ E).alloc _
  case blk =>
    have := Blk.new (w1.alloc (.map #[] 0)) 75 #[.int .i64 count, .int .i64 gap, .int .i64 0, .pointer (some ⟨w.heap.size + 1, 0, none⟩), .map (some w1.heap.size)]
    simpa using this
  case low => exact (b1.alloc (by omega) _).alloc (by simp; omega) _
theorem add_bad (w : World) (g : Nat) (q : Value) (now : Int) (v1 v2 v3 : Value) (hq : q = .agg #[v1, v2, v3]) (h : Q.inB now 0 1099511627776 = false) :
    Calls Tryd.prog 14 #[.pointer (some ⟨g, 0, none⟩), q, .int .i64 now] w fun e w' => e = .returned (.int .i64 1) ∧ Below w.heap.size w w' := by
  subst hq
  go_enter Tryd.func14, Tryd.ntmps14
  go_wp2_with (first
    | (go_at_call 21; with_reducible refine (within_at h _).mono ?_; rintro e w1 ⟨rfl, rfl⟩)
    | go_in)
  go_ret
  exact ⟨rfl, by repeat (first | exact Below.refl _ _ | apply Below.drew | (refine Below.alloc ?_ (by simp <;> omega) _) | (refine Below.setCell ?_ (by simp <;> omega) _))⟩
/-- a block that holds a list of strings reads as a slice of them -/
theorem blk_reads {w : World} {s B : Nat} {t : TypeId} {l : List Value} (h : Blk w s t l.toArray) (hB : s < B) : Reads w B 1 (some ⟨s, 0, none⟩) l.length l :=
  ⟨by simp, fun _ => ⟨_, rfl, hB, fun j u hu => by
    have h2 := h.cell j
    rw [List.getElem?_toArray, hu] at h2
    by_cases hj : j = 0
    · subst hj; simpa [Addr.add] using h2
    · simpa [Addr.add, hj] using h2⟩⟩
/-- what Add answers -/
def addC (n : Nat) : Int := if 200 ≤ n then 5 else 0
def Added (w w' : World) (g gw bw bm : Nat) (count gap turn tu : Int) (ws : List Pw) (q : Qn) (now : Int) : Prop :=
  Keep [g, gw, bw, bm] w w' ∧ (200 ≤ ws.length ∧ At w' g gw bw bm count gap (turn + 1) tu ws ws ∨
    ws.length < 200 ∧ ∃ sl, At w' g gw bw bm count gap (turn + 1) (tu + 1) (ws ++ [⟨turn + 1, q, sl, now, tu + 1, count⟩]) (ws ++ [⟨turn + 1, q, sl, now, tu + 1, count⟩]))
theorem wf_of {k : Int} (h0 : 0 ≤ k) (h1 : k ≤ 1000000) : (Lit.int .i64 k).wf = true := by
  have e1 : IntKind.i64.min = -9223372036854775808 := by decide
  have e2 : IntKind.i64.max = 9223372036854775807 := by decide
  simp only [Lit.wf, e1, e2, Bool.and_eq_true, decide_eq_true_eq]
  omega
theorem any_no {ts ws : List Pw} {k turn : Int} (hs : ∀ x ∈ ts, x ∈ ws) (ht : ∀ x ∈ ws, 0 ≤ x.key ∧ x.key ≤ turn) (hk : turn < k) : (ts.map tim).any (Whl.keyIs k) = false := by
  rw [List.any_eq_false]
  intro y hy
  obtain ⟨x, hx, rfl⟩ := List.mem_map.1 hy
  have := (ht x (hs x hx)).2
  intro h
  have h' : x.key = k := of_decide_eq_true h
  omega
theorem filter_no {ts : List (Ti Int)} {k : Int} (h : ts.any (Whl.keyIs k) = false) : (ts.filter fun x => !Whl.keyIs k x) = ts := List.filter_eq_self.2 fun y hy => by
  have := (List.any_eq_false.1 h) y hy
  simpa using this
theorem filter_noM {ws : List Pw} {k turn : Int} (ht : ∀ x ∈ ws, 0 ≤ x.key ∧ x.key ≤ turn) (hk : turn < k) : (ws.filter fun x => !Mp.keyIs E k x) = ws := List.filter_eq_self.2 fun y hy => by
  have := (ht y hy).2
  have e : E.key y = y.key := rfl
  simp only [Mp.keyIs, e, Bool.not_eq_true', decide_eq_false_iff_not]
  omega
theorem Bk.tick {w : World} {g gw bw bm : Nat} {count gap turn : Int} {ws : List Pw} (h : Bk w g gw bw bm count gap turn ws) (t : Int) (ht : turn ≤ t) : Bk (w.setCell ⟨g, 2, none⟩ (.int .i64 t)) g gw bw bm count gap t ws := by
  have hk : Keep [g] w (w.setCell ⟨g, 2, none⟩ (.int .i64 t)) := (Keep.refl [g] w).set_ (Or.inl (by simp)) _
  have h3 := h.lm
  exact ⟨h.blk.set_ 2 _, h.map.block (hk.block bm h.map.lt (by simp; omega)), fun x hx => (h.src x hx).keep hk (by simp), h.apart, fun x hx => ⟨(h.top x hx).1, by have := (h.top x hx).2; omega⟩, h.lw, h.lb, h.lm, h.n1, h.n2⟩
theorem At.tick {w : World} {g gw bw bm : Nat} {count gap turn tu : Int} {ts ws : List Pw} (h : At w g gw bw bm count gap turn tu ts ws) (t : Int) (ht : turn ≤ t) : At (w.setCell ⟨g, 2, none⟩ (.int .i64 t)) g gw bw bm count gap t tu ts ws := by
  have hk : Keep [g] w (w.setCell ⟨g, 2, none⟩ (.int .i64 t)) := (Keep.refl [g] w).set_ (Or.inl (by simp)) _
  have h1 := h.bk.lw
  have h2 := h.bk.lb
  exact ⟨h.bk.tick t ht, h.on.keep hk (by simp; omega) (by simp; omega), h.sub⟩
theorem arm_full {tu k t : Int} {ts : List (Ti Int)} (ht : 0 ≤ t) (ha : ts.any (Whl.keyIs k) = false) (hl : 200 ≤ ts.length) : WhlI.armS 200 tu ts k t = (5, tu, ts) := by
  unfold WhlI.armS
  rw [if_neg (by omega), if_pos ⟨ha, by omega⟩]
theorem arm_room {tu k t : Int} {ts : List (Ti Int)} (ht : 0 ≤ t) (ha : ts.any (Whl.keyIs k) = false) (hl : ts.length < 200) : WhlI.armS 200 tu ts k t = (0, tu + 1, ts ++ [(k, t, tu + 1)]) := by
  unfold WhlI.armS
  rw [if_neg (by omega), if_neg (fun h => by have := h.2; omega), filter_no ha]
set_option maxHeartbeats 4000000 in
set_option maxRecDepth 20000 in
theorem add_ (w : World) (g gw bw bm : Nat) (count gap turn tu : Int) (ws : List Pw) (h : At w g gw bw bm count gap turn tu ws ws) (q : Qn) (A : Option Addr) (n c : Nat) (B : Nat) (hB : B ≤ g ∧ B ≤ gw ∧ B ≤ bw ∧ B ≤ bm) (hr : Reads w B 1 A n (q.ss.map Value.string)) (hn : n ≤ 1000) (now : Int)
    (hnow : Q.inB now 0 1099511627776 = true) (ht0 : 0 ≤ turn) (ht1 : turn < 1000000) (hu0 : 0 ≤ tu) (hu1 : tu < 1000000) (hl : ws.length ≤ 5000) :
    Calls Tryd.prog 14 #[.pointer (some ⟨g, 0, none⟩), .agg #[.int .i64 q.v, .string q.g, .slice A n c], .int .i64 now] w fun e w' => e = .returned (.int .i64 (addC ws.length)) ∧ Added w w' g gw bw bm count gap turn tu ws q now := by
  obtain ⟨hn0, hn1⟩ := Q.inB_iff.1 hnow
  have hb := h.bk.blk
  have hgl := hb.lt
  obtain ⟨hwl, hbl⟩ := h.on.lt
  have hml := h.bk.map.lt
  have lw := h.bk.lw
  have lb := h.bk.lb
  have lm := h.bk.lm
  have n1 := h.bk.n1
  have n2 := h.bk.n2
  have c2 : w.cell? ⟨g, 2, none⟩ = some (.int .i64 turn) := hb.cell 2
  have f2 := hb.frozen 2
  have hw1 : IntKind.i64.wrap (turn + 1) = turn + 1 := IntWalk.i64_in _ (by omega)
  have HANY := Lib.hid (any_no (k := turn + 1) h.sub h.bk.top (by omega))
  have hwf := Lib.hid (wf_of (k := turn + 1) (by omega) (by omega))
  have hkey := Lib.hid (WhlI.keyOf hwf.out)
  have hse : (w.setCell ⟨g, 2, none⟩ (.int .i64 (turn + 1))).heap.size = w.heap.size := by simp [World.setCell]
  have HAT := Lib.hid ((h.tick (turn + 1) (by omega)).alloc (.cells #[.int .i64 q.v, .string q.g, .slice A n c] 52))
  have hbx := Blk.new (w.setCell ⟨g, 2, none⟩ (.int .i64 (turn + 1))) 52 #[.int .i64 q.v, .string q.g, .slice A n c]
  rw [hse] at hbx
  have HBX := Lib.hid hbx
  have HK := Lib.hid (((Keep.refl [g] w).set_ (p := ⟨g, 2, none⟩) (Or.inl (by simp)) (.int .i64 (turn + 1))).alloc (.cells #[.int .i64 q.v, .string q.g, .slice A n c] 52))
  have HR := Lib.hid ((hr.setCell (p := ⟨g, 2, none⟩) hB.1 (.int .i64 (turn + 1))).alloc (by rw [hse]; omega) (.cells #[.int .i64 q.v, .string q.g, .slice A n c] 52))
  have HSZ : w.heap.size < ((w.setCell ⟨g, 2, none⟩ (.int .i64 (turn + 1))).alloc (.cells #[.int .i64 q.v, .string q.g, .slice A n c] 52)).heap.size := by simp [World.setCell]
  have HBT := Lib.hid (h.bk.tick (turn + 1) (by omega))
  have HKT := Lib.hid ((Keep.refl [] (w.setCell ⟨g, 2, none⟩ (.int .i64 (turn + 1)))).alloc (.cells #[.int .i64 q.v, .string q.g, .slice A n c] 52))
  have HSE := Lib.hid hse
  have HPT := Lib.hid h.bk.top
  have HFM := Lib.hid (filter_noM (k := turn + 1) h.bk.top (by omega))
  clear hse hbx
  clear h hb hr
  go_enter Tryd.func14, Tryd.ntmps14
  go_wp2_with (first
    | (go_at_call 21; with_reducible refine (within_at hnow _).mono ?_; rintro e w1 ⟨rfl, rfl⟩)
    | go_in)
  generalize (w.setCell ⟨g, 2, none⟩ (.int .i64 (turn + 1))).alloc (.cells #[.int .i64 q.v, .string q.g, .slice A n c] 52) = W at *
  have hbW := HAT.out.bk.blk
  have k2 : W.cell? ⟨g, 2, none⟩ = some (.int .i64 (turn + 1)) := hbW.cell 2
  have k3 : W.cell? ⟨g, 3, none⟩ = some (.pointer (some ⟨gw, 0, none⟩)) := hbW.cell 3
  clear hbW c2 f2
  refine region_tail 9 (by kernel_rfl) (by kernel_rfl) ?_
  simp only [List.take_succ_cons, List.take_zero, List.drop_succ_cons, List.drop_zero]
  refine SW.un ?_
  (refine SW.want (by kernel_rfl) (fun K hK => ?_); have HK := Lib.hid hK; clear hK; go_simp; refine SW.on HK ?_; clear HK K)
  (refine SW.want (by kernel_rfl) (fun K hK => ?_); have HK := Lib.hid hK; clear hK; go_simp; refine SW.on HK ?_; clear HK K)
  (refine SW.want (by kernel_rfl) (fun K hK => ?_); have HK := Lib.hid hK; clear hK; go_simp; refine SW.on HK ?_; clear HK K)
  (refine SW.want (by kernel_rfl) (fun K hK => ?_); have HK := Lib.hid hK; clear hK; go_simp; refine SW.on HK ?_; clear HK K)
  (refine SW.want (by kernel_rfl) (fun K hK => ?_); have HK := Lib.hid hK; clear hK; go_simp; refine SW.on HK ?_; clear HK K)
  (refine SW.want (by kernel_rfl) (fun K hK => ?_); have HK := Lib.hid hK; clear hK; go_simp; refine SW.on HK ?_; clear HK K)
  (refine SW.want (by kernel_rfl) (fun K hK => ?_); have HK := Lib.hid hK; clear hK; go_simp; refine SW.on HK ?_; clear HK K)
  (refine SW.want (by kernel_rfl) (fun K hK => ?_); have HK := Lib.hid hK; clear hK; go_simp; refine SW.on HK ?_; clear HK K)
  (refine SW.want (by kernel_rfl) (fun K hK => ?_); have HK := Lib.hid hK; clear hK; go_simp; refine SW.on HK ?_; clear HK K)
  refine SW.nil ?_
  clear k2 k3
  by_cases hfull : 200 ≤ ws.length
  · have harm := WhlI.arm_ (HAT.out.drewN 1).on hwf.out now (by simpa using hl) hu0 (by omega)
    rw [arm_full hn0 HANY.out (by simpa using hfull)] at harm
    go_wp2_with (first
      | (go_at_call 24; refine harm.mono ?_; rintro e w1 ⟨rfl, k1, on1⟩)
      | go_in)
    go_ret
    refine ⟨reti (by unfold addC; rw [if_pos hfull]), ((HK.out.drewN 1).mono (by simp)).trans (k1.mono (by simp)), Or.inl ⟨hfull, ⟨(HAT.out.bk.keep ((Keep.refl [] W).drewN 1) (by simp)).keep k1 (by simp; omega), on1, HAT.out.sub⟩⟩⟩
  · have harm := WhlI.arm_ (HAT.out.drewN 1).on hwf.out now (by simpa using hl) hu0 (by omega)
    rw [arm_room hn0 HANY.out (by simpa using hfull)] at harm
    obtain ⟨hB1, hB2, hB3, hB4⟩ := hB
    go_wp2_with (first
      | (go_at_call 24; refine harm.mono ?_; rintro e w1 ⟨rfl, k1, on1⟩; have bx1 := Keep.blk k1 (HBX.out.drewN 1) (by simp; omega); have p2 : w1.cell? ⟨w.heap.size, 2, none⟩ = some (.slice A n c) := bx1.cell 2; have z1 : w.heap.size < w1.heap.size := Nat.lt_of_lt_of_le HSZ k1.size; have HR1 := Lib.hid ((k1.reads (HR.out.drewN 1) (by simp; omega) (by simp; omega)).more (show B ≤ w1.heap.size by omega)); have HB1 := Lib.hid bx1; have HK1 := Lib.hid k1; have HO1 := Lib.hid on1; clear bx1 k1 on1)
      | (go_at_call 25; refine (own_ w1 A n c q.ss HR1.out hn).mono ?_; rintro e w2 ⟨rfl, hs2, b2⟩; have z2 := b2.size; have bx2 := HB1.out.below b2 z1; have p2' : w2.cell? ⟨w.heap.size, 2, none⟩ = some (.slice A n c) := bx2.cell 2; have f2' := bx2.frozen 2; have HB2 := Lib.hid bx2; have HS2 := Lib.hid hs2; have HBE2 := Lib.hid b2; clear bx2 hs2 b2)
      | go_in)
    have hk3 : Keep [gw, bw] (w.setCell ⟨g, 2, none⟩ (.int .i64 (turn + 1))) (w2.setCell ⟨w.heap.size, 2, none⟩ (.slice (some ⟨w1.heap.size, 0, none⟩) n n)) :=
      ((((HKT.out.drewN 1).mono (by simp)).trans HK1.out).trans (Keep.of_below HBE2.out [gw, bw])).set_ (Or.inr (by rw [HSE.out]; exact Nat.le_refl _)) _
    have hbk := HBT.out.keep hk3 (by simp; omega)
    have hk4 : Keep [g, gw, bw, bm] w (w2.setCell ⟨w.heap.size, 2, none⟩ (.slice (some ⟨w1.heap.size, 0, none⟩) n n)) :=
      ((((HK.out.drewN 1).mono (by simp)).trans (HK1.out.mono (by simp))).trans (Keep.of_below HBE2.out _)).set_ (Or.inr (Nat.le_refl _)) _
    have hon := (HO1.out.below HBE2.out).keep ((Keep.refl [w.heap.size] w2).set_ (p := ⟨w.heap.size, 2, none⟩) (Or.inl (by simp)) (.slice (some ⟨w1.heap.size, 0, none⟩) n n)) (by simp; omega) (by simp; omega)
    have hs3 := HS2.out.far (p := ⟨w.heap.size, 2, none⟩) (show w1.heap.size ≠ w.heap.size by omega) (.slice (some ⟨w1.heap.size, 0, none⟩) n n)
    have bx3 := HB2.out.set_ 2 (.slice (some ⟨w1.heap.size, 0, none⟩) n n)
    have HBK := Lib.hid hbk
    have HK4 := Lib.hid hk4
    have HON := Lib.hid hon
    have HS3 := Lib.hid hs3
    have HBX3 := Lib.hid bx3
    clear hbk hk3 hk4 hon hs3 bx3
    generalize w2.setCell ⟨w.heap.size, 2, none⟩ (.slice (some ⟨w1.heap.size, 0, none⟩) n n) = W3 at *
    have e0 : W3.cell? ⟨g, 0, none⟩ = some (.int .i64 count) := HBK.out.blk.cell 0
    have e2 : W3.cell? ⟨g, 2, none⟩ = some (.int .i64 (turn + 1)) := HBK.out.blk.cell 2
    have e4 : W3.cell? ⟨g, 4, none⟩ = some (.map (some bm)) := HBK.out.blk.cell 4
    have x0 : W3.cell? ⟨w.heap.size, 0, none⟩ = some (.int .i64 q.v) := HBX3.out.cell 0
    have x1 : W3.cell? ⟨w.heap.size, 1, none⟩ = some (.string q.g) := HBX3.out.cell 1
    have x2 : W3.cell? ⟨w.heap.size, 2, none⟩ = some (.slice (some ⟨w1.heap.size, 0, none⟩) n n) := HBX3.out.cell 2
    refine region_tail 14 (by kernel_rfl) (by kernel_rfl) ?_
    simp only [List.take_succ_cons, List.take_zero, List.drop_succ_cons, List.drop_zero]
    refine SW.un ?_
    (refine SW.want (by kernel_rfl) (fun K hK => ?_); have HK := Lib.hid hK; clear hK; go_simp; refine SW.on HK ?_; clear HK K)
    (refine SW.want (by kernel_rfl) (fun K hK => ?_); have HK := Lib.hid hK; clear hK; go_simp; refine SW.on HK ?_; clear HK K)
    (refine SW.want (by kernel_rfl) (fun K hK => ?_); have HK := Lib.hid hK; clear hK; go_simp; refine SW.on HK ?_; clear HK K)
    (refine SW.want (by kernel_rfl) (fun K hK => ?_); have HK := Lib.hid hK; clear hK; go_simp; refine SW.on HK ?_; clear HK K)
    (refine SW.want (by kernel_rfl) (fun K hK => ?_); have HK := Lib.hid hK; clear hK; go_simp; refine SW.on HK ?_; clear HK K)
    (refine SW.want (by kernel_rfl) (fun K hK => ?_); have HK := Lib.hid hK; clear hK; go_simp; refine SW.on HK ?_; clear HK K)
    (refine SW.want (by kernel_rfl) (fun K hK => ?_); have HK := Lib.hid hK; clear hK; go_simp; refine SW.on HK ?_; clear HK K)
    (refine SW.want (by kernel_rfl) (fun K hK => ?_); have HK := Lib.hid hK; clear hK; go_simp; refine SW.on HK ?_; clear HK K)
    (refine SW.want (by kernel_rfl) (fun K hK => ?_); have HK := Lib.hid hK; clear hK; go_simp; refine SW.on HK ?_; clear HK K)
    (refine SW.want (by kernel_rfl) (fun K hK => ?_); have HK := Lib.hid hK; clear hK; go_simp; refine SW.on HK ?_; clear HK K)
    (refine SW.want (by kernel_rfl) (fun K hK => ?_); have HK := Lib.hid hK; clear hK; go_simp; refine SW.on HK ?_; clear HK K)
    (refine SW.want (by kernel_rfl) (fun K hK => ?_); have HK := Lib.hid hK; clear hK; go_simp; refine SW.on HK ?_; clear HK K)
    (refine SW.want (by kernel_rfl) (fun K hK => ?_); have HK := Lib.hid hK; clear hK; go_simp; refine SW.on HK ?_; clear HK K)
    (refine SW.want (by kernel_rfl) (fun K hK => ?_); have HK := Lib.hid hK; clear hK; go_simp; refine SW.on HK ?_; clear HK K)
    refine SW.nil ?_
    go_wp2_with (first
      | (at_mapUpdate; refine wpList_put _ rfl _ _ _ _ rfl 3 79 WhlI.law Tryd.underlying73 sameE bm ws rfl (HBK.out.map.drewN 1) (by unfold maxLen; omega) _ (⟨turn + 1, q, some (w1.heap.size, n), now, tu + 1, count⟩ : Pw) rfl rfl hkey.out ?_; intro w5 hm5 hg5)
      | go_in)
    go_ret
    have hln : q.ss.length = n := by have := HR1.out.1; simpa using this
    have hk5 : Keep [bm] W3 w5 := ((Keep.refl [bm] W3).drewN 1).trans (Keep.of_grown hg5 (by simp))
    have hm6 : Has E Tryd.prog 3 w5 bm ((ws.filter fun x => !Mp.keyIs E (turn + 1) x) ++ [⟨turn + 1, q, some (w1.heap.size, n), now, tu + 1, count⟩]) := hm5
    rw [HFM.out] at hm6
    have htop := HBK.out.top
    refine ⟨reti (by unfold addC; rw [if_neg hfull]), HK4.out.trans (hk5.mono (by simp)), Or.inr ⟨by omega, some (w1.heap.size, n), ⟨⟨Keep.blk hk5 HBK.out.blk (by simp; omega), hm6, ?src, ?apart, ?top, lw, lb, lm, n1, n2⟩, ?on, fun _ h => h⟩⟩⟩
    case src =>
      intro x hx
      rcases List.mem_append.1 hx with hx | hx
      · exact (HBK.out.src x hx).keep hk5 (by simp; omega)
      · simp at hx
        subst hx
        exact ⟨w1.heap.size, by simp [hln], by omega, Keep.blk hk5 HS3.out (by simp; omega)⟩
    case apart =>
      unfold Apart
      rw [List.pairwise_append]
      refine ⟨HAT.out.bk.apart, List.pairwise_singleton _ _, fun a ha b hb => ?_⟩
      simp at hb
      subst hb
      have h2 := (HPT.out a ha).2
      show a.key ≠ turn + 1
      omega
    case top =>
      intro x hx
      rcases List.mem_append.1 hx with hx | hx
      · exact htop x hx
      · simp at hx
        subst hx
        exact ⟨by simp only; omega, by simp only; omega⟩
    case on =>
      rw [List.map_append]
      exact HON.out.keep hk5 (by simp; omega) (by simp; omega)
end Ask
end Go.Proofs.YtdpppljobikjhaaDoor
