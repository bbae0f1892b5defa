/-
  fdb: the walks of drive and of Learn.
-/
import Derived.Test.YtnnpmbjicpndeaaFdbTake
import Derived.Deep.RegionHeld3
namespace Go.Proofs.Ytnnpmbjicpndeaa
set_option linter.unusedVariables false
set_option linter.unusedSimpArgs false
open Go.RowKit Go.Maps
namespace Fdb
open Mp FdbC
def Drove (w w' : World) (b : Nat) (ts : List En) : Prop := ∃ e1, OldIs ts e1 ∧ Keep [b] w w' ∧ Has E Try.prog 52 w' b (strike ts e1.1)
set_option maxHeartbeats 4000000 in
set_option maxRecDepth 20000 in
theorem drive_ (w : World) (g b : Nat) (room age : Int) (ts : List En) (h : At w g b room age ts) (hd : Apart E ts) (hn : ts.length ≤ 5000) (h0 : 0 < ts.length) :
    Calls Try.prog 19 #[.pointer (some ⟨g, 0, none⟩)] w fun e w' => e = .returned (.tuple #[]) ∧ Drove w w' b ts := by
  have hg := h.lt.1
  have HA := Lib.hid h
  have he := entries_ w g b room age ts h hd hn
  have HD := Lib.hid hd
  clear h hd
  go_enter Try.func19, Try.ntmps19
  go_wp2_with fail
  refine he.mono ?_
  clear he
  rintro e w1 ⟨l, v, hl, rfl, hown, hb1⟩
  have hll : l.length = ts.length := hl.1.length_eq
  obtain ⟨A, c, rfl, _⟩ := own_form hown
  obtain ⟨gq, cap, hv, hgq, _, _, hrow⟩ := Row.of_own hown (by omega)
  cases hv
  obtain ⟨x0, hx0⟩ : ∃ x0, l[0]? = some x0 := ⟨_, List.getElem?_eq_getElem (by omega)⟩
  have hmin := min_ gq c (er x0) (l.map er) w1 (by rw [List.getElem?_map, hx0]; rfl) (by rw [List.length_map]; omega) (by rw [List.flatMap_map]; exact hrow)
  obtain ⟨e1, hm1, ho1⟩ := min_old hx0
  rw [List.length_map, ← hm1] at hmin
  have hat1 : At w1 g b room age ts := HA.out.keep (Keep.of_below hb1 []) (by simp) (by simp)
  have HO := Lib.hid (ho1.perm hl.1)
  have HB := Lib.hid hb1
  clear hown hrow hl hll ho1 hm1 hx0 hb1
  obtain ⟨⟨⟨v1, m1⟩, ok1⟩, p1, a1⟩ := e1
  simp only [valE, er] at hmin
  go_wp2_with fail
  refine hmin.mono ?_
  clear hmin
  rintro e w2 ⟨rfl, hb2⟩
  have hat2 : At w2 g b room age ts := hat1.keep (Keep.of_below hb2 []) (by simp) (by simp)
  have c2 : w2.cell? ⟨g, 2, none⟩ = some (.map (some b)) := hat2.blk.cell 2
  have hm2 := hat2.map
  have hg2 := hat2.lt.1
  have hk := (Keep.of_below HB.out []).trans (Keep.of_below hb2 [])
  have HK := Lib.hid hk
  clear hk hat1 hat2 hb2
  go_wp2
  refine region_tail 9 (by kernel_rfl) (by kernel_rfl) ?_
  simp only [List.take_succ_cons, List.take_zero, List.drop_succ_cons, List.drop_zero]
  refine SW.un ?_
  (refine SW.want (by kernel_rfl) (fun K hK => ?_); have HK := Lib.hid hK; clear hK; go_simp; refine SW.on HK ?_; clear HK K)
  (refine SW.want (by kernel_rfl) (fun K hK => ?_); have HK := Lib.hid hK; clear hK; go_simp; refine SW.on HK ?_; clear HK K)
  (refine SW.want (by kernel_rfl) (fun K hK => ?_); have HK := Lib.hid hK; clear hK; go_simp; refine SW.on HK ?_; clear HK K)
  (refine SW.want (by kernel_rfl) (fun K hK => ?_); have HK := Lib.hid hK; clear hK; go_simp; refine SW.on HK ?_; clear HK K)
  (refine SW.want (by kernel_rfl) (fun K hK => ?_); have HK := Lib.hid hK; clear hK; go_simp; refine SW.on HK ?_; clear HK K)
  (refine SW.want (by kernel_rfl) (fun K hK => ?_); have HK := Lib.hid hK; clear hK; go_simp; refine SW.on HK ?_; clear HK K)
  (refine SW.want (by kernel_rfl) (fun K hK => ?_); have HK := Lib.hid hK; clear hK; go_simp; refine SW.on HK ?_; clear HK K)
  (refine SW.want (by kernel_rfl) (fun K hK => ?_); have HK := Lib.hid hK; clear hK; go_simp; refine SW.on HK ?_; clear HK K)
  (refine SW.want (by kernel_rfl) (fun K hK => ?_); have HK := Lib.hid hK; clear hK; go_simp; refine SW.on HK ?_; clear HK K)
  refine SW.nil ?_
  go_wp2_with (first
    | (at_delete; refine wpList_del _ rfl _ _ _ _ rfl 54 law Try.underlying46 sameE b ts rfl (hm2.alloc _) _ ⟨(v1, m1), ok1⟩ rfl (keyOf ⟨(v1, m1), ok1⟩) ?_; intro w4 hm4 hgr4)
    | go_in)
  go_end0
  exact ⟨rfl, _, HO.out, ((((HK.out.mono (ys := [b]) (by simp)).alloc _).drew).trans (Keep.of_grown hgr4 (by simp))), hm4⟩
theorem learn_bad (w : World) (g : Nat) (v : Int) (m : ByteArray) (port now : Int) (hbad : ¬ (Good v m port now ∧ many m = false)) :
    Calls Try.prog 10 #[.pointer (some ⟨g, 0, none⟩), .int .i64 v, .string m, .int .i64 port, .int .i64 now] w fun e w' => e = .returned (.bool false) ∧ w = w' := by
  by_cases h1 : m.size = 6
  · have h1' : (m.size : Int) = 6 := by omega
    cases hm : many m with
    | true =>
      go_enter Try.func10, Try.ntmps10
      go_wp2_with (first
        | (go_at_call 17; refine (many_ _ _).mono ?_; rintro e w1 ⟨rfl, rfl⟩; rw [hm])
        | go_in)
      go_ret
      exact ⟨rfl, rfl⟩
    | false =>
      by_cases h2 : 1 ≤ v ∧ v ≤ 4094
      · by_cases h3 : 0 ≤ port ∧ port ≤ 15
        · by_cases h4 : 0 ≤ now ∧ now ≤ 1099511627776
          · exact absurd ⟨⟨h1, h2, h3, h4⟩, hm⟩ hbad
          · have d2 := decide_eq_true h2
            have d3 := decide_eq_true h3
            have d4 := decide_eq_false h4
            go_enter Try.func10, Try.ntmps10
            go_wp2_with (first
              | (go_at_call 17; refine (many_ _ _).mono ?_; rintro e w1 ⟨rfl, rfl⟩; rw [hm])
              | (go_at_call 18; refine (within_ _ _ _ _).mono ?_; rintro e w1 ⟨rfl, rfl⟩; first | rw [d2] | rw [d3] | rw [d4])
              | go_in)
            go_ret
            exact ⟨rfl, rfl⟩
        · have d2 := decide_eq_true h2
          have d3 := decide_eq_false h3
          go_enter Try.func10, Try.ntmps10
          go_wp2_with (first
            | (go_at_call 17; refine (many_ _ _).mono ?_; rintro e w1 ⟨rfl, rfl⟩; rw [hm])
            | (go_at_call 18; refine (within_ _ _ _ _).mono ?_; rintro e w1 ⟨rfl, rfl⟩; first | rw [d2] | rw [d3])
            | go_in)
          go_ret
          exact ⟨rfl, rfl⟩
      · have d2 := decide_eq_false h2
        go_enter Try.func10, Try.ntmps10
        go_wp2_with (first
          | (go_at_call 17; refine (many_ _ _).mono ?_; rintro e w1 ⟨rfl, rfl⟩; rw [hm])
          | (go_at_call 18; refine (within_ _ _ _ _).mono ?_; rintro e w1 ⟨rfl, rfl⟩; rw [d2])
          | go_in)
        go_ret
        exact ⟨rfl, rfl⟩
  · have h1' : ¬ (m.size : Int) = 6 := by omega
    go_enter Try.func10, Try.ntmps10
    go_wp2
    go_ret
    exact ⟨rfl, rfl⟩
noncomputable def full (room : Int) (ts : List En) (k : Key) : Bool := !hasK ts k && decide (room ≤ (ts.length : Int))
theorem full_no {room : Int} {ts : List En} {k : Key} (h : full room ts k = false) : hasK ts k = true ∨ (ts.length : Int) < room := by
  unfold full at h
  cases hk : hasK ts k with
  | true => exact Or.inl rfl
  | false => rw [hk] at h; simp at h; exact Or.inr h
theorem full_yes {room : Int} {ts : List En} {k : Key} (h : full room ts k = true) : hasK ts k = false ∧ room ≤ ts.length := by
  unfold full at h
  rw [Bool.and_eq_true, decide_eq_true_iff] at h
  exact ⟨by simpa using h.1, h.2⟩
def Pre (wx : World) (q : Nat) (w : World) (b : Nat) (room : Int) (ts : List En) (k : Key) : Prop :=
  ∃ t1, ((hasK ts k = true ∨ (ts.length : Int) < room) ∧ t1 = ts ∨ (hasK ts k = false ∧ room ≤ ts.length) ∧ ∃ e, OldIs ts e ∧ t1 = strike ts e.1) ∧ Keep [b] w wx ∧ Has E Try.prog 52 wx b t1 ∧ Blk wx q 52 #[.int .i64 k.1.1, .string k.1.2]
def LearnedTo (w w' : World) (g b : Nat) (room age : Int) (ts : List En) (x : En) : Prop := Keep [b] w w' ∧ ∃ ts', Learnt room ts x ts' ∧ At w' g b room age ts'
set_option maxHeartbeats 4000000 in
set_option maxRecDepth 20000 in
theorem learn_ok (w : World) (g b : Nat) (room age : Int) (ts : List En) (h : At w g b room age ts) (hd : Apart E ts) (hn : ts.length ≤ 4000) (h0 : 1 ≤ room) (k : Key) (port now : Int) (hgood : Good k.1.1 k.1.2 port now) (hm : many k.1.2 = false) :
    Calls Try.prog 10 #[.pointer (some ⟨g, 0, none⟩), .int .i64 k.1.1, .string k.1.2, .int .i64 port, .int .i64 now] w fun e w' => e = .returned (.bool true) ∧ LearnedTo w w' g b room age ts (k, port, now) := by
  obtain ⟨h1, h2, h3, h4⟩ := id hgood
  have h1' : (k.1.2.size : Int) = 6 := by omega
  have d2 := decide_eq_true h2
  have d3 := decide_eq_true h3
  have d4 := decide_eq_true h4
  have c0 : w.cell? ⟨g, 0, none⟩ = some (.int .i64 room) := h.blk.cell 0
  have c2 : w.cell? ⟨g, 2, none⟩ = some (.map (some b)) := h.blk.cell 2
  obtain ⟨hg, hb⟩ := h.lt
  have hkey : Go.keyOf Try.prog 52 (.agg #[.int .i64 k.1.1, .string k.1.2]) = some (E.kl k) := keyOf k
  have HA := Lib.hid h
  have HD := Lib.hid hd
  have HG := Lib.hid hgood
  have HK := Lib.hid hkey
  clear h hd hgood hkey
  obtain ⟨⟨v, m⟩, ok⟩ := k
  simp only at *
  go_enter Try.func10, Try.ntmps10
  go_wp2_with (first
    | (go_at_call 17; refine (many_ _ _).mono ?_; rintro e w1 ⟨rfl, rfl⟩; rw [hm])
    | (go_at_call 18; refine (within_ _ _ _ _).mono ?_; rintro e w1 ⟨rfl, rfl⟩; first | rw [d2] | rw [d3] | rw [d4])
    | go_in)
  clear d2 d3 d4 h1' h2 h3 h4 hm
  go_upto_region 5 with fail
  go_cut [13] (fun s13 wx => s13 = .bool (hasK ts ⟨(v, m), ok⟩) ∧ Keep [] w wx ∧ Blk wx w.heap.size 52 #[.int .i64 v, .string m])
  case first =>
    have hm0 := HA.out.map
    have hk0 := HK.out
    have hrunA : ∀ W, Has E Try.prog 52 W b ts → (Instr.lookup 46 (.map (some b)) (.agg #[.int .i64 v, .string m]) true).run Try.prog W = .ok (.tuple #[valE (er (Mp.look E (k0, 0, 0) ts ⟨(v, m), ok⟩)), .bool (hasK ts ⟨(v, m), ok⟩)]) W := fun W hW => hW.look_ok sameE law Try.underlying46 (zeroE W) HD.out hk0
    generalize Mp.look E (k0, 0, 0) ts ⟨(v, m), ok⟩ = y at hrunA
    generalize hasK ts ⟨(v, m), ok⟩ = hs at *
    obtain ⟨⟨⟨v1, m1⟩, ok1⟩, p1, t1⟩ := y
    simp only [valE, er] at hrunA
    have r0 := hrunA _ (hm0.alloc (.cells #[.int .i64 v, .string m] 52))
    have r1 : (Instr.lookup 46 (.map (some b)) (.agg #[.int .i64 v, .string m]) true).run Try.prog (w.alloc (.cells #[.int .i64 v, .string m] 52)).drew = _ := hrunA _ ((hm0.alloc (.cells #[.int .i64 v, .string m] 52)).drew)
    have hKb := Blk.new w 52 #[.int .i64 v, .string m]
    have a0 : (w.alloc (.cells #[.int .i64 v, .string m] 52)).cell? ⟨w.heap.size, 0, none⟩ = some (.int .i64 v) := hKb.cell 0
    have a1 : (w.alloc (.cells #[.int .i64 v, .string m] 52)).cell? ⟨w.heap.size, 1, none⟩ = some (.string m) := hKb.cell 1
    have a2 : (w.alloc (.cells #[.int .i64 v, .string m] 52)).cell? ⟨g, 2, none⟩ = some (.map (some b)) := (HA.out.blk.alloc _).cell 2
    have HKB := Lib.hid hKb
    have hgs : g < (w.alloc (.cells #[.int .i64 v, .string m] 52)).heap.size := by simp; omega
    have hws : w.heap.size < (w.alloc (.cells #[.int .i64 v, .string m] 52)).heap.size := by simp
    have hk1 : Keep [] w (w.alloc (.cells #[.int .i64 v, .string m] 52)) := (Keep.refl [] w).alloc _
    have HK1 := Lib.hid hk1
    have HRA := Lib.hid hrunA
    have hmW := hm0.alloc (.cells #[.int .i64 v, .string m] 52)
    have HM := Lib.hid hmW
    clear hKb hk1 hrunA hm0 hk0 hmW c0 c2
    generalize w.alloc (.cells #[.int .i64 v, .string m] 52) = W at *
    have hS : ∀ w', Keep [] W w' → (w'.cell? ⟨w.heap.size, 0, none⟩ = some (.int .i64 v) ∧ w'.cell? ⟨w.heap.size, 1, none⟩ = some (.string m) ∧ w'.cell? ⟨g, 2, none⟩ = some (.map (some b)) ∧ (Instr.lookup 46 (.map (some b)) (.agg #[.int .i64 v, .string m]) true).run Try.prog w' = .ok (.tuple #[.agg #[.int .i64 v1, .string m1, .int .i64 p1, .int .i64 t1], .bool hs]) w' ∧ (Instr.lookup 46 (.map (some b)) (.agg #[.int .i64 v, .string m]) true).run Try.prog w'.drew = .ok (.tuple #[.agg #[.int .i64 v1, .string m1, .int .i64 p1, .int .i64 t1], .bool hs]) w'.drew) := by
      intro w' hk
      have hmm : Has E Try.prog 52 w' b ts := HM.out.block (hk.block b HM.out.lt (by simp))
      exact ⟨(hk.cells _ 0 hws (by simp)).trans a0, (hk.cells _ 1 hws (by simp)).trans a1, (hk.cells _ 2 hgs (by simp)).trans a2, HRA.out _ hmm, HRA.out _ hmm.drew⟩
    have HS := Lib.hid hS
    clear hS
    go_region_held3 (fun w' => w'.cell? ⟨w.heap.size, 0, none⟩ = some (.int .i64 v) ∧ w'.cell? ⟨w.heap.size, 1, none⟩ = some (.string m) ∧ w'.cell? ⟨g, 2, none⟩ = some (.map (some b)) ∧ (Instr.lookup 46 (.map (some b)) (.agg #[.int .i64 v, .string m]) true).run Try.prog w' = .ok (.tuple #[.agg #[.int .i64 v1, .string m1, .int .i64 p1, .int .i64 t1], .bool hs]) w' ∧ (Instr.lookup 46 (.map (some b)) (.agg #[.int .i64 v, .string m]) true).run Try.prog w'.drew = .ok (.tuple #[.agg #[.int .i64 v1, .string m1, .int .i64 p1, .int .i64 t1], .bool hs]) w'.drew)
      ((refine HS.out _ ?_; repeat (first | exact Keep.refl _ _ | apply Keep.drew | (refine Keep.alloc ?_ _) | (refine Keep.set_ ?_ (Or.inr (by simp)) _)))) (fail)
    all_goals
      go_wp2_with fail
      go_meet
      refine (fun (hk : Keep [] W _) => (⟨rfl, HK1.out.trans hk, Keep.blk hk HKB.out (by simp)⟩ : _ ∧ _ ∧ _)) ?_
      repeat (first | exact Keep.refl _ _ | apply Keep.drew | (refine Keep.alloc ?_ _) | (refine Keep.set_ ?_ (Or.inr (by simp)) _))
  case rest =>
    obtain ⟨rfl, hk, hblk⟩ := hcut
    have hat := HA.out.keep hk (by simp) (by simp)
    have HAT := Lib.hid hat
    have HBK := Lib.hid hblk
    have HKW := Lib.hid (hk.mono (ys := [b]) (by simp))
    have e0 : wc.cell? ⟨g, 0, none⟩ = some (.int .i64 room) := hat.blk.cell 0
    have e2 : wc.cell? ⟨g, 2, none⟩ = some (.map (some b)) := hat.blk.cell 2
    have hrun : ∀ (n : Nat) ty, (Builtin.len_ #[46] ty #[.map (some b)]).run Try.prog (wc.drewN n) = .ok (.int .i64 ts.length) (wc.drewN n) := fun n ty => (hat.map.drewN n).len Try.underlying46 ty
    have hdr := fun n hne => drive_ (wc.drewN n) g b room age ts ((HAT.out).keep ((Keep.refl [] wc).drewN n) (by simp) (by simp)) HD.out (by omega) hne
    clear hat hk hblk c0 c2
    go_upto_region 5 with fail
    go_cut [13, 65] (fun s13 s65 wx => s13 = .bool (hasK ts ⟨(v, m), ok⟩) ∧ s65 = .bool (full room ts ⟨(v, m), ok⟩) ∧ ∃ n, wx = wc.drewN n)
    case first =>
      cases hh : hasK ts ⟨(v, m), ok⟩ with
      | true =>
        have HF := Lib.hid (show full room ts ⟨(v, m), ok⟩ = false by unfold full; rw [hh]; rfl)
        go_quiet (fail)
        go_wp2_with fail
        go_meet
        exact ⟨by first | rfl | rw [hh], by rw [HF.out], _, rfl⟩
      | false =>
        by_cases hl : (ts.length : Int) < room
        · have HF := Lib.hid (show full room ts ⟨(v, m), ok⟩ = false by unfold full; rw [hh, decide_eq_false (by omega)]; rfl)
          go_quiet (fail)
          go_wp2_with fail
          go_meet
          exact ⟨by first | rfl | rw [hh], by rw [HF.out, decide_eq_false (by omega)], _, rfl⟩
        · have HF := Lib.hid (show full room ts ⟨(v, m), ok⟩ = true by unfold full; rw [hh, decide_eq_true (by omega)]; rfl)
          go_quiet (fail)
          go_wp2_with fail
          go_meet
          exact ⟨by first | rfl | rw [hh], by rw [HF.out], _, rfl⟩
    case rest =>
    obtain ⟨rfl, rfl, nn, rfl⟩ := hcut
    clear hrun e0 e2
    go_upto_if 65 with fail
    go_cut [] (fun wx => Pre wx w.heap.size w b room ts ⟨(v, m), ok⟩)
    case first =>
      cases hf : full room ts ⟨(v, m), ok⟩ with
      | false =>
        have HF := Lib.hid (full_no hf)
        clear hf
        go_wp2_with fail
        go_meet
        exact ⟨ts, Or.inl ⟨HF.out, rfl⟩, HKW.out.drewN _, HAT.out.map, HBK.out⟩
      | true =>
        have HF := Lib.hid (full_yes hf)
        have hne : 0 < ts.length := by have := (full_yes hf).2; omega
        clear hf
        go_wp2_with (first
          | (go_at_call 19; refine (hdr _ hne).mono ?_; rintro e w2 ⟨rfl, hdv⟩)
          | go_in)
        go_meet
        obtain ⟨e1, he1, hk2, hm2⟩ := hdv
        exact ⟨strike ts e1.1, Or.inr ⟨HF.out, e1, he1, rfl⟩, HKW.out.trans (((Keep.refl [b] _).drewN _).trans hk2), hm2, Keep.blk hk2 HBK.out (by simp; omega)⟩
    case rest =>
      obtain ⟨t1, ht1, hk1, hm1, hb1⟩ := hcut
      have hlt1 : t1.length < maxLen := by
        have : t1.length ≤ ts.length := by
          rcases ht1 with ⟨_, rfl⟩ | ⟨_, e, _, rfl⟩
          · exact Nat.le_refl _
          · exact List.length_filter_le _ _
        unfold maxLen; omega
      have hbk := Keep.blk hk1 HA.out.blk (by simpa using HA.out.ne)
      have f2 : wc.cell? ⟨g, 2, none⟩ = some (.map (some b)) := hbk.cell 2
      have k0' : wc.cell? ⟨w.heap.size, 0, none⟩ = some (.int .i64 v) := hb1.cell 0
      have k1' : wc.cell? ⟨w.heap.size, 1, none⟩ = some (.string m) := hb1.cell 1
      have hk0 := HK.out
      have HKK := Lib.hid hk1
      have HBB := Lib.hid hbk
      have HTT := Lib.hid ht1
      clear ht1 hk1 hb1 hbk hdr
      go_wp2
      refine region_tail 10 (by kernel_rfl) (by kernel_rfl) ?_
      simp only [List.take_succ_cons, List.take_zero, List.drop_succ_cons, List.drop_zero]
      refine SW.un ?_
      (refine SW.want (by kernel_rfl) (fun K hK => ?_); have HK := Lib.hid hK; clear hK; go_simp; refine SW.on HK ?_; clear HK K)
      (refine SW.want (by kernel_rfl) (fun K hK => ?_); have HK := Lib.hid hK; clear hK; go_simp; refine SW.on HK ?_; clear HK K)
      (refine SW.want (by kernel_rfl) (fun K hK => ?_); have HK := Lib.hid hK; clear hK; go_simp; refine SW.on HK ?_; clear HK K)
      (refine SW.want (by kernel_rfl) (fun K hK => ?_); have HK := Lib.hid hK; clear hK; go_simp; refine SW.on HK ?_; clear HK K)
      (refine SW.want (by kernel_rfl) (fun K hK => ?_); have HK := Lib.hid hK; clear hK; go_simp; refine SW.on HK ?_; clear HK K)
      (refine SW.want (by kernel_rfl) (fun K hK => ?_); have HK := Lib.hid hK; clear hK; go_simp; refine SW.on HK ?_; clear HK K)
      (refine SW.want (by kernel_rfl) (fun K hK => ?_); have HK := Lib.hid hK; clear hK; go_simp; refine SW.on HK ?_; clear HK K)
      (refine SW.want (by kernel_rfl) (fun K hK => ?_); have HK := Lib.hid hK; clear hK; go_simp; refine SW.on HK ?_; clear HK K)
      (refine SW.want (by kernel_rfl) (fun K hK => ?_); have HK := Lib.hid hK; clear hK; go_simp; refine SW.on HK ?_; clear HK K)
      (refine SW.want (by kernel_rfl) (fun K hK => ?_); have HK := Lib.hid hK; clear hK; go_simp; refine SW.on HK ?_; clear HK K)
      refine SW.nil ?_
      go_wp2_with (first
        | (at_mapUpdate; refine wpList_put _ rfl _ _ _ _ rfl 52 54 law Try.underlying46 sameE b t1 rfl (hm1.drewN 1) hlt1 _ ((⟨(v, m), ok⟩, port, now) : En) rfl rfl hk0 ?_; intro w4 hm4 hgr4)
        | go_in)
      go_ret
      refine ⟨rfl, HKK.out.drew.trans (Keep.of_grown hgr4 (by simp)), put t1 (⟨(v, m), ok⟩, port, now), ?_, ⟨(HBB.out.drewN 1).grown hgr4 (by simpa using HA.out.ne), hm4, HA.out.ne⟩⟩
      rcases HTT.out with ⟨q1, rfl⟩ | ⟨q1, e, q2, rfl⟩
      · exact Or.inl ⟨q1, rfl⟩
      · exact Or.inr ⟨q1, e, q2, rfl⟩
end Fdb
end Go.Proofs.Ytnnpmbjicpndeaa
