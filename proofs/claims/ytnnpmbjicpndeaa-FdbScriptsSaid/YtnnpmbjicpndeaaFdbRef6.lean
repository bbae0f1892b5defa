/-
  The document's table: the walk of Learn, where it learns.
-/
import Derived.Test.YtnnpmbjicpndeaaFdbRef5
namespace Go.Proofs.Ytnnpmbjicpndeaa
set_option linter.unusedVariables false
set_option linter.unusedSimpArgs false
open Go.RowKit Go.Maps
namespace FdbR
open Mp FdbC Fdb
/-- ahead of the putting in: the oldest went where there was no room -/
def RPre (w wx : World) (q : Nat) (room age : Int) (L : List En) (k : Key) : Prop :=
  ∃ L1, ((L.length : Int) < room ∧ L1 = L ∨ room ≤ L.length ∧ ∃ e, OldIs L e ∧ L1 = strike L e.1) ∧ Sorted L1 ∧ hasK L1 k = false ∧ L1.length ≤ L.length ∧ Keep [q] w wx ∧ RAt wx q room age L1
theorem own_cases {w : World} {base n : Nat} {e : TypeId} {size : Nat} {v : Value} {xs : List Value} (h : w.ownsRow base e size v n xs) :
    (v = .slice none 0 0 ∧ n = 0) ∨ ∃ g c, v = .slice (some ⟨g, 0, none⟩) n c ∧ n ≤ c := by
  rcases h.2 with ⟨rfl, h0⟩ | ⟨g, cap, cur, rfl, hg, hh, hn, _⟩
  · exact Or.inl ⟨rfl, h0⟩
  · exact Or.inr ⟨g, cap, rfl, hn⟩
theorem RPre.done {w w' : World} {q : Nat} {room age : Int} {L L1 : List En} {x : En} {j : Nat} (hno : hasK L x.1 = false) (h1 : (L.length : Int) < room ∧ L1 = L ∨ room ≤ L.length ∧ ∃ e, OldIs L e ∧ L1 = strike L e.1) (hs : Sorted L1) (hn1 : hasK L1 x.1 = false)
    (hb : ∀ y ∈ L1.take j, ltK y x) (he : ∀ z, L1[j]? = some z → ¬ ltK z x) (hsafe : Safe q w w') (hat : RAt w' q room age (insAt L1 j x)) : RLearned w w' q room age L x := by
  refine ⟨hsafe, insAt L1 j x, put L1 x, ins_sorted hs hn1 hb he, ?_, ins_perm hn1 j, hat⟩
  rcases h1 with ⟨h1, rfl⟩ | ⟨h1, e, hold, rfl⟩
  · exact Or.inl ⟨Or.inr h1, rfl⟩
  · exact Or.inr ⟨⟨hno, h1⟩, e, hold, rfl⟩
theorem add0 (g n : Nat) : (some (⟨g, 0, none⟩ : Addr)).map (·.add n) = some ⟨g, n, none⟩ := by
  simp only [Option.map_some, Addr.add]
  split
  · rename_i h; rw [h]
  · rw [Nat.zero_add]
theorem ins_len {L : List En} {x : En} {j : Nat} (h : j ≤ L.length) : j + 1 + (L.length - j) = (insAt L j x).length := by
  unfold insAt
  rw [List.length_append, List.length_cons, List.length_take, List.length_drop]
  omega
theorem take_lt {L : List En} {j : Nat} {y x : En} (h : L[j]? = some y) (hk : ltK y x) (hb : ∀ y ∈ L.take j, ltK y x) : ∀ y ∈ L.take (j + 1), ltK y x := by
  rw [List.take_add_one, h]
  intro z hz
  rcases List.mem_append.1 hz with hz | hz
  · exact hb z hz
  · simp at hz; subst hz; exact hk
theorem not_lt_at {L : List En} {j : Nat} {y x : En} (h : L[j]? = some y) (hk : ¬ ltK y x) : ∀ z, L[j]? = some z → ¬ ltK z x := fun z hz => by
  rw [h] at hz
  cases hz
  exact hk
theorem new_from {v : Value} {n : Nat} (h : v.ownBlock = (Value.slice none 0 0).ownBlock ∨ v.ownBlock = some n) : ∀ g, v.ownBlock = some g → n ≤ g := fun g hg => by
  rcases h with h | h
  · rw [h] at hg; simp [Value.ownBlock] at hg
  · rw [h] at hg; injection hg with hg; omega
set_option maxHeartbeats 8000000 in
set_option maxRecDepth 20000 in
theorem rlearn_ok (w : World) (q : Nat) (room age : Int) (L : List En) (h : RAt w q room age L) (hs : Sorted L) (hn : L.length ≤ 4000) (hr : 1 ≤ room) (k : Key) (port now : Int) (hgood : Fdb.Good k.1.1 k.1.2 port now) (hm : many k.1.2 = false) :
    Calls Try.prog 23 #[.pointer (some ⟨q, 0, none⟩), .int .i64 k.1.1, .string k.1.2, .int .i64 port, .int .i64 now] w fun e w' => e = .returned (.bool true) ∧ RLearned w w' q room age L (k, port, now) := by
  obtain ⟨h1, h2, h3, h4⟩ := id hgood
  have h1' : (k.1.2.size : Int) = 6 := by omega
  have d4 := decide_eq_true h4
  have HA := Lib.hid h
  have HS := Lib.hid hs
  have hq0 := h.lt
  obtain ⟨i0, hi, hz0, hz1, hz2⟩ := info_parts infoR
  obtain ⟨v, hblk, hown⟩ := h
  obtain ⟨A, c, rfl, _⟩ := own_form hown
  have c2 : w.cell? ⟨q, 2, none⟩ = some (.slice A L.length c) := hblk.cell 2
  have c0 : w.cell? ⟨q, 0, none⟩ = some (.int .i64 room) := hblk.cell 0
  have HO := Lib.hid hown
  have HBLK := Lib.hid hblk
  clear hblk hown hs hgood
  go_enter Try.func23, Try.ntmps23
  go_wp2_with (first
    | (go_at_call 37; refine (rmany_ _ _).mono ?_; rintro e w1 ⟨rfl, rfl⟩; rw [hm])
    | (go_at_call 38; refine (rtime_ _ _).mono ?_; rintro e w1 ⟨rfl, rfl⟩; rw [d4])
    | go_in)
  clear d4 h1' h2 h3 h4 hm
  go_loopw [11] (fun i wr => ∃ (j : Nat), j ≤ L.length ∧ i = .int .i64 j ∧ (∀ y ∈ L.take j, y.1 ≠ k) ∧ wr = w) (fun i _ => L.length - (intOf i).toNat)
  case atStart => exact ⟨0, Nat.zero_le _, rfl, by simp, rfl⟩
  case round =>
    obtain ⟨j, hj, rfl, hb, hwr⟩ := hrel
    obtain rfl := hwr.symm
    by_cases hlt : j < L.length
    · obtain ⟨x, hx⟩ : ∃ x, L[j]? = some x := ⟨_, List.getElem?_eq_getElem hlt⟩
      obtain ⟨g, cap, hv, hge, _, _, hrow⟩ := Row.of_own HO.out (by omega)
      cases hv
      have d0 : w.cell? ⟨g, j * 4, none⟩ = some (.int .i64 x.1.1.1) := hrow.at_ lenC hx (j := 0) (by omega) rfl
      have d1 : w.cell? ⟨g, j * 4 + 1, none⟩ = some (.string x.1.1.2) := hrow.at_ lenC hx (j := 1) (by omega) rfl
      have d2 : w.cell? ⟨g, j * 4 + 2, none⟩ = some (.int .i64 x.2.1) := hrow.at_ lenC hx (j := 2) (by omega) rfl
      have d3 : w.cell? ⟨g, j * 4 + 3, none⟩ = some (.int .i64 x.2.2) := hrow.at_ lenC hx (j := 3) (by omega) rfl
      have f2 := hrow.frozen (j * 4 + 2)
      have f3 := hrow.frozen (j * 4 + 3)
      have hlt' : (j : Int) < (L.length : Int) := by omega
      have hgq : q < g := by omega
      have HX := Lib.hid hx
      have HROW := Lib.hid hrow
      have HB := Lib.hid (fun hk => take_ne hx hk hb)
      clear hb hx hrow
      by_cases hv : x.1.1.1 = k.1.1
      · by_cases hmm : x.1.1.2 = k.1.2
        · have HKE := Lib.hid (show x.1 = k from Subtype.ext (Prod.ext hv hmm))
          have hm' : (x.1.1.2.toList == k.1.2.toList) = true := by rw [hmm]; simp
          clear hmm
          go_wp2
          go_ret
          refine ⟨rfl, ((Safe.refl q w).row HROW.out (by omega) _ _).row (HROW.out.set_ _ _) (by omega) _ _, L.set j (k, port, now), put L (k, port, now), set_sorted HS.out HX.out HKE.out, Or.inl ⟨Or.inl (List.any_eq_true.2 ⟨x, List.mem_of_getElem? HX.out, (keyIsE _ _).2 HKE.out⟩), rfl⟩, set_perm HS.out.apart HX.out HKE.out, _, ((HBLK.out.far (show q ≠ g by omega) _).far (show q ≠ g by omega) _), ?_⟩
          have h2 := own_set (own_set HO.out (j * 4 + 2) (.int .i64 port)) (j * 4 + 3) (.int .i64 now)
          have x2 : En := (x.1, port, x.2.2)
          rw [flat_set cE 4 lenC x ((x.1, port, x.2.2) : En) 2 (by omega) (.int .i64 port) rfl L j HX.out, flat_set cE 4 lenC ((x.1, port, x.2.2) : En) ((x.1, port, now) : En) 3 (by omega) (.int .i64 now) rfl _ j (set_at _ HX.out), set_set, HKE.out] at h2
          rw [List.length_set]
          exact h2
        · have HM := Lib.hid hmm
          have hm' := bytes_ne hmm
          clear hmm
          go_wp2
          exact ⟨⟨j + 1, by omega, by go_num, HB.out (fun h => HM.out (by rw [h])), trivial⟩, by simp [intOf]; omega⟩
      · have hvb : (x.1.1.1 == k.1.1) = false := by rw [beq_eq_false_iff_ne]; exact hv
        have HV := Lib.hid hv
        clear hv
        go_wp2
        exact ⟨⟨j + 1, by omega, by go_num, HB.out (fun h => HV.out (by rw [h])), trivial⟩, by simp [intOf]; omega⟩
    · have e : j = L.length := by omega
      subst e
      rw [List.take_length] at hb
      have HNO := Lib.hid (noK hb)
      clear hb hlt
      go_upto_region 10 with fail
      go_cut [98] (fun s98 wx => s98 = .bool (decide (room ≤ (L.length : Int))) ∧ ∃ n, wx = w.drewN n)
      case first =>
        by_cases hf : room ≤ (L.length : Int)
        · have HF := Lib.hid (decide_eq_true hf)
          go_quiet (fail)
          go_wp2_with fail
          go_meet
          exact ⟨by rw [HF.out], _, rfl⟩
        · have HF := Lib.hid (decide_eq_false hf)
          go_quiet (fail)
          go_wp2_with fail
          go_meet
          exact ⟨by rw [HF.out], _, rfl⟩
      case rest =>
      obtain ⟨rfl, n, rfl⟩ := hcut
      clear c0 c2
      go_upto_if 98 with fail
      go_cut [] (fun wx => RPre w wx q room age L k)
      case first =>
        by_cases hf : room ≤ (L.length : Int)
        · have HF := Lib.hid (decide_eq_true hf)
          have HF2 := Lib.hid hf
          have hl0 : 0 < L.length := by omega
          have hwo := fun n i hi => rwithout_ (w.drewN n) q room age L (HA.out.drewN n) (by omega) i hi
          rw [HF.out]
          clear hf
          go_wp2_with (first
            | (go_at_call 40; refine (roldest_ _ q room age L (HA.out.drewN n) (by omega) hl0).mono ?_; rintro e w2 ⟨⟨i, hbi, rfl⟩, n2, rfl⟩; obtain ⟨x, hx, hold⟩ := best_is HS.out hbi; have hil := (List.getElem?_eq_some_iff.1 hx).1; have hcs := cut_strike HS.out.apart hx; have HOLD := Lib.hid hold; have HCS := Lib.hid hcs; have HX := Lib.hid hx; clear hx hold hcs hbi)
            | (go_at_call 39; refine (hwo _ i hil).mono ?_; rintro e w3 ⟨rfl, hk3, hat3⟩)
            | go_in)
          go_meet
          rw [HCS.out] at hat3
          exact ⟨strike L x.1, Or.inr ⟨HF2.out, x, HOLD.out, rfl⟩, HS.out.filter _, strike_noK HNO.out _, List.length_filter_le _ _, ((Keep.refl [q] w).drewN _).trans hk3, hat3⟩
        · have HF := Lib.hid (decide_eq_false hf)
          rw [HF.out]
          go_wp2_with fail
          go_meet
          exact ⟨L, Or.inl ⟨by omega, rfl⟩, HS.out, HNO.out, Nat.le_refl _, (Keep.refl [q] w).drewN _, HA.out.drewN _⟩
      case rest =>
        obtain ⟨L1, hL1, hs1, hn1, hl1, hk1, hat1⟩ := hcut
        have HL1 := Lib.hid hL1
        have HS1 := Lib.hid hs1
        have HN1 := Lib.hid hn1
        have HAT := Lib.hid hat1
        have hz0' : q ≤ wc.heap.size := Nat.le_of_lt hat1.lt
        have HSAFE := Lib.hid (Safe.of_keep hk1 (by omega))
        clear hL1 hs1 hn1 hk1 hat1
        go_wp2
        go_loopw [12] (fun i wr => ∃ (j2 : Nat), j2 ≤ L1.length ∧ i = .int .i64 j2 ∧ (∀ y ∈ L1.take j2, ltK y (k, port, now)) ∧ RAt wr q room age L1 ∧ Safe q w wr) (fun i _ => L1.length - (intOf i).toNat)
        case atStart => exact ⟨0, Nat.zero_le _, rfl, by simp, HAT.out, HSAFE.out⟩
        case round =>
          obtain ⟨j2, hj2, rfl, hb2, hat2, hsafe2⟩ := hrel
          have zq : q < wr.heap.size := hat2.lt
          have HAT2 := Lib.hid hat2
          obtain ⟨v1, hblk1, hown1⟩ := hat2
          have q3 : j2 + 1 ≤ maxLen := by unfold maxLen; omega
          have q4 : (j2 + 1) * 40 ≤ 140737488355328 := by omega
          have HLEN := Lib.hid (ins_len (x := ((k, port, now) : En)) hj2)
          by_cases hlt2 : j2 < L1.length
          · obtain ⟨y, hy⟩ : ∃ y, L1[j2]? = some y := ⟨_, List.getElem?_eq_getElem hlt2⟩
            obtain ⟨g, cap, hv, _, hcap, _, hrow⟩ := Row.of_own hown1 (by omega)
            subst hv
            have e2 : wr.cell? ⟨q, 2, none⟩ = some (.slice (some ⟨g, 0, none⟩) L1.length cap) := hblk1.cell 2
            have d0 : wr.cell? ⟨g, j2 * 4, none⟩ = some (.int .i64 y.1.1.1) := hrow.at_ lenC hy (j := 0) (by omega) rfl
            have d1 : wr.cell? ⟨g, j2 * 4 + 1, none⟩ = some (.string y.1.1.2) := hrow.at_ lenC hy (j := 1) (by omega) rfl
            have d2 : wr.cell? ⟨g, j2 * 4 + 2, none⟩ = some (.int .i64 y.2.1) := hrow.at_ lenC hy (j := 2) (by omega) rfl
            have d3 : wr.cell? ⟨g, j2 * 4 + 3, none⟩ = some (.int .i64 y.2.2) := hrow.at_ lenC hy (j := 3) (by omega) rfl
            have hlt2' : (j2 : Int) < (L1.length : Int) := by omega
            have hjc : j2 ≤ cap := by omega
            have hjc' : (j2 : Int) ≤ (cap : Int) := by omega
            have hncap : ¬ cap = j2 := by omega
            have hncap' : ¬ (cap : Int) = (j2 : Int) := by omega
            have hrd := Reads.of_own hown1
            have hrt := Reads_take hrd hj2 rfl
            have hrdp := Reads_drop hrd hj2 hcap rfl
            rw [if_neg hncap, add0] at hrdp
            have hah := fun W => rahead_ y k.1.1 k.1.2 W
            cases hby : before y k.1.1 k.1.2 with
            | true =>
              have HN2 := Lib.hid (take_lt hy ((before_iff y k port now).1 hby) hb2)
              have HSF := Lib.hid hsafe2
              simp only [hby] at hah
              clear hby hy hb2 hsafe2 hrow hrd hrt hrdp hblk1 hown1 hncap hncap'
              obtain ⟨⟨⟨u, mc⟩, oky⟩, py, ay⟩ := y
              simp only [valE, er] at *
              go_wp2_with (first
                | (go_at_call 41; refine (hah _).mono ?_; rintro e w2 ⟨rfl, hbw⟩)
                | go_in)
              exact ⟨⟨j2 + 1, by omega, by go_num, HN2.out, HAT2.out.keep (Keep.of_below hbw []) (by simp), HSF.out.trans (Safe.of_below hbw (by omega))⟩, by simp [intOf] <;> omega⟩
            | false =>
              have HE := Lib.hid (not_lt_at hy (fun h => by rw [(before_iff y k port now).2 h] at hby; cases hby))
              have HB2 := Lib.hid hb2
              have HS0 := Lib.hid hsafe2
              have HBL := Lib.hid hblk1
              have HRT0 := Lib.hid hrt
              have HRD0 := Lib.hid hrdp
              simp only [hby] at hah
              clear hby hy hb2 hsafe2 hrow hrd hrt hrdp hblk1 hown1
              obtain ⟨⟨⟨u, mc⟩, oky⟩, py, ay⟩ := y
              simp only [valE, er] at *
              go_wp2_with (first
                | (go_at_call 41; refine (hah _).mono ?_; rintro e w2 ⟨rfl, hbw⟩; have zw := hbw.size; have HBX := Lib.hid (HBL.out.below hbw zq); have e2x : w2.cell? ⟨q, 2, none⟩ = _ := HBX.out.cell 2; have HRT := Lib.hid ((HRT0.out.below hbw).more zw); have HRD := Lib.hid ((HRD0.out.below hbw).more zw); have HSX := Lib.hid (HS0.out.trans (Safe.of_below hbw (by omega))); clear hbw)
                | (at_builtin; refine wpList_append_any _ rfl (.tmp 124) (.tmp 130) 39 rfl (q + 1) 59 i0 _ 4 40 Try.underlying39 hi hz0 hz1 hz2 rfl (by omega) (.slice none 0 0) 0 [] rfl ⟨rfl, .inl ⟨rfl, rfl⟩⟩ w2.heap.size _ j2 _ _ rfl HRT.out (oneCs _) (by unfold maxLen; omega) (by omega) (by omega) ?_; intro v3 w3 hown3 hg3 hnew3; rw [Nat.zero_add, List.nil_append] at hown3; have HB3 := Lib.hid (HBX.out.grown hg3 (by simp [Value.ownBlock])); have e3 : w3.cell? ⟨q, 2, none⟩ = _ := HB3.out.cell 2; have HR3 := Lib.hid (HRD.out.grown hg3 (Nat.le_refl _) (by simp [Value.ownBlock])); have z3 := hg3.size; have HS3 := Lib.hid (HSX.out.grown (base := q + 1) (n := 0) (v := .slice none 0 0) (xs := []) ⟨rfl, .inl ⟨rfl, rfl⟩⟩ (Nat.le_succ _) (by omega) hg3); have HV3 : Hid (∀ g, v3.ownBlock = some g → w2.heap.size ≤ g) := Lib.hid (new_from hnew3); clear hg3 hnew3)
                | (at_builtin; refine wpList_append_own _ rfl (.tmp 132) (.tmp 138) 39 rfl (q + 1) 59 i0 _ 4 40 Try.underlying39 hi hz0 hz1 hz2 rfl (by omega) v3 j2 _ rfl (hown3.alloc _) ⟨w3.heap.size, 0, none⟩ 1 1 (cE ((k, port, now) : En)) rfl rfl (new_cells' _ (cE ((k, port, now) : En)) 59 _ (by simp)) (oneC _) q3 q4 (by simp; omega) ?_; intro v4 w4 hown4 hg4 _; have HB4 := Lib.hid ((HB3.out.alloc (.cells (cE ((k, port, now) : En)).toArray 59)).grown hg4 (fun e => own_ne hown3 (Nat.lt_succ_self q) e.symm)); have e4 : w4.cell? ⟨q, 2, none⟩ = _ := HB4.out.cell 2; have HR4 := Lib.hid ((HR3.out.alloc z3 (.cells (cE ((k, port, now) : En)).toArray 59)).grown hg4 (by simp; omega) HV3.out); have z4 : w3.heap.size < w4.heap.size := Nat.lt_of_lt_of_le (by simp) hg4.size; have HS4 := Lib.hid ((HS3.out.alloc (by omega) (.cells (cE ((k, port, now) : En)).toArray 59)).grown (hown3.alloc _) (Nat.le_succ _) (by simp; omega) hg4); clear hg4)
                | (at_builtin; refine wpList_append_any _ rfl (.tmp 141) (.tmp 147) 39 rfl (q + 1) 59 i0 _ 4 40 Try.underlying39 hi hz0 hz1 hz2 rfl (by omega) v4 (j2 + 1) _ rfl hown4 w2.heap.size _ (L1.length - j2) _ _ rfl HR4.out (oneCs _) (by unfold maxLen; omega) (by omega) (by omega) ?_; intro v5 w5 hown5 hg5 _; obtain ⟨A5, c5, rfl, _⟩ := own_form hown5; have HB5 := Lib.hid (HB4.out.grown hg5 (fun e => own_ne hown4 (Nat.lt_succ_self q) e.symm)); have f5 := HB5.out.frozen 2; have e5 : w5.cell? ⟨q, 2, none⟩ = _ := HB5.out.cell 2; have HS5 := Lib.hid (HS4.out.grown hown4 (Nat.le_succ _) (by omega) hg5); clear hg5)
                | go_in)
              go_ret
              refine ⟨rfl, RPre.done HNO.out HL1.out HS1.out HN1.out HB2.out HE.out (HS5.out.set_ 2 _) ⟨_, HB5.out.set_ 2 _, ?_⟩⟩
              have := own_keep hown5 (((Keep.refl [q] w5).set_ (p := ⟨q, 2, none⟩) (Or.inl (by simp)) (.slice A5 (j2 + 1 + (L1.length - j2)) c5))) (by simp)
              have hlen := HLEN.out
              rw [← hlen, insAt, List.flatMap_append, List.flatMap_cons]
              simpa using this
          · have ej : j2 = L1.length := by omega
            have HE := Lib.hid (show ∀ z, L1[j2]? = some z → ¬ ltK z (k, port, now) from fun z hz => absurd (List.getElem?_eq_some_iff.1 hz).1 hlt2)
            have HB2 := Lib.hid hb2
            have HSX := Lib.hid hsafe2
            have hlt2' : ¬ (j2 : Int) < (L1.length : Int) := by omega
            rcases own_cases hown1 with ⟨rfl, hl0⟩ | ⟨g, cap, rfl, hcap⟩
            · have e2 : wr.cell? ⟨q, 2, none⟩ = some (.slice none 0 0) := hblk1.cell 2
              have HBX := Lib.hid hblk1
              obtain rfl : L1 = [] := List.eq_nil_of_length_eq_zero hl0
              obtain rfl : j2 = 0 := ej
              have HRT : Hid (Reads wr wr.heap.size 4 none 0 ((([] : List En).take 0).flatMap cE)) := Lib.hid Reads.none_
              have HRD : Hid (Reads wr wr.heap.size 4 none 0 ((([] : List En).drop 0).flatMap cE)) := Lib.hid Reads.none_
              clear hb2 hsafe2 hblk1 hown1 hl0
              go_wp2_with (first
                | (at_builtin; refine wpList_append_any _ rfl (.tmp 124) (.tmp 130) 39 rfl (q + 1) 59 i0 _ 4 40 Try.underlying39 hi hz0 hz1 hz2 rfl (by omega) (.slice none 0 0) 0 [] rfl ⟨rfl, .inl ⟨rfl, rfl⟩⟩ wr.heap.size _ 0 _ _ rfl HRT.out (oneCs _) (by unfold maxLen; omega) (by omega) (by omega) ?_; intro v3 w3 hown3 hg3 hnew3; rw [Nat.zero_add, List.nil_append] at hown3; have HB3 := Lib.hid (HBX.out.grown hg3 (by simp [Value.ownBlock])); have e3 : w3.cell? ⟨q, 2, none⟩ = _ := HB3.out.cell 2; have HR3 := Lib.hid (HRD.out.grown hg3 (Nat.le_refl _) (by simp [Value.ownBlock])); have z3 := hg3.size; have HS3 := Lib.hid (HSX.out.grown (base := q + 1) (n := 0) (v := .slice none 0 0) (xs := []) ⟨rfl, .inl ⟨rfl, rfl⟩⟩ (Nat.le_succ _) (by omega) hg3); have HV3 : Hid (∀ g, v3.ownBlock = some g → wr.heap.size ≤ g) := Lib.hid (new_from hnew3); clear hg3 hnew3)
                | (at_builtin; refine wpList_append_own _ rfl (.tmp 132) (.tmp 138) 39 rfl (q + 1) 59 i0 _ 4 40 Try.underlying39 hi hz0 hz1 hz2 rfl (by omega) v3 0 _ rfl (hown3.alloc _) ⟨w3.heap.size, 0, none⟩ 1 1 (cE ((k, port, now) : En)) rfl rfl (new_cells' _ (cE ((k, port, now) : En)) 59 _ (by simp)) (oneC _) q3 q4 (by simp; omega) ?_; intro v4 w4 hown4 hg4 _; have HB4 := Lib.hid ((HB3.out.alloc (.cells (cE ((k, port, now) : En)).toArray 59)).grown hg4 (fun e => own_ne hown3 (Nat.lt_succ_self q) e.symm)); have e4 : w4.cell? ⟨q, 2, none⟩ = _ := HB4.out.cell 2; have HR4 := Lib.hid ((HR3.out.alloc z3 (.cells (cE ((k, port, now) : En)).toArray 59)).grown hg4 (by simp; omega) HV3.out); have z4 : w3.heap.size < w4.heap.size := Nat.lt_of_lt_of_le (by simp) hg4.size; have HS4 := Lib.hid ((HS3.out.alloc (by omega) (.cells (cE ((k, port, now) : En)).toArray 59)).grown (hown3.alloc _) (Nat.le_succ _) (by simp; omega) hg4); clear hg4)
                | (at_builtin; refine wpList_append_any _ rfl (.tmp 141) (.tmp 147) 39 rfl (q + 1) 59 i0 _ 4 40 Try.underlying39 hi hz0 hz1 hz2 rfl (by omega) v4 (0 + 1) _ rfl hown4 wr.heap.size _ 0 _ _ rfl HR4.out (oneCs _) (by unfold maxLen; omega) (by omega) (by omega) ?_; intro v5 w5 hown5 hg5 _; obtain ⟨A5, c5, rfl, _⟩ := own_form hown5; have HB5 := Lib.hid (HB4.out.grown hg5 (fun e => own_ne hown4 (Nat.lt_succ_self q) e.symm)); have f5 := HB5.out.frozen 2; have e5 : w5.cell? ⟨q, 2, none⟩ = _ := HB5.out.cell 2; have HS5 := Lib.hid (HS4.out.grown hown4 (Nat.le_succ _) (by omega) hg5); clear hg5)
                | go_in)
              go_ret
              refine ⟨rfl, RPre.done HNO.out HL1.out HS1.out HN1.out HB2.out HE.out (HS5.out.set_ 2 _) ⟨_, HB5.out.set_ 2 _, ?_⟩⟩
              have := own_keep hown5 (((Keep.refl [q] w5).set_ (p := ⟨q, 2, none⟩) (Or.inl (by simp)) (.slice A5 (0 + 1 + 0) c5))) (by simp)
              have hlen := HLEN.out
              rw [← hlen, insAt, List.flatMap_append, List.flatMap_cons]
              simpa using this
            · have e2 : wr.cell? ⟨q, 2, none⟩ = some (.slice (some ⟨g, 0, none⟩) L1.length cap) := hblk1.cell 2
              have HBX := Lib.hid hblk1
              have hrd := Reads.of_own hown1
              have hrt := Reads_take hrd hj2 rfl
              have HRT := Lib.hid hrt
              have hjc : j2 ≤ cap := by omega
              have hjc' : (j2 : Int) ≤ (cap : Int) := by omega
              have hld : L1.length - j2 = 0 := by omega
              have hdn : L1.drop j2 = [] := List.drop_of_length_le (by omega)
              have HRD : ∀ A, Hid (Reads wr wr.heap.size 4 A (L1.length - j2) ((L1.drop j2).flatMap cE)) := fun A => Lib.hid (by rw [hld, hdn]; exact Reads.none_)
              clear hb2 hsafe2 hblk1 hown1 hrd hrt hdn hld ej
              by_cases hcj : cap = j2
              · have HRD := HRD (some ⟨g, 0, none⟩)
                subst hcj
                have hz : L1.length - cap = 0 := by omega
                have HRD : Hid (Reads wr wr.heap.size 4 (some ⟨g, 0, none⟩) 0 ((L1.drop cap).flatMap cE)) := Lib.hid (by have h := HRD.out; rw [hz] at h; exact h)
                have HLEN : Hid (cap + 1 + 0 = (insAt L1 cap ((k, port, now) : En)).length) := Lib.hid (by have := HLEN.out; omega)
                clear hz
                go_wp2_with (first
                  | (at_builtin; refine wpList_append_any _ rfl (.tmp 124) (.tmp 130) 39 rfl (q + 1) 59 i0 _ 4 40 Try.underlying39 hi hz0 hz1 hz2 rfl (by omega) (.slice none 0 0) 0 [] rfl ⟨rfl, .inl ⟨rfl, rfl⟩⟩ wr.heap.size _ cap _ _ rfl HRT.out (oneCs _) (by unfold maxLen; omega) (by omega) (by omega) ?_; intro v3 w3 hown3 hg3 hnew3; rw [Nat.zero_add, List.nil_append] at hown3; have HB3 := Lib.hid (HBX.out.grown hg3 (by simp [Value.ownBlock])); have e3 : w3.cell? ⟨q, 2, none⟩ = _ := HB3.out.cell 2; have HR3 := Lib.hid (HRD.out.grown hg3 (Nat.le_refl _) (by simp [Value.ownBlock])); have z3 := hg3.size; have HS3 := Lib.hid (HSX.out.grown (base := q + 1) (n := 0) (v := .slice none 0 0) (xs := []) ⟨rfl, .inl ⟨rfl, rfl⟩⟩ (Nat.le_succ _) (by omega) hg3); have HV3 : Hid (∀ g, v3.ownBlock = some g → wr.heap.size ≤ g) := Lib.hid (new_from hnew3); clear hg3 hnew3)
                  | (at_builtin; refine wpList_append_own _ rfl (.tmp 132) (.tmp 138) 39 rfl (q + 1) 59 i0 _ 4 40 Try.underlying39 hi hz0 hz1 hz2 rfl (by omega) v3 cap _ rfl (hown3.alloc _) ⟨w3.heap.size, 0, none⟩ 1 1 (cE ((k, port, now) : En)) rfl rfl (new_cells' _ (cE ((k, port, now) : En)) 59 _ (by simp)) (oneC _) q3 q4 (by simp; omega) ?_; intro v4 w4 hown4 hg4 _; have HB4 := Lib.hid ((HB3.out.alloc (.cells (cE ((k, port, now) : En)).toArray 59)).grown hg4 (fun e => own_ne hown3 (Nat.lt_succ_self q) e.symm)); have e4 : w4.cell? ⟨q, 2, none⟩ = _ := HB4.out.cell 2; have HR4 := Lib.hid ((HR3.out.alloc z3 (.cells (cE ((k, port, now) : En)).toArray 59)).grown hg4 (by simp; omega) HV3.out); have z4 : w3.heap.size < w4.heap.size := Nat.lt_of_lt_of_le (by simp) hg4.size; have HS4 := Lib.hid ((HS3.out.alloc (by omega) (.cells (cE ((k, port, now) : En)).toArray 59)).grown (hown3.alloc _) (Nat.le_succ _) (by simp; omega) hg4); clear hg4)
                  | (at_builtin; refine wpList_append_any _ rfl (.tmp 141) (.tmp 147) 39 rfl (q + 1) 59 i0 _ 4 40 Try.underlying39 hi hz0 hz1 hz2 rfl (by omega) v4 (cap + 1) _ rfl hown4 wr.heap.size _ 0 _ _ rfl HR4.out (oneCs _) (by unfold maxLen; omega) (by omega) (by omega) ?_; intro v5 w5 hown5 hg5 _; obtain ⟨A5, c5, rfl, _⟩ := own_form hown5; have HB5 := Lib.hid (HB4.out.grown hg5 (fun e => own_ne hown4 (Nat.lt_succ_self q) e.symm)); have f5 := HB5.out.frozen 2; have e5 : w5.cell? ⟨q, 2, none⟩ = _ := HB5.out.cell 2; have HS5 := Lib.hid (HS4.out.grown hown4 (Nat.le_succ _) (by omega) hg5); clear hg5)
                  | go_in)
                go_ret
                refine ⟨rfl, RPre.done HNO.out HL1.out HS1.out HN1.out HB2.out HE.out (HS5.out.set_ 2 _) ⟨_, HB5.out.set_ 2 _, ?_⟩⟩
                have := own_keep hown5 (((Keep.refl [q] w5).set_ (p := ⟨q, 2, none⟩) (Or.inl (by simp)) (.slice A5 (cap + 1 + 0) c5))) (by simp)
                have hlen := HLEN.out
                rw [← hlen, insAt, List.flatMap_append, List.flatMap_cons]
                simpa using this
              · have HRD := HRD (some ⟨g, j2 * 4, none⟩)
                have hcj' : ¬ (cap : Int) = (j2 : Int) := by omega
                go_wp2_with (first
                  | (at_builtin; refine wpList_append_any _ rfl (.tmp 124) (.tmp 130) 39 rfl (q + 1) 59 i0 _ 4 40 Try.underlying39 hi hz0 hz1 hz2 rfl (by omega) (.slice none 0 0) 0 [] rfl ⟨rfl, .inl ⟨rfl, rfl⟩⟩ wr.heap.size _ j2 _ _ rfl HRT.out (oneCs _) (by unfold maxLen; omega) (by omega) (by omega) ?_; intro v3 w3 hown3 hg3 hnew3; rw [Nat.zero_add, List.nil_append] at hown3; have HB3 := Lib.hid (HBX.out.grown hg3 (by simp [Value.ownBlock])); have e3 : w3.cell? ⟨q, 2, none⟩ = _ := HB3.out.cell 2; have HR3 := Lib.hid (HRD.out.grown hg3 (Nat.le_refl _) (by simp [Value.ownBlock])); have z3 := hg3.size; have HS3 := Lib.hid (HSX.out.grown (base := q + 1) (n := 0) (v := .slice none 0 0) (xs := []) ⟨rfl, .inl ⟨rfl, rfl⟩⟩ (Nat.le_succ _) (by omega) hg3); have HV3 : Hid (∀ g, v3.ownBlock = some g → wr.heap.size ≤ g) := Lib.hid (new_from hnew3); clear hg3 hnew3)
                  | (at_builtin; refine wpList_append_own _ rfl (.tmp 132) (.tmp 138) 39 rfl (q + 1) 59 i0 _ 4 40 Try.underlying39 hi hz0 hz1 hz2 rfl (by omega) v3 j2 _ rfl (hown3.alloc _) ⟨w3.heap.size, 0, none⟩ 1 1 (cE ((k, port, now) : En)) rfl rfl (new_cells' _ (cE ((k, port, now) : En)) 59 _ (by simp)) (oneC _) q3 q4 (by simp; omega) ?_; intro v4 w4 hown4 hg4 _; have HB4 := Lib.hid ((HB3.out.alloc (.cells (cE ((k, port, now) : En)).toArray 59)).grown hg4 (fun e => own_ne hown3 (Nat.lt_succ_self q) e.symm)); have e4 : w4.cell? ⟨q, 2, none⟩ = _ := HB4.out.cell 2; have HR4 := Lib.hid ((HR3.out.alloc z3 (.cells (cE ((k, port, now) : En)).toArray 59)).grown hg4 (by simp; omega) HV3.out); have z4 : w3.heap.size < w4.heap.size := Nat.lt_of_lt_of_le (by simp) hg4.size; have HS4 := Lib.hid ((HS3.out.alloc (by omega) (.cells (cE ((k, port, now) : En)).toArray 59)).grown (hown3.alloc _) (Nat.le_succ _) (by simp; omega) hg4); clear hg4)
                  | (at_builtin; refine wpList_append_any _ rfl (.tmp 141) (.tmp 147) 39 rfl (q + 1) 59 i0 _ 4 40 Try.underlying39 hi hz0 hz1 hz2 rfl (by omega) v4 (j2 + 1) _ rfl hown4 wr.heap.size _ (L1.length - j2) _ _ rfl HR4.out (oneCs _) (by unfold maxLen; omega) (by omega) (by omega) ?_; intro v5 w5 hown5 hg5 _; obtain ⟨A5, c5, rfl, _⟩ := own_form hown5; have HB5 := Lib.hid (HB4.out.grown hg5 (fun e => own_ne hown4 (Nat.lt_succ_self q) e.symm)); have f5 := HB5.out.frozen 2; have e5 : w5.cell? ⟨q, 2, none⟩ = _ := HB5.out.cell 2; have HS5 := Lib.hid (HS4.out.grown hown4 (Nat.le_succ _) (by omega) hg5); clear hg5)
                  | go_in)
                go_ret
                refine ⟨rfl, RPre.done HNO.out HL1.out HS1.out HN1.out HB2.out HE.out (HS5.out.set_ 2 _) ⟨_, HB5.out.set_ 2 _, ?_⟩⟩
                have := own_keep hown5 (((Keep.refl [q] w5).set_ (p := ⟨q, 2, none⟩) (Or.inl (by simp)) (.slice A5 (j2 + 1 + (L1.length - j2)) c5))) (by simp)
                have hlen := HLEN.out
                rw [← hlen, insAt, List.flatMap_append, List.flatMap_cons]
                simpa using this
end FdbR
end Go.Proofs.Ytnnpmbjicpndeaa
