/-
  The walk of QuerierTwo: of two that hear one another just the lesser asks.
-/
import Derived.Test.YtdpppljobikjhaaDoorQLive
import Derived.Deep.DeepCutAuto
namespace Go.Proofs.YtdpppljobikjhaaDoor
set_option linter.unusedVariables false
set_option linter.unusedSimpArgs false
open Go.RowKit
namespace Q
theorem pair_cells (w : World) (a b c d : Value) (t : TypeId) : (w.alloc (.cells #[a, b, c, d] t)).cell? ⟨w.heap.size, 0, none⟩ = some a ∧ (w.alloc (.cells #[a, b, c, d] t)).cell? ⟨w.heap.size, 1, none⟩ = some b ∧ (w.alloc (.cells #[a, b, c, d] t)).cell? ⟨w.heap.size, 2, none⟩ = some c ∧ (w.alloc (.cells #[a, b, c, d] t)).cell? ⟨w.heap.size, 3, none⟩ = some d :=
  ⟨(Blk.new w t #[a, b, c, d]).cell 0, (Blk.new w t #[a, b, c, d]).cell 1, (Blk.new w t #[a, b, c, d]).cell 2, (Blk.new w t #[a, b, c, d]).cell 3⟩
theorem below_box {w w1 : World} {o : Obj} {n : Nat} (hb : Below ((w.alloc o).drewN n).heap.size ((w.alloc o).drewN n) w1) : Below w.heap.size w w1 := by
  have e : ((w.alloc o).drewN n).heap.size = w.heap.size + 1 := World.size_alloc w o
  exact (below_drewN ((Below.refl _ _).alloc (Nat.le_refl _) _) _).trans (hb.mono (by omega))
theorem At.keep {xs : List Nat} {w w' : World} {g : Nat} {q : Qr} (h : At w g q) (hk : Keep xs w w') (hg : g ∉ xs) : At w' g q := hk.blk h hg
theorem two_cases (a b : ByteArray) (every : Int) :
    (((a.size : Int) != 4) = true) ∨ (((a.size : Int) != 4) = false ∧ ((b.size : Int) != 4) = true) ∨ (((a.size : Int) != 4) = false ∧ ((b.size : Int) != 4) = false ∧ Op.bytesLess a.toList b.toList = false) ∨
    (((a.size : Int) != 4) = false ∧ ((b.size : Int) != 4) = false ∧ Op.bytesLess a.toList b.toList = true ∧ a.toList = [0, 0, 0, 0]) ∨
    (((a.size : Int) != 4) = false ∧ ((b.size : Int) != 4) = false ∧ Op.bytesLess a.toList b.toList = true ∧ ¬ a.toList = [0, 0, 0, 0] ∧ 40 < every) ∨
    (((a.size : Int) != 4) = false ∧ ((b.size : Int) != 4) = false ∧ Op.bytesLess a.toList b.toList = true ∧ ¬ a.toList = [0, 0, 0, 0] ∧ ¬ 40 < every) := by
  cases h1 : ((a.size : Int) != 4) <;> cases h2 : ((b.size : Int) != 4) <;> cases h3 : Op.bytesLess a.toList b.toList <;> by_cases h4 : a.toList = [0, 0, 0, 0] <;> by_cases h5 : 40 < every <;> simp [h4, h5]
theorem eq4 {a : ByteArray} (h : ((a.size : Int) != 4) = false) : a.size = 4 := by simp at h; omega
set_option maxRecDepth 100000 in
set_option maxHeartbeats 4000000 in
theorem two_not (a b : ByteArray) (every robust : Int) (w : World)
    (h : (((a.size : Int) != 4) = true) ∨ (((a.size : Int) != 4) = false ∧ ((b.size : Int) != 4) = true) ∨ (((a.size : Int) != 4) = false ∧ ((b.size : Int) != 4) = false ∧ Op.bytesLess a.toList b.toList = false) ∨
      (((a.size : Int) != 4) = false ∧ ((b.size : Int) != 4) = false ∧ Op.bytesLess a.toList b.toList = true ∧ a.toList = [0, 0, 0, 0]) ∨
      (((a.size : Int) != 4) = false ∧ ((b.size : Int) != 4) = false ∧ Op.bytesLess a.toList b.toList = true ∧ ¬ a.toList = [0, 0, 0, 0] ∧ 40 < every)) :
    Calls Tryd.prog 3 #[.agg #[.string a, .string b, .int .i64 every, .int .i64 robust]] w fun e w' => e = .returned (.bool true) ∧ Below w.heap.size w w' := by
  obtain ⟨c0, c1, c2, c3⟩ := pair_cells w (.string a) (.string b) (.int .i64 every) (.int .i64 robust) 24
  have hz : (a.toList == [0, 0, 0, 0]) = decide (a.toList = [0, 0, 0, 0]) := by
    by_cases e : a.toList = [0, 0, 0, 0] <;> simp [e]
  have HZ := Lib.hid hz
  clear hz
  rcases h with h | ⟨h, h2⟩ | ⟨h, h2, h3⟩ | ⟨h, h2, h3, h4⟩ | ⟨h, h2, h3, h4, h5⟩
  · go_enter Tryd.func3, Tryd.ntmps3
    go_wp2
    go_quiet (fail)
    go_wp2_with (go_at_call 8; refine (live_ _).mono ?_; rintro e w1 ⟨rfl, hb1⟩)
    all_goals
      go_ret
      exact ⟨rfl, below_box hb1⟩
  · go_enter Tryd.func3, Tryd.ntmps3
    go_wp2
    go_quiet (fail)
    go_wp2_with (go_at_call 8; refine (live_ _).mono ?_; rintro e w1 ⟨rfl, hb1⟩)
    all_goals
      go_ret
      exact ⟨rfl, below_box hb1⟩
  · go_enter Tryd.func3, Tryd.ntmps3
    go_wp2
    go_quiet (fail)
    go_wp2_with (go_at_call 8; refine (live_ _).mono ?_; rintro e w1 ⟨rfl, hb1⟩)
    all_goals
      go_ret
      exact ⟨rfl, below_box hb1⟩
  · have h4' : (a.toList == [0, 0, 0, 0]) = true := by rw [HZ.out]; simp [h4]
    go_enter Tryd.func3, Tryd.ntmps3
    go_wp2
    go_quiet (fail)
    go_wp2_with (go_at_call 8; refine (live_ _).mono ?_; rintro e w1 ⟨rfl, hb1⟩)
    all_goals
      go_ret
      exact ⟨rfl, below_box hb1⟩
  · have h4' : (a.toList == [0, 0, 0, 0]) = false := by rw [HZ.out]; simp [h4]
    go_enter Tryd.func3, Tryd.ntmps3
    go_wp2
    go_quiet (fail)
    go_wp2_with (go_at_call 8; refine (live_ _).mono ?_; rintro e w1 ⟨rfl, hb1⟩)
    all_goals
      go_ret
      exact ⟨rfl, below_box hb1⟩
set_option maxRecDepth 100000 in
set_option maxHeartbeats 4000000 in
theorem two_bad (a b : ByteArray) (every robust : Int) (w : World) (h1 : ((a.size : Int) != 4) = false) (h2 : ((b.size : Int) != 4) = false) (h3 : Op.bytesLess a.toList b.toList = true) (h4 : ¬ a.toList = [0, 0, 0, 0]) (h5 : ¬ 40 < every) (hm : mayQ 4 every robust 0 = false) :
    Calls Tryd.prog 3 #[.agg #[.string a, .string b, .int .i64 every, .int .i64 robust]] w fun e w' => e = .returned (.bool true) ∧ Below w.heap.size w w' := by
  obtain ⟨c0, c1, c2, c3⟩ := pair_cells w (.string a) (.string b) (.int .i64 every) (.int .i64 robust) 24
  have h4' : (a.toList == [0, 0, 0, 0]) = false := by simp [h4]
  have hma : mayQ a.size every robust 0 = false := by rw [eq4 h1]; exact hm
  have hmb : mayQ b.size every robust 0 = false := by rw [eq4 h2]; exact hm
  clear hm
  go_enter Tryd.func3, Tryd.ntmps3
  go_wp2
  go_quiet (fail)
  go_wp2_with fail
  refine (new_no a every robust 0 _ hma).mono ?_
  rintro e w1 ⟨rfl, hb1⟩
  have hw1 := below_box hb1
  clear hb1
  go_wp2_with fail
  refine (new_no b every robust 0 _ hmb).mono ?_
  rintro e w2 ⟨rfl, hb2⟩
  go_wp2_with (go_at_call 8; refine (live_ _).mono ?_; rintro e w3 ⟨rfl, hb3⟩)
  go_ret
  exact ⟨rfl, (hw1.trans (hb2.mono hw1.size)).trans (hb3.mono (hw1.trans (hb2.mono hw1.size)).size)⟩
theorem asked_div {every ak nx : Int} (he : 4 ≤ every) (h : nx ≤ ak * every) (hn : 200 ≤ nx) : 200 / every ≤ ak := by
  have : 200 / every * every ≤ 200 := Int.ediv_mul_le _ (by omega)
  exact Int.le_of_mul_le_mul_right (by omega : 200 / every * every ≤ ak * every) (by omega)
theorem wait_le (q : Qr) (h : 4 ≤ q.every) : 1 ≤ waitQ q ∧ waitQ q ≤ q.every := by
  unfold waitQ; split <;> omega
theorem mul_ge {robust every : Int} (h : 1 ≤ robust) (he : 0 ≤ every) : every ≤ robust * every := by
  have := Int.mul_le_mul_of_nonneg_right h he
  omega
set_option maxRecDepth 100000 in
set_option maxHeartbeats 8000000 in
theorem two_yes (a b : ByteArray) (every robust : Int) (w : World) (h1 : ((a.size : Int) != 4) = false) (h2 : ((b.size : Int) != 4) = false) (h3 : Op.bytesLess a.toList b.toList = true) (h3' : Op.bytesLess b.toList a.toList = false) (h4 : ¬ a.toList = [0, 0, 0, 0]) (h5 : ¬ 40 < every) (hm : mayQ 4 every robust 0 = true) (hz : zeros a = false) :
    Calls Tryd.prog 3 #[.agg #[.string a, .string b, .int .i64 every, .int .i64 robust]] w fun e w' => e = .returned (.bool true) ∧ Below w.heap.size w w' := by
  obtain ⟨c0, c1, c2, c3⟩ := pair_cells w (.string a) (.string b) (.int .i64 every) (.int .i64 robust) 24
  have h4' : (a.toList == [0, 0, 0, 0]) = false := by simp [h4]
  have hma : mayQ a.size every robust 0 = true := by rw [eq4 h1]; exact hm
  have hmb : mayQ b.size every robust 0 = true := by rw [eq4 h2]; exact hm
  obtain ⟨_, he0, he1, hr0, hr1⟩ := mayQ_lo hm
  have HP : 0 < a.size ∧ 0 < b.size ∧ b.size ≤ 9223372036854775807 ∧ a.size ≤ 9223372036854775807 ∧ b.size = a.size := by
    have e1 := eq4 h1
    have e2 := eq4 h2
    omega
  have HP' := Lib.hid HP
  clear HP
  clear hm
  go_enter Tryd.func3, Tryd.ntmps3
  go_wp2
  go_quiet (fail)
  go_wp2_with fail
  refine (new_ a every robust 0 _ hma).mono ?_
  rintro e w1 ⟨g, hg, rfl, hq, hb1⟩
  have hw1 := below_box hb1
  have hg' : w.heap.size ≤ g := by
    have e : ∀ (o : Obj) (n : Nat), ((w.alloc o).drewN n).heap.size = w.heap.size + 1 := fun o n => World.size_alloc w o
    rw [e] at hg
    omega
  clear hb1 hg c0 c1 c2 c3
  go_wp2_with fail
  refine (new_ b every robust 0 _ hmb).mono ?_
  rintro e w2 ⟨y, hy, rfl, hqy, hb2⟩
  have hw2 := hw1.trans (hb2.mono hw1.size)
  have hqg := Blk.below hq hb2 hq.lt
  have hyg : g < y := Nat.lt_of_lt_of_le hq.lt hy
  clear hb2 hw1 hq hy
  go_wp2_with fail
  go_loopw [11, 12] (fun v11 v12 wr => ∃ (k : Nat) (nx ak ty ny ay : Int), k ≤ 200 ∧ v12 = .int .i64 k ∧ v11 = .int .i64 ak ∧ At wr g ⟨a, every, robust, 0, nx, ak⟩ ∧ At wr y ⟨b, every, robust, ty, ny, ay⟩ ∧ (k : Int) ≤ nx ∧ 0 ≤ ak ∧ ak ≤ k ∧ nx ≤ ak * every ∧ (nx = 0 ∨ nx ≤ ty) ∧ Below w.heap.size w wr) (fun _ v _ => 200 - (intOf v).toNat)
  case atStart => exact ⟨0, 0, 0, 0, 0, 0, by omega, rfl, rfl, hqg, hqy, by omega, by omega, by omega, by omega, by omega, hw2⟩
  case round =>
    obtain ⟨k, nx, ak, ty, ny, ay, hk, rfl, rfl, hqa, hqb, hknx, hak0, hak1, hmul, hty, hbel⟩ := hrel
    by_cases hlt : k < 200
    · have hlt' : (k : Int) < 200 := by omega
      have hin : inB (k : Int) 0 1099511627776 = true := inB_yes (by omega) (by omega)
      by_cases heq : (k : Int) = nx
      · subst heq
        obtain ⟨hw0, hw1⟩ := wait_le ⟨a, every, robust, 0, k, ak⟩ he0
        have hge := mul_ge (robust := robust) hr0 (by omega : 0 ≤ every)
        have hisa : isB ⟨a, every, robust, 0, k, ak⟩ k = true := by rw [isB_of _ _ HP'.out.1]; simp
        simp only at hw0 hw1
        generalize hwt : waitQ ⟨a, every, robust, 0, k, ak⟩ = wt at *
        have HW := Lib.hid hwt
        have HM := Lib.hid hge
        have hm4 : k + wt ≤ (ak + 1) * every := by rw [Int.add_mul]; omega
        have HM4 := Lib.hid hm4
        clear hwt hge hm4 hmul
        go_wp2_with fail
        refine (tick_yes g _ k _ hqa hin hisa (by simp) hak0 (by simp; omega) (by simp; omega) (by simp; omega)).mono ?_
        rintro e w4 ⟨rfl, hqa4, hk4⟩
        have hqb4 := hqb.keep hk4 (by simp; omega)
        have hbel4 := keep_below hbel hk4 (by omega)
        rw [HW.out] at hqa4
        clear hk4 hqa hqb
        go_wp2_with fail
        refine (hear_yes y _ a k _ hqb4 HP'.out.2.1 HP'.out.2.2.2.1 HP'.out.2.2.2.2.symm hin hz h3 (by simp; omega) (by simp; omega) (by simp; omega) (by simp; omega)).mono ?_
        rintro e w5 ⟨rfl, hqb5, hk5⟩
        have hqa5 := hqa4.keep hk5 (by simp; omega)
        have hbel5 := keep_below hbel4 hk5 (by omega)
        clear hk5 hqa4 hqb4
        have hty5 : k + wt ≤ max ty (k + robust * every + 5) := by have := HM.out; omega
        have hty6 : k < max ty (k + robust * every + 5) := by have := HM.out; omega
        simp only at hqb5
        generalize max ty (k + robust * every + 5) = ty5 at *
        have TB := Lib.hid (show isB ⟨b, every, robust, ty5, ny, ay⟩ k = false by rw [isB_of _ _ HP'.out.2.1]; simp; omega)
        have TB2 := Lib.hid (show isB ⟨b, every, robust, ty5, ty5, 0⟩ k = false by rw [isB_of _ _ HP'.out.2.1]; simp; omega)
        have TA := Lib.hid (show isB ⟨a, every, robust, 0, k + wt, ak + 1⟩ k = true by rw [isB_of _ _ HP'.out.1]; simp)
        go_wp2_with fail
        refine (tick_not y _ k _ hqb5 hin TB.out).mono ?_
        rintro e w6 ⟨rfl, hqb6, hk6⟩
        have hqa6 := hqa5.keep hk6 (by simp; omega)
        have hbel6 := keep_below hbel5 hk6 (by omega)
        clear hk6 hqb5 hqa5
        go_wp2_with fail
        refine (hear_ge g _ b k _ hqa6 HP'.out.1 HP'.out.2.2.1 HP'.out.2.2.2.2 hin h3').mono ?_
        rintro e w7 ⟨rfl, hqa7, hk7⟩
        have hqb7 := hqb6.keep hk7 (by simp; omega)
        have hbel7 := keep_below hbel6 hk7 (by omega)
        clear hk7 hqb6 hqa6
        go_wp2_with fail
        refine (is_ y _ k _ hqb7).mono ?_
        rw [TB2.out]
        rintro e w8 ⟨rfl, rfl⟩
        go_wp2_with fail
        refine (is_ g _ k _ hqa7).mono ?_
        rw [TA.out]
        rintro e w8 ⟨rfl, rfl⟩
        go_wp2
        go_roundw
        case rel => exact ⟨k + 1, _, _, _, _, _, by omega, by go_num, rfl, hqa7, hqb7, by omega, by omega, by omega, HM4.out, .inr hty5, hbel7⟩
        case measure => simp [intOf]; omega
      · have hisa : isB ⟨a, every, robust, 0, nx, ak⟩ k = true := by rw [isB_of _ _ HP'.out.1]; simp
        have hlx : (k : Int) < nx := by omega
        have hty5 : nx ≤ ty := by omega
        clear heq
        go_wp2_with fail
        refine (tick_early g _ k _ hqa hin hisa (by simpa using hlx)).mono ?_
        rintro e w5 ⟨rfl, hqa5, hk5⟩
        have hqb5 := hqb.keep hk5 (by simp; omega)
        have hbel5 := keep_below hbel hk5 (by omega)
        clear hk5 hqa hqb
        have TB := Lib.hid (show isB ⟨b, every, robust, ty, ny, ay⟩ k = false by rw [isB_of _ _ HP'.out.2.1]; simp; omega)
        have TB2 := Lib.hid (show isB ⟨b, every, robust, ty, ty, 0⟩ k = false by rw [isB_of _ _ HP'.out.2.1]; simp; omega)
        have TA := Lib.hid (show isB ⟨a, every, robust, 0, nx, ak⟩ k = true by rw [isB_of _ _ HP'.out.1]; simp)
        go_wp2_with fail
        refine (tick_not y _ k _ hqb5 hin TB.out).mono ?_
        rintro e w6 ⟨rfl, hqb6, hk6⟩
        have hqa6 := hqa5.keep hk6 (by simp; omega)
        have hbel6 := keep_below hbel5 hk6 (by omega)
        clear hk6 hqb5 hqa5
        go_wp2_with fail
        refine (hear_ge g _ b k _ hqa6 HP'.out.1 HP'.out.2.2.1 HP'.out.2.2.2.2 hin h3').mono ?_
        rintro e w7 ⟨rfl, hqa7, hk7⟩
        have hqb7 := hqb6.keep hk7 (by simp; omega)
        have hbel7 := keep_below hbel6 hk7 (by omega)
        clear hk7 hqb6 hqa6
        go_wp2_with fail
        refine (is_ y _ k _ hqb7).mono ?_
        rw [TB2.out]
        rintro e w8 ⟨rfl, rfl⟩
        go_wp2_with fail
        refine (is_ g _ k _ hqa7).mono ?_
        rw [TA.out]
        rintro e w8 ⟨rfl, rfl⟩
        go_wp2
        go_roundw
        case rel => exact ⟨k + 1, _, _, _, _, _, by omega, by go_num, rfl, hqa7, hqb7, by omega, by omega, by omega, hmul, .inr hty5, hbel7⟩
        case measure => simp [intOf]; omega
    · have hge : ¬ (k : Int) < 200 := by omega
      have hd : 200 / every ≤ ak := asked_div he0 hmul (by omega)
      clear hmul
      go_wp2_with (go_at_call 8; refine (live_ _).mono ?_; rintro e w3 ⟨rfl, hb3⟩)
      go_ret
      exact ⟨rfl, hbel.trans (hb3.mono hbel.size)⟩
theorem less_asymm : ∀ l m : List UInt8, Op.bytesLess l m = true → Op.bytesLess m l = false
  | [], [], h => by simp [Op.bytesLess] at h
  | [], _ :: _, _ => by simp [Op.bytesLess]
  | _ :: _, [], h => by simp [Op.bytesLess] at h
  | x :: l, y :: m, h => by
    simp only [Op.bytesLess] at h ⊢
    have ih := less_asymm l m
    by_cases h1 : x < y
    · have h2 : ¬ y < x := fun h' => by have := UInt8.lt_iff_toNat_lt.1 h1; have := UInt8.lt_iff_toNat_lt.1 h'; omega
      have h3 : ¬ y = x := fun h' => by subst h'; exact h2 h1
      simp_all
    · simp_all
theorem zeros4 (a : ByteArray) (h : a.size = 4) (hz : ¬ a.toList = [0, 0, 0, 0]) : zeros a = false := by
  rw [ByteArray.toList_eq] at hz
  unfold zeros
  have hl : a.data.toList.length = 4 := h
  generalize a.data.toList = l at *
  match l, hl with
  | [p, q, r, t], _ =>
    simp at hz ⊢
    intro h1 h2 h3
    exact hz h1 h2 h3
theorem two_ (a b : ByteArray) (every robust : Int) (w : World) :
    Calls Tryd.prog 3 #[.agg #[.string a, .string b, .int .i64 every, .int .i64 robust]] w fun e w' => e = .returned (.bool true) ∧ Below w.heap.size w w' := by
  rcases two_cases a b every with h | h | h | h | h | ⟨h1, h2, h3, h4, h5⟩
  · exact two_not a b every robust w (.inl h)
  · exact two_not a b every robust w (.inr (.inl h))
  · exact two_not a b every robust w (.inr (.inr (.inl h)))
  · exact two_not a b every robust w (.inr (.inr (.inr (.inl h))))
  · exact two_not a b every robust w (.inr (.inr (.inr (.inr h))))
  · cases hm : mayQ 4 every robust 0
    · exact two_bad a b every robust w h1 h2 h3 h4 h5 hm
    · exact two_yes a b every robust w h1 h2 h3 (less_asymm _ _ h3) h4 h5 hm (zeros4 a (eq4 h1) h4)
end Q
end Go.Proofs.YtdpppljobikjhaaDoor
