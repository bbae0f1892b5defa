/-
  The walks of the querier's methods: New, Is, Tick, Hear.
-/
import Derived.Test.YtdpppljobikjhaaDoorQTrim
import Derived.StillTailTactics
import Derived.BigQuiet
import Derived.RegionTactic
namespace Go.Proofs.YtdpppljobikjhaaDoor
set_option linter.unusedVariables false
set_option linter.unusedSimpArgs false
open Go.RowKit
namespace Q
structure Qr where
  self : ByteArray
  every : Int
  robust : Int
  till : Int
  next : Int
  asked : Int
def mayQ (n every robust now : Int) : Bool := has3 0 4 16 n && (inB every 4 100000 && (inB robust 1 7 && inB now 0 1099511627776))
def At (w : World) (g : Nat) (q : Qr) : Prop := Blk w g 68 #[.string q.self, .int .i64 q.every, .int .i64 q.robust, .int .i64 q.till, .int .i64 q.next, .int .i64 q.asked]
theorem At.cells {w : World} {g : Nat} {q : Qr} (h : At w g q) :
    w.cell? ⟨g, 0, none⟩ = some (.string q.self) ∧ w.cell? ⟨g, 1, none⟩ = some (.int .i64 q.every) ∧ w.cell? ⟨g, 2, none⟩ = some (.int .i64 q.robust) ∧ w.cell? ⟨g, 3, none⟩ = some (.int .i64 q.till) ∧ w.cell? ⟨g, 4, none⟩ = some (.int .i64 q.next) ∧ w.cell? ⟨g, 5, none⟩ = some (.int .i64 q.asked) ∧
    w.frozen? ⟨g, 3, none⟩ = false ∧ w.frozen? ⟨g, 4, none⟩ = false ∧ w.frozen? ⟨g, 5, none⟩ = false :=
  ⟨Blk.cell h 0, Blk.cell h 1, Blk.cell h 2, Blk.cell h 3, Blk.cell h 4, Blk.cell h 5, Blk.frozen h 3, Blk.frozen h 4, Blk.frozen h 5⟩
def Made (q : Qr) (w : World) (e : Ending) (w' : World) : Prop := ∃ g, w.heap.size ≤ g ∧ e = .returned (.tuple #[.pointer (some ⟨g, 0, none⟩), .int .i64 0]) ∧ At w' g q ∧ Below w.heap.size w w'
theorem cell_new (w : World) (a b c : Value) (t : TypeId) : (w.alloc (.cells #[a, b, c] t)).cell? ⟨w.heap.size, 0, none⟩ = some a ∧ (w.alloc (.cells #[a, b, c] t)).cell? ⟨w.heap.size, 1, none⟩ = some b ∧ (w.alloc (.cells #[a, b, c] t)).cell? ⟨w.heap.size, 2, none⟩ = some c :=
  ⟨(Blk.new w t #[a, b, c]).cell 0, (Blk.new w t #[a, b, c]).cell 1, (Blk.new w t #[a, b, c]).cell 2⟩
set_option maxRecDepth 100000 in
theorem new_ (s : ByteArray) (every robust now : Int) (w : World) (h : mayQ s.size every robust now = true) :
    Calls Tryd.prog 9 #[.string s, .int .i64 every, .int .i64 robust, .int .i64 now] w (Made ⟨s, every, robust, 0, now, 0⟩ w) := by
  simp only [mayQ, Bool.and_eq_true] at h
  obtain ⟨h1, h2, h3, h4⟩ := h
  obtain ⟨c0, c1, c2⟩ := cell_new w (.int .i64 0) (.int .i64 4) (.int .i64 16) 3
  go_enter Tryd.func9, Tryd.ntmps9
  go_wp2_with (first
    | (go_at_call 20; refine (contains_ w.heap.size 0 4 16 s.size _ c0 c1 c2).mono ?_; rintro e w1 ⟨rfl, rfl⟩)
    | (go_at_call 21; refine (within_ _ _ _ _).mono ?_; rintro e w1 ⟨rfl, rfl⟩))
  go_ret2
  refine ⟨w.heap.size + 1, by omega, rfl, ?_, by repeat (first | exact Below.refl _ _ | apply Below.drew | (refine Below.alloc ?_ (by simp <;> omega) _) | (refine Below.setCell ?_ (by simp <;> omega) _))⟩
  have h := Blk.new (w.alloc (.cells #[.int .i64 0, .int .i64 4, .int .i64 16] 3)) 68 #[.string s, .int .i64 every, .int .i64 robust, .int .i64 0, .int .i64 now, .int .i64 0]
  simp only [World.size_alloc] at h
  exact h
set_option maxRecDepth 100000 in
theorem new_no (s : ByteArray) (every robust now : Int) (w : World) (h : mayQ s.size every robust now = false) :
    Calls Tryd.prog 9 #[.string s, .int .i64 every, .int .i64 robust, .int .i64 now] w fun e w' => e = .returned (.tuple #[.pointer none, .int .i64 1]) ∧ Below w.heap.size w w' := by
  obtain ⟨c0, c1, c2⟩ := cell_new w (.int .i64 0) (.int .i64 4) (.int .i64 16) 3
  have h' : has3 0 4 16 s.size = false ∨ (has3 0 4 16 s.size = true ∧ inB every 4 100000 = false) ∨ (has3 0 4 16 s.size = true ∧ inB every 4 100000 = true ∧ inB robust 1 7 = false) ∨ (has3 0 4 16 s.size = true ∧ inB every 4 100000 = true ∧ inB robust 1 7 = true ∧ inB now 0 1099511627776 = false) := by
    unfold mayQ at h
    cases e1 : has3 0 4 16 s.size <;> cases e2 : inB every 4 100000 <;> cases e3 : inB robust 1 7 <;> cases e4 : inB now 0 1099511627776 <;> simp [e1, e2, e3, e4] at h ⊢
  clear h
  rcases h' with h1 | ⟨h1, h2⟩ | ⟨h1, h2, h3⟩ | ⟨h1, h2, h3, h4⟩
  all_goals
    go_enter Tryd.func9, Tryd.ntmps9
    go_wp2_with (first
      | (go_at_call 20; refine (contains_ w.heap.size 0 4 16 s.size _ c0 c1 c2).mono ?_; rintro e w1 ⟨rfl, rfl⟩)
      | (go_at_call 21; refine (within_ _ _ _ _).mono ?_; rintro e w1 ⟨rfl, rfl⟩))
    go_ret2
    exact ⟨rfl, by repeat (first | exact Below.refl _ _ | apply Below.drew | (refine Below.alloc ?_ (by simp <;> omega) _) | (refine Below.setCell ?_ (by simp <;> omega) _))⟩
def isB (q : Qr) (now : Int) : Bool := !q.self.toList.isEmpty && decide (q.till ≤ now)
theorem is_ (g : Nat) (q : Qr) (now : Int) (w : World) (h : At w g q) : Calls Tryd.prog 12 #[.pointer (some ⟨g, 0, none⟩), .int .i64 now] w fun e w' => e = .returned (.bool (isB q now)) ∧ w = w' := by
  obtain ⟨c0, c1, c2, c3, c4, c5, f3, f4, f5⟩ := h.cells
  by_cases h0 : q.self.toList.isEmpty = true
  · have E := Lib.hid (show isB q now = false by simp [isB, h0])
    have h1 : q.self.toList = [] := by simpa using h0
    go_enter Tryd.func12, Tryd.ntmps12
    go_wp2
    go_ret
    exact ⟨ret_bool E.out.symm, rfl⟩
  · have h0' : q.self.toList.isEmpty = false := by simpa using h0
    have h1 : ¬ q.self.toList = [] := by simpa using h0
    by_cases h2 : q.till ≤ now
    · have E := Lib.hid (show isB q now = true by simp [isB, h0', h2])
      go_enter Tryd.func12, Tryd.ntmps12
      go_wp2
      go_ret
      exact ⟨ret_bool E.out.symm, rfl⟩
    · have E := Lib.hid (show isB q now = false by simp [isB, h0', h2])
      go_enter Tryd.func12, Tryd.ntmps12
      go_wp2
      go_ret
      exact ⟨ret_bool E.out.symm, rfl⟩
theorem tick_bad (g : Nat) (now : Int) (w : World) (h : inB now 0 1099511627776 = false) : Calls Tryd.prog 10 #[.pointer (some ⟨g, 0, none⟩), .int .i64 now] w fun e w' => e = .returned (.bool false) ∧ w = w' := by
  go_enter Tryd.func10, Tryd.ntmps10
  go_wp2_with (go_at_call 21; refine (within_ _ _ _ _).mono ?_; rintro e w1 ⟨rfl, rfl⟩)
  go_ret
  exact ⟨rfl, rfl⟩
def Turned (g : Nat) (r : Bool) (q : Qr) (w : World) (e : Ending) (w' : World) : Prop := e = .returned (.bool r) ∧ At w' g q ∧ Keep [g] w w'
theorem tick_not (g : Nat) (q : Qr) (now : Int) (w : World) (hq : At w g q) (h : inB now 0 1099511627776 = true) (hi : isB q now = false) :
    Calls Tryd.prog 10 #[.pointer (some ⟨g, 0, none⟩), .int .i64 now] w (Turned g false { q with next := q.till, asked := 0 } w) := by
  obtain ⟨c0, c1, c2, c3, c4, c5, f3, f4, f5⟩ := hq.cells
  go_enter Tryd.func10, Tryd.ntmps10
  go_wp2_with (first
    | (go_at_call 21; refine (within_ _ _ _ _).mono ?_; rintro e w1 ⟨rfl, rfl⟩)
    | (go_at_call 12; refine (is_ g q now _ hq).mono ?_; rintro e w1 ⟨rfl, rfl⟩))
  go_ret
  exact ⟨rfl, (Blk.set_ hq 4 _).set_ 5 _, ((Keep.refl _ _).set_ (.inl (by simp)) _).set_ (.inl (by simp)) _⟩
theorem tick_early (g : Nat) (q : Qr) (now : Int) (w : World) (hq : At w g q) (h : inB now 0 1099511627776 = true) (hi : isB q now = true) (hn : now < q.next) :
    Calls Tryd.prog 10 #[.pointer (some ⟨g, 0, none⟩), .int .i64 now] w (Turned g false q w) := by
  obtain ⟨c0, c1, c2, c3, c4, c5, f3, f4, f5⟩ := hq.cells
  go_enter Tryd.func10, Tryd.ntmps10
  go_wp2_with (first
    | (go_at_call 21; refine (within_ _ _ _ _).mono ?_; rintro e w1 ⟨rfl, rfl⟩)
    | (go_at_call 12; refine (is_ g q now _ hq).mono ?_; rintro e w1 ⟨rfl, rfl⟩))
  go_ret
  exact ⟨rfl, hq, Keep.refl _ _⟩
def waitQ (q : Qr) : Int := if q.asked + 1 < q.robust then q.every / 4 else q.every
theorem tick_yes (g : Nat) (q : Qr) (now : Int) (w : World) (hq : At w g q) (h : inB now 0 1099511627776 = true) (hi : isB q now = true) (hn : ¬ now < q.next) (ha : 0 ≤ q.asked) (ha' : q.asked ≤ 1000000) (he : 0 ≤ q.every) (he' : q.every ≤ 100000) :
    Calls Tryd.prog 10 #[.pointer (some ⟨g, 0, none⟩), .int .i64 now] w (Turned g true { q with next := now + waitQ q, asked := q.asked + 1 } w) := by
  obtain ⟨c0, c1, c2, c3, c4, c5, f3, f4, f5⟩ := hq.cells
  obtain ⟨hn0, hn1⟩ := inB_iff.1 h
  by_cases hr : q.asked + 1 < q.robust
  · have E := Lib.hid (show waitQ q = q.every / 4 by simp [waitQ, hr])
    go_enter Tryd.func10, Tryd.ntmps10
    go_wp2_with (first
      | (go_at_call 21; refine (within_ _ _ _ _).mono ?_; rintro e w1 ⟨rfl, rfl⟩)
      | (go_at_call 12; refine (is_ g q now _ hq).mono ?_; rintro e w1 ⟨rfl, rfl⟩))
    go_region
    all_goals
      go_wp2
      go_ret
      refine ⟨rfl, ?_, ?_⟩
      · rw [E.out]
        exact (Blk.set_ hq 5 _).set_ 4 _
      · exact ((Keep.refl _ _).set_ (.inl (by simp)) _).drew.set_ (.inl (by simp)) _
  · have E := Lib.hid (show waitQ q = q.every by simp [waitQ, hr])
    go_enter Tryd.func10, Tryd.ntmps10
    go_wp2_with (first
      | (go_at_call 21; refine (within_ _ _ _ _).mono ?_; rintro e w1 ⟨rfl, rfl⟩)
      | (go_at_call 12; refine (is_ g q now _ hq).mono ?_; rintro e w1 ⟨rfl, rfl⟩))
    go_region
    all_goals
      go_wp2
      go_ret
      refine ⟨rfl, ?_, ?_⟩
      · rw [E.out]
        exact (Blk.set_ hq 5 _).set_ 4 _
      · exact ((Keep.refl _ _).set_ (.inl (by simp)) _).drew.set_ (.inl (by simp)) _
theorem hear_none (g : Nat) (q : Qr) (src : ByteArray) (now : Int) (w : World) (hq : At w g q) (h : q.self.toList.isEmpty = true) :
    Calls Tryd.prog 11 #[.pointer (some ⟨g, 0, none⟩), .string src, .int .i64 now] w fun e w' => e = .returned (.bool false) ∧ w = w' := by
  obtain ⟨c0, c1, c2, c3, c4, c5, f3, f4, f5⟩ := hq.cells
  have h1 : q.self.toList = [] := by simpa using h
  go_enter Tryd.func11, Tryd.ntmps11
  go_wp2
  go_ret
  exact ⟨rfl, rfl⟩
theorem ne_of_zeros {t src : ByteArray} (h : t.data.toList.isEmpty = zeros src) (hz : zeros src = false) : ¬ t.toList = [] ∧ t.toList.isEmpty = false := by
  rw [hz] at h
  rw [ByteArray.toList_eq]
  refine ⟨fun e => ?_, h⟩
  rw [e] at h
  cases h
theorem max_cases (a b : Int) : (a < b ∧ max a b = b) ∨ (¬ a < b ∧ max a b = a) := by omega
set_option maxRecDepth 100000 in
theorem hear_yes (g : Nat) (q : Qr) (src : ByteArray) (now : Int) (w : World) (hq : At w g q) (h0 : 0 < q.self.size) (hs : src.size ≤ 9223372036854775807) (hl : src.size = q.self.size) (hn : inB now 0 1099511627776 = true) (hz : zeros src = false) (hlt : Op.bytesLess src.toList q.self.toList = true) (hr0 : 0 ≤ q.robust) (hr1 : q.robust ≤ 7) (he0 : 0 ≤ q.every) (he1 : q.every ≤ 100000) :
    Calls Tryd.prog 11 #[.pointer (some ⟨g, 0, none⟩), .string src, .int .i64 now] w (Turned g true { q with till := max q.till (now + q.robust * q.every + 5) } w) := by
  obtain ⟨c0, c1, c2, c3, c4, c5, f3, f4, f5⟩ := hq.cells
  obtain ⟨k1, k2⟩ := ne_spell h0
  have hl' : ((src.size : Int) != (q.self.size : Int)) = false := by simp [hl]
  have HL := Lib.hid hl
  clear hl
  go_enter Tryd.func11, Tryd.ntmps11
  go_wp2_with (first
    | (go_at_call 21; refine (within_ _ _ _ _).mono ?_; rintro e w1 ⟨rfl, rfl⟩)
    | (go_at_call 22; refine (trim_ src _ hs (by have := HL.out; omega)).mono ?_; rintro e w1 ⟨t, rfl, ht, rfl⟩; obtain ⟨t1, t2⟩ := ne_of_zeros ht hz))
  have m0 : 0 ≤ q.robust * q.every := Int.mul_nonneg hr0 he0
  have m1 : q.robust * q.every ≤ 700000 := by
    have := Int.mul_le_mul hr1 he1 he0 (by omega)
    omega
  obtain ⟨n0, n1⟩ := inB_iff.1 hn
  have x1 : IntKind.i64.wrap (q.robust * q.every) = q.robust * q.every := IntWalk.i64_in _ (by omega)
  have x2 : IntKind.i64.wrap (now + q.robust * q.every) = now + q.robust * q.every := IntWalk.i64_in _ (by omega)
  have x3 : IntKind.i64.wrap (now + q.robust * q.every + 5) = now + q.robust * q.every + 5 := IntWalk.i64_in _ (by omega)
  rcases max_cases q.till (now + q.robust * q.every + 5) with ⟨hm, em⟩ | ⟨hm, em⟩
  all_goals
    have EM := Lib.hid em
    clear em m0 m1
    refine region_tail 20 (by kernel_rfl) (by kernel_rfl) ?_
    simp only [List.take_succ_cons, List.take_zero, List.drop_succ_cons, List.drop_zero]
    repeat still_step
    refine wpStill_nil ?_
    go_wp2
    go_ret
    refine ⟨rfl, ?_, ?_⟩
    · rw [EM.out]
      exact Blk.set_ hq 3 _
    · exact ((Keep.refl _ _).set_ (.inl (by simp)) _).drew.drew
set_option maxRecDepth 100000 in
theorem hear_ge (g : Nat) (q : Qr) (src : ByteArray) (now : Int) (w : World) (hq : At w g q) (h0 : 0 < q.self.size) (hs : src.size ≤ 9223372036854775807) (hl : src.size = q.self.size) (hn : inB now 0 1099511627776 = true) (hlt : Op.bytesLess src.toList q.self.toList = false) :
    Calls Tryd.prog 11 #[.pointer (some ⟨g, 0, none⟩), .string src, .int .i64 now] w (Turned g false q w) := by
  obtain ⟨c0, c1, c2, c3, c4, c5, f3, f4, f5⟩ := hq.cells
  obtain ⟨k1, k2⟩ := ne_spell h0
  have hl' : ((src.size : Int) != (q.self.size : Int)) = false := by simp [hl]
  have HL := Lib.hid hl
  clear hl
  go_enter Tryd.func11, Tryd.ntmps11
  go_wp2_with (first
    | (go_at_call 21; refine (within_ _ _ _ _).mono ?_; rintro e w1 ⟨rfl, rfl⟩)
    | (go_at_call 22; refine (trim_ src _ hs (by have := HL.out; omega)).mono ?_; rintro e w1 ⟨t, rfl, ht, rfl⟩))
  all_goals
    go_ret
    exact ⟨rfl, hq, (Keep.refl _ _).drew⟩
end Q
end Go.Proofs.YtdpppljobikjhaaDoor
