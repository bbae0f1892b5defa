/-
  The walks of slices.Contains at ints and of the program's Active.
-/
import Derived.Test.YtdgbemafhhhceaaTreePRest
import Derived.Test.YtdgbemafhhhceaaTreeRMore
namespace Go.Proofs.Ytdgbemafhhhceaa
set_option linter.unusedVariables false
set_option linter.unusedSimpArgs false
open Go.RowKit
open Go.Proofs.Ytdgbemafhhhceaa.Prio
namespace Tree
def IndexIs (xs : List Int) (v z : Int) : Prop := (0 ≤ z ↔ v ∈ xs)
theorem index_ (w : World) (A : Option Addr) (n c : Nat) (xs : List Int) (v : Int) (hr : Reads w w.heap.size 1 A n (xs.map (Value.int .i64))) (hn : n ≤ 5000) :
    Calls Try.prog 37 #[.slice A n c, .int .i64 v] w fun e w' => (∃ z, IndexIs xs v z ∧ e = .returned (.int .i64 z)) ∧ w = w' := by
  have hl : xs.length = n := by have := hr.1; simpa using this
  have HL := Lib.hid hl
  clear hl
  go_enter Try.func37, Try.ntmps37
  go_wp2
  go_loop [8] (fun i => ∃ k : Nat, k ≤ n ∧ i = .int .i64 k ∧ v ∉ xs.take k) (fun i => n - (intOf i).toNat)
  case atStart => exact ⟨0, Nat.zero_le _, rfl, by simp⟩
  case round =>
    obtain ⟨k, hk, rfl, hno⟩ := hrel
    have HNO := Lib.hid hno
    clear hno
    by_cases hlt : k < n
    · have hlt' : (k : Int) < (n : Int) := by omega
      obtain ⟨b, o, x, rfl, hb, hx, d0⟩ := readI hr hlt
      have HX := Lib.hid hx
      clear hx
      by_cases hvx : v = x
      · have hvx' : (v == x) = true := by simp [hvx]
        have HM : Hid (IndexIs xs v k) := Lib.hid ⟨fun _ => by rw [hvx]; exact List.mem_of_getElem? HX.out, fun _ => by omega⟩
        clear hvx
        go_wp2
        go_ret
        exact ⟨⟨k, HM.out, rfl⟩, rfl⟩
      · have hvx' : (v == x) = false := by simp [hvx]
        have HV := Lib.hid hvx
        clear hvx
        go_wp2
        go_round
        case rel => exact ⟨k + 1, by omega, by go_num, fun h => by
          rcases mem_take_succ HX.out h with h | h
          · exact HNO.out h
          · exact HV.out h⟩
        case measure => simp [intOf]; omega
    · have e : k = n := by omega
      have HM : Hid (IndexIs xs v (-1)) := Lib.hid ⟨fun h => by omega, fun h => by
        have h9 := HNO.out
        rw [e, ← HL.out, List.take_length] at h9
        exact absurd h h9⟩
      clear e
      go_wp2
      go_ret
      exact ⟨⟨-1, HM.out, rfl⟩, rfl⟩
theorem contains_ (w : World) (A : Option Addr) (n c : Nat) (xs : List Int) (v : Int) (hr : Reads w w.heap.size 1 A n (xs.map (Value.int .i64))) (hn : n ≤ 5000) :
    Calls Try.prog 27 #[.slice A n c, .int .i64 v] w fun e w' => e = .returned (.bool (decide (v ∈ xs))) ∧ w = w' := by
  have HI := Lib.hid (index_ w A n c xs v hr hn)
  clear hr
  go_enter Try.func27, Try.ntmps27
  go_wp2_with fail
  refine HI.out.mono ?_
  rintro e w1 ⟨⟨z, hz, rfl⟩, rfl⟩
  have HZ : Hid (decide (0 ≤ z) = decide (v ∈ xs)) := Lib.hid (by rw [decide_eq_decide]; exact hz)
  clear hz
  go_wp2
  all_goals
    go_ret
    exact ⟨retb (by rw [← HZ.out]), rfl⟩
theorem blk_reads2 {w : World} {g : Nat} {t : TypeId} {x y : Int} (h : Blk w g t #[.int .i64 x, .int .i64 y]) (hg : g < w.heap.size) : Reads w w.heap.size 1 (some ⟨g, 0, none⟩) 2 ([x, y].map (Value.int .i64)) :=
  ⟨by simp, fun _ => ⟨_, rfl, hg, fun j u hu => by
    have h2 := h.cell j
    have e : (#[Value.int .i64 x, Value.int .i64 y] : Array Value)[j]? = ([x, y].map (Value.int .i64))[j]? := by simp
    rw [e, hu] at h2
    by_cases hj : j = 0
    · subst hj; simpa [Addr.add] using h2
    · simpa [Addr.add, hj] using h2⟩⟩
set_option maxHeartbeats 4000000 in
set_option maxRecDepth 100000 in
theorem active_ok (A1 : Option Addr) (n c1 : Nat) (ids : List Int) (A2 : Option Addr) (m c2 : Nat) (ls : List Lk) (w : World) (h1 : Reads w w.heap.size 1 A1 n (ids.map (Value.int .u64))) (h2 : Reads w w.heap.size 5 A2 m (ls.flatMap cellsL)) (hwf : ∀ x ∈ ids, (Lit.int .u64 x).wf = true) (hmay : May ids ls) :
    Calls Try.prog 14 #[.slice A1 n c1, .slice A2 m c2] w fun e w' => (∃ A' c', e = .returned (.tuple #[.slice A' (activeOf ids ls).length c', .int .i64 0]) ∧ Reads w' w'.heap.size 1 A' (activeOf ids ls).length ((activeOf ids ls).map (Value.int .i64))) ∧ Below w.heap.size w w' := by
  obtain ⟨i0, hi, hz0, hz1, hz2⟩ := info_parts infoI
  have hl2 := len_of h2
  have hm : m ≤ 40 := by have := hmay.l; omega
  have HRR := Lib.hid (rest_ok A1 n c1 ids A2 m c2 ls w h1 h2 hwf hmay)
  have HL2 := Lib.hid hl2
  clear h1 h2 hmay hl2 hwf
  go_enter Try.func14, Try.ntmps14
  go_wp2_with fail
  refine HRR.out.mono ?_
  rintro e w1 ⟨⟨A3, c3, rfl, h3⟩, b1⟩
  have z1 := b1.size
  have HB1 := Lib.hid b1
  have HR3 := Lib.hid h3
  clear b1 h3
  go_wp2
  go_loopw [8, 22] (fun v i wr => ∃ k : Nat, k ≤ m ∧ i = .int .i64 k ∧ wr.ownsRow w1.heap.size 3 1 v (activeTo (restOf ids ls) k).length ((activeTo (restOf ids ls) k).map (Value.int .i64)) ∧ Below w1.heap.size w1 wr) (fun _ i _ => m - (intOf i).toNat)
  case atStart => exact ⟨0, Nat.zero_le _, rfl, ⟨by simp [activeTo], .inl ⟨rfl, by simp [activeTo]⟩⟩, Below.refl _ _⟩
  case round =>
    obtain ⟨k, hk, rfl, hown, hbel⟩ := hrel
    have hbz := hbel.size
    by_cases hlt : k < m
    · have hlt' : (k : Int) < (m : Int) := by omega
      obtain ⟨b, o, p, rfl, hb, hp, d0, d1⟩ := read2 (HR3.out.below hbel) hlt
      obtain ⟨p1, p2⟩ := p
      have HO := Lib.hid (hown.alloc (.cells #[.int .i64 p1, .int .i64 p2] 38))
      have HB := Lib.hid (hbel.alloc hbz (.cells #[.int .i64 p1, .int .i64 p2] 38))
      have HBX := Lib.hid (Blk.new wr 38 #[.int .i64 p1, .int .i64 p2])
      have hzw : wr.heap.size < (wr.alloc (.cells #[.int .i64 p1, .int .i64 p2] 38)).heap.size := by simp
      have HP := Lib.hid hp
      have hal := activeTo_len (restOf ids ls) k
      have q3 : (activeTo (restOf ids ls) k).length + 1 ≤ maxLen := by unfold maxLen; omega
      have q4 : ((activeTo (restOf ids ls) k).length + 1) * 8 ≤ 140737488355328 := by omega
      simp only at d0 d1
      clear hp hown hbel
      go_upto_region 8 with (fail)
      clear d0 d1
      generalize wr.alloc (.cells #[.int .i64 p1, .int .i64 p2] 38) = W at *
      have HC := Lib.hid (contains_ W (some ⟨wr.heap.size, 0, none⟩) 2 2 [p1, p2] 3 (blk_reads2 HBX.out hzw) (by omega))
      by_cases hx : p1 ≠ 3 ∧ p2 ≠ 3
      · have hd : decide ((3 : Int) ∈ [p1, p2]) = false := by
          rw [decide_eq_false_iff_not]
          intro h
          rcases List.mem_cons.1 h with h | h
          · exact hx.1 h.symm
          · simp at h
            exact hx.2 h.symm
        rw [hd] at HC
        have HT := Lib.hid (activeTo_yes HP.out hx)
        clear hx hd
        go_wp2_with (first
          | (go_at_call 27; refine HC.out.mono ?_; rintro e w9 ⟨rfl, rfl⟩)
          | (at_builtin; refine wpList_append_own _ rfl (.tmp 30) (.tmp 32) 33 rfl w1.heap.size 3 i0 _ 1 8 Try.underlying33 hi hz0 hz1 hz2 rfl (by omega) u8 _ _ rfl (HO.out.alloc _) ⟨W.heap.size, 0, none⟩ 1 1 [.int .i64 k] rfl rfl (new_cells' _ [.int .i64 k] 3 _ rfl) (oneI k) q3 q4 (by simp; omega) ?_; intro v4 w4 hown4 hg4 _)
          | go_in)
        refine ⟨⟨k + 1, by omega, by go_num, ?_, (HB.out.alloc HB.out.size _).grown hg4 (by simp; omega) (own_from HO.out)⟩, by simp [intOf]; omega⟩
        rw [HT.out, List.map_append, List.length_append]
        exact hown4
      · have hd : decide ((3 : Int) ∈ [p1, p2]) = true := by
          rw [decide_eq_true_eq]
          by_cases h1 : p1 = 3
          · rw [h1]; simp
          · by_cases h2 : p2 = 3
            · rw [h2]; simp
            · exact absurd ⟨h1, h2⟩ hx
        rw [hd] at HC
        have HT := Lib.hid (activeTo_no HP.out hx)
        clear hx hd
        go_wp2_with (first
          | (go_at_call 27; refine HC.out.mono ?_; rintro e w9 ⟨rfl, rfl⟩)
          | go_in)
        exact ⟨⟨k + 1, by omega, by go_num, by rw [HT.out]; exact HO.out, HB.out⟩, by simp [intOf]; omega⟩
    · have e : k = m := by omega
      have HO3 : Hid (wr.ownsRow w1.heap.size 3 1 u8 (activeOf ids ls).length ((activeOf ids ls).map (Value.int .i64))) := Lib.hid (by unfold activeOf; rw [HL2.out, ← e]; exact hown)
      have HB := Lib.hid hbel
      subst e
      obtain ⟨A9, c9, rfl, hr9⟩ := own_form HO3.out
      clear hown hbel
      go_wp2
      go_ret2
      exact ⟨⟨_, _, rfl, hr9⟩, HB1.out.trans (HB.out.mono z1)⟩
theorem active_bad (A1 : Option Addr) (n c1 : Nat) (ids : List Int) (A2 : Option Addr) (m c2 : Nat) (ls : List Lk) (w : World) (h1 : Reads w w.heap.size 1 A1 n (ids.map (Value.int .u64))) (h2 : Reads w w.heap.size 5 A2 m (ls.flatMap cellsL)) (hwf : ∀ x ∈ ids, (Lit.int .u64 x).wf = true) (hno : ¬ May ids ls) :
    Calls Try.prog 14 #[.slice A1 n c1, .slice A2 m c2] w fun e w' => e = .returned (.tuple #[.slice none 0 0, .int .i64 3]) ∧ Below w.heap.size w w' := by
  have HC := Lib.hid (rest_bad A1 n c1 ids A2 m c2 ls w h1 h2 hwf hno)
  clear h1 h2 hwf hno
  go_enter Try.func14, Try.ntmps14
  go_wp2_with fail
  refine HC.out.mono ?_
  rintro e w1 ⟨rfl, b1⟩
  go_wp2
  go_ret2
  exact ⟨rfl, b1⟩
end Tree
end Go.Proofs.Ytdgbemafhhhceaa
