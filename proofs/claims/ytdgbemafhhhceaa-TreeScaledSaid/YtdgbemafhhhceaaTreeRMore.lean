/-
  The walks of SameInts, few, and the document's Active.
-/
import Derived.Test.YtdgbemafhhhceaaTreeRRest
namespace Go.Proofs.Ytdgbemafhhhceaa
set_option linter.unusedVariables false
set_option linter.unusedSimpArgs false
open Go.RowKit
open Go.Proofs.Ytdgbemafhhhceaa.Prio
namespace Tree
theorem oneI (x : Int) : ∀ u ∈ [Value.int .i64 x], u.oneCell' = true := by
  intro u hu
  simp at hu
  rcases hu with rfl
  rfl
set_option maxRecDepth 20000 in
theorem sameInts_ (w : World) (A1 A2 : Option Addr) (c1 c2 n : Nat) (l : List Int) (h1 : Reads w w.heap.size 1 A1 n (l.map (Value.int .i64))) (h2 : Reads w w.heap.size 1 A2 n (l.map (Value.int .i64))) (hn : n ≤ 5000) :
    Calls Try.prog 17 #[.slice A1 n c1, .slice A2 n c2] w fun e w' => e = .returned (.bool true) ∧ ∃ m, w' = w.drewN m := by
  go_enter Try.func17, Try.ntmps17
  go_wp2
  go_loopw [5] (fun i wr => ∃ (k m : Nat), k ≤ n ∧ i = .int .i64 k ∧ wr = w.drewN m) (fun i _ => n - (intOf i).toNat)
  case atStart => exact ⟨0, 0, Nat.zero_le _, rfl, rfl⟩
  case round =>
    obtain ⟨k, m, hk, rfl, rfl⟩ := hrel
    by_cases hlt : k < n
    · have hlt' : (k : Int) < (n : Int) := by omega
      obtain ⟨b1, o1, x, rfl, hb1, hx, d1⟩ := readI h1 hlt
      obtain ⟨b2, o2, y, rfl, hb2, hy, d2⟩ := readI h2 hlt
      rw [hx] at hy
      cases hy
      clear h1 h2 hx
      go_wp2
      go_quiet (fail)
      go_wp2
      exact ⟨⟨k + 1, m + nq, by omega, by go_num, rfl⟩, by simp [intOf]; omega⟩
    · have e : k = n := by omega
      subst e
      go_wp2
      go_ret
      exact ⟨rfl, m, rfl⟩
def fewB (n m : Nat) : Bool := decide (n ≤ 12) && decide (m ≤ 30)
theorem few_ (w : World) (A1 A2 : Option Addr) (n c1 m c2 : Nat) : Calls Try.prog 15 #[.slice A1 n c1, .slice A2 m c2] w fun e w' => e = .returned (.bool (fewB n m)) ∧ w = w' := by
  have hh : ∀ b, fewB n m = b → Hid (fewB n m = b) := fun _ h => Lib.hid h
  by_cases h1 : n ≤ 12
  · have h1' : (n : Int) ≤ 12 := by omega
    by_cases h2 : m ≤ 30
    · have h2' : (m : Int) ≤ 30 := by omega
      have H := Lib.hid (show fewB n m = true by simp [fewB, h1, h2])
      clear hh h1 h2
      go_enter Try.func15, Try.ntmps15
      go_wp2
      go_ret
      exact ⟨retb (by rw [H.out]), rfl⟩
    · have h2' : ¬ (m : Int) ≤ 30 := by omega
      have H := Lib.hid (show fewB n m = false by simp [fewB, h2])
      clear hh h1 h2
      go_enter Try.func15, Try.ntmps15
      go_wp2
      go_ret
      exact ⟨retb (by rw [H.out]), rfl⟩
  · have h1' : ¬ (n : Int) ≤ 12 := by omega
    have H := Lib.hid (show fewB n m = false by simp [fewB, h1])
    clear hh h1
    go_enter Try.func15, Try.ntmps15
    go_wp2
    go_ret
    exact ⟨retb (by rw [H.out]), rfl⟩
theorem read2 {w : World} {B n : Nat} {A : Option Addr} {ps : List (Int × Int)} (hr : Reads w B 2 A n (ps.flatMap cells2)) {k : Nat} (hk : k < n) :
    ∃ (b off : Nat) (p : Int × Int), A = some ⟨b, off, none⟩ ∧ b < B ∧ ps[k]? = some p ∧ w.cell? ⟨b, off + k * 2, none⟩ = some (.int .i64 p.1) ∧ w.cell? ⟨b, off + k * 2 + 1, none⟩ = some (.int .i64 p.2) := by
  obtain ⟨b, off, p, e, hb, hl, hc⟩ := hr.chunk cells2 2 (by omega) len2 hk
  exact ⟨b, off, p, e, hb, hl, hc 0 _ rfl, hc 1 _ rfl⟩
theorem activeTo_yes {r : List (Int × Int)} {k : Nat} {p : Int × Int} (h : r[k]? = some p) (h1 : p.1 ≠ 3 ∧ p.2 ≠ 3) : activeTo r (k + 1) = activeTo r k ++ [(k : Int)] := by simp [activeTo, h, h1]
theorem activeTo_no {r : List (Int × Int)} {k : Nat} {p : Int × Int} (h : r[k]? = some p) (h1 : ¬ (p.1 ≠ 3 ∧ p.2 ≠ 3)) : activeTo r (k + 1) = activeTo r k := by
  simp only [activeTo, h]
  rw [if_neg h1]
theorem activeTo_len (r : List (Int × Int)) : ∀ k, (activeTo r k).length ≤ k
  | 0 => Nat.le_refl _
  | k + 1 => by
    have := activeTo_len r k
    cases h : r[k]? with
    | none => simp only [activeTo, h]; omega
    | some p =>
      by_cases h1 : p.1 ≠ 3 ∧ p.2 ≠ 3
      · rw [activeTo_yes h h1, List.length_append, List.length_singleton]; omega
      · rw [activeTo_no h h1]; omega
set_option maxHeartbeats 4000000 in
set_option maxRecDepth 100000 in
theorem ractive_ (A1 : Option Addr) (n c1 : Nat) (ids : List Int) (A2 : Option Addr) (m c2 : Nat) (ls : List Lk) (w : World) (h1 : Reads w w.heap.size 1 A1 n (ids.map (Value.int .u64))) (h2 : Reads w w.heap.size 5 A2 m (ls.flatMap cellsL)) (hmay : May ids ls) :
    Calls Try.prog 18 #[.slice A1 n c1, .slice A2 m c2] w fun e w' => (∃ A' c', e = .returned (.slice A' (activeOf ids ls).length c') ∧ Reads w' w'.heap.size 1 A' (activeOf ids ls).length ((activeOf ids ls).map (Value.int .i64))) ∧ Below w.heap.size w w' := by
  obtain ⟨i0, hi, hz0, hz1, hz2⟩ := info_parts infoI
  have hl2 := len_of h2
  have hm : m ≤ 40 := by have := hmay.l; omega
  have HRR := Lib.hid (rrest_ A1 n c1 ids A2 m c2 ls w h1 h2 hmay)
  have HL2 := Lib.hid hl2
  clear h1 h2 hmay hl2
  go_enter Try.func18, Try.ntmps18
  go_wp2_with fail
  refine HRR.out.mono ?_
  rintro e w1 ⟨⟨A3, c3, rfl, h3⟩, b1⟩
  have z1 := b1.size
  have HB1 := Lib.hid b1
  have HR3 := Lib.hid h3
  clear b1 h3
  go_wp2
  go_loopw [6, 7] (fun v i wr => ∃ k : Nat, k ≤ m ∧ i = .int .i64 k ∧ wr.ownsRow w1.heap.size 3 1 v (activeTo (restOf ids ls) k).length ((activeTo (restOf ids ls) k).map (Value.int .i64)) ∧ Below w1.heap.size w1 wr) (fun _ i _ => m - (intOf i).toNat)
  case atStart => exact ⟨0, Nat.zero_le _, rfl, ⟨by simp [activeTo], .inl ⟨rfl, by simp [activeTo]⟩⟩, Below.refl _ _⟩
  case round =>
    obtain ⟨k, hk, rfl, hown, hbel⟩ := hrel
    have hbz := hbel.size
    have HO := Lib.hid hown
    have HB := Lib.hid hbel
    by_cases hlt : k < m
    · have hlt' : (k : Int) < (m : Int) := by omega
      obtain ⟨b, o, p, rfl, hb, hp, d0, d1⟩ := read2 (HR3.out.below hbel) hlt
      have HP := Lib.hid hp
      have hal := activeTo_len (restOf ids ls) k
      have q3 : (activeTo (restOf ids ls) k).length + 1 ≤ maxLen := by unfold maxLen; omega
      have q4 : ((activeTo (restOf ids ls) k).length + 1) * 8 ≤ 140737488355328 := by omega
      clear hp hown hbel
      by_cases h1 : p.1 = 3
      · have h1' : (p.1 != 3) = false := by simp [h1]
        have HT := Lib.hid (activeTo_no HP.out (fun h => h.1 h1))
        clear h1
        go_wp2
        exact ⟨⟨k + 1, by omega, by go_num, by rw [HT.out]; exact HO.out, HB.out⟩, by simp [intOf]; omega⟩
      · have h1' : (p.1 != 3) = true := by simp [h1]
        by_cases h2 : p.2 = 3
        · have h2' : (p.2 != 3) = false := by simp [h2]
          have HT := Lib.hid (activeTo_no HP.out (fun h => h.2 h2))
          clear h1 h2
          go_wp2
          exact ⟨⟨k + 1, by omega, by go_num, by rw [HT.out]; exact HO.out, HB.out⟩, by simp [intOf]; omega⟩
        · have h2' : (p.2 != 3) = true := by simp [h2]
          have HT := Lib.hid (activeTo_yes HP.out ⟨h1, h2⟩)
          clear h1 h2
          go_wp2_with (first
            | (at_builtin; refine wpList_append_own _ rfl (.tmp 31) (.tmp 33) 33 rfl w1.heap.size 3 i0 _ 1 8 Try.underlying33 hi hz0 hz1 hz2 rfl (by omega) u6 _ _ rfl (HO.out.alloc _) ⟨wr.heap.size, 0, none⟩ 1 1 [.int .i64 k] rfl rfl (new_cells' _ [.int .i64 k] 3 _ rfl) (oneI k) q3 q4 (by simp; omega) ?_; intro v4 w4 hown4 hg4 _)
            | go_in)
          refine ⟨⟨k + 1, by omega, by go_num, ?_, (HB.out.alloc hbz _).grown hg4 (by simp; omega) (own_from HO.out)⟩, by simp [intOf]; omega⟩
          rw [HT.out, List.map_append, List.length_append]
          exact hown4
    · have e : k = m := by omega
      have HO3 : Hid (wr.ownsRow w1.heap.size 3 1 u6 (activeOf ids ls).length ((activeOf ids ls).map (Value.int .i64))) := Lib.hid (by unfold activeOf; rw [HL2.out, ← e]; exact hown)
      subst e
      obtain ⟨A9, c9, rfl, hr9⟩ := own_form HO3.out
      clear hown hbel
      go_wp2
      go_ret
      exact ⟨⟨_, _, rfl, hr9⟩, HB1.out.trans (HB.out.mono z1)⟩
end Tree
end Go.Proofs.Ytdgbemafhhhceaa
