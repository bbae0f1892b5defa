/-
  The walk of WheelNext.
-/
import Derived.Test.YtifhjbboddfbcaaWheelMath
import Derived.Test.YtifhjbboddfbcaaWhlLive
import Derived.Test.YtifhjbboddfbcaaWhlOpen
namespace Go.Proofs.Ytifhjbboddfbcaa
set_option linter.unusedVariables false
set_option linter.unusedSimpArgs false
open Go.RowKit Go.Maps
namespace WhlL
open Whl WhlC WhlI
/-- the best time so far: -1 if there is none -/
def BestIs (ts : List Tm) (b : Int) : Prop := (ts = [] ∧ b = -1) ∨ (NextIs ts b ∧ 0 ≤ b)
theorem best_same {l : List Int} {k : Nat} {a b : Int} (h : BestIs (T l k) b) (hk : l[k]? = some a) (ha : a < 0) : BestIs (T l (k + 1)) b := by rw [T_neg hk ha]; exact h
theorem best_new {l : List Int} {k : Nat} {a b : Int} (h : BestIs (T l k) b) (hk : l[k]? = some a) (ha : ¬ a < 0) (hb : b < 0 ∨ a < b) : BestIs (T l (k + 1)) a := by
  rw [T_ok hk ha]
  refine Or.inr ⟨⟨⟨_, List.mem_append_right _ (List.mem_singleton.2 rfl), rfl⟩, fun x hx => ?_⟩, by omega⟩
  rcases List.mem_append.1 hx with hx | hx
  · rcases h with ⟨h1, _⟩ | ⟨⟨_, h1⟩, h2⟩
    · rw [h1] at hx; cases hx
    · have := h1 x hx; omega
  · simp at hx; subst hx; exact Int.le_refl _
theorem best_old {l : List Int} {k : Nat} {a b : Int} (h : BestIs (T l k) b) (hk : l[k]? = some a) (ha : ¬ a < 0) (hb : ¬ (b < 0 ∨ a < b)) : BestIs (T l (k + 1)) b := by
  rw [T_ok hk ha]
  rcases h with ⟨h1, rfl⟩ | ⟨⟨⟨y, hy, e⟩, h1⟩, h2⟩
  · exact absurd (Or.inl (by omega)) hb
  · refine Or.inr ⟨⟨⟨y, List.mem_append_left _ hy, e⟩, fun x hx => ?_⟩, h2⟩
    rcases List.mem_append.1 hx with hx | hx
    · exact h1 x hx
    · simp at hx; subst hx; simp only; omega
theorem best_next {ts : List Tm} {b m : Int} {is : Bool} (h : BestIs ts b) (hn : NextV ts m is) : is = decide (0 ≤ b) ∧ m = max b 0 := by
  rcases h with ⟨h1, rfl⟩ | ⟨h1, h2⟩
  · rcases hn with ⟨_, h3, h4⟩ | ⟨⟨⟨x, hx, _⟩, _⟩, _⟩
    · subst h3; subst h4; exact ⟨by simp, by omega⟩
    · rw [h1] at hx; cases hx
  · have hn' : NextV ts b true := Or.inr ⟨h1, rfl⟩
    obtain ⟨e1, e2⟩ := next_one hn hn'
    subst e1; subst e2
    exact ⟨by simp [h2], by omega⟩
/-- what At says behind the arming -/
theorem at_T {l : List Int} {k : Nat} {a : Int} (hk : l[k]? = some a) : (T l (k + 1)).any (keyIs (k : Int)) = decide (0 ≤ a) ∧ (0 ≤ a → (Whl.look (T l (k + 1)) (k : Int)).1 = a) := by
  by_cases ha : a < 0
  · rw [T_neg hk ha, T_new]
    exact ⟨by simp; omega, fun h => by omega⟩
  · have hm : ((k : Int), a, ((T l k).length : Int) + 1) ∈ T l (k + 1) := by rw [T_ok hk ha]; simp
    refine ⟨?_, fun _ => ?_⟩
    · rw [List.any_eq_true.2 ⟨_, hm, by simp [keyIs]⟩]; simp; omega
    · rw [look_has hm ((T_keys l (k + 1)).imp fun h => by have := h.1; omega) rfl]
set_option maxHeartbeats 4000000 in
set_option maxRecDepth 20000 in
theorem next_law (A : Option Addr) (n c : Nat) (l : List Int) (w : World) (hr : Reads w w.heap.size 1 A n (l.map (Value.int .i64))) :
    Calls Try.prog 5 #[.slice A n c] w fun e w' => e = .returned (.bool true) ∧ Below w.heap.size w w' := by
  have hl : l.length = n := by have := hr.1; simpa using this
  by_cases h60 : 60 < n
  · have h60' : (n : Int) > 60 := by omega
    go_enter Try.func5, Try.ntmps5
    go_wp2_with fail
    refine (live_ _).mono ?_
    rintro e w1 ⟨rfl, b1⟩
    go_wp2
    go_ret
    exact ⟨rfl, b1⟩
  · have h60' : ¬ (n : Int) > 60 := by omega
    go_enter Try.func5, Try.ntmps5
    go_wp2_with fail
    refine (newO w 60 (by omega) (by omega)).mono ?_
    rintro e w1 ⟨rfl, b1, on1⟩
    have z1 := b1.size
    have B1 := Lib.hid b1
    clear b1
    go_wp2
    go_loopw [5, 6] (fun bv i wr => ∃ (k : Nat) (b : Int), k ≤ n ∧ i = .int .i64 k ∧ bv = .int .i64 b ∧ BestIs (T l k) b ∧ On wr (w.heap.size + 1) w.heap.size 60 ((T l k).length : Int) (T l k) ∧ Below w.heap.size w wr) (fun _ i _ => n - (intOf i).toNat)
    case atStart => exact ⟨0, -1, Nat.zero_le _, rfl, rfl, Or.inl ⟨rfl, rfl⟩, on1, B1.out⟩
    case round =>
      obtain ⟨k, b, hk, rfl, rfl, hb, hon, hbel⟩ := hrel
      have hbz := hbel.size
      by_cases hlt : k < n
      · have hlt' : (k : Int) < (n : Int) := by omega
        obtain ⟨bb, off, rfl, hbb, hcc⟩ := hr.flat (by omega) (by simp; omega)
        obtain ⟨a, ha⟩ : ∃ a, l[k]? = some a := ⟨_, List.getElem?_eq_getElem (by omega)⟩
        have e0 := hcc k (.int .i64 a) (by rw [List.getElem?_map, ha]; rfl)
        have d0 : wr.cell? ⟨bb, off + k, none⟩ = some (.int .i64 a) := (hbel.cell (p := ⟨bb, off + k, none⟩) hbb).trans e0
        have HA := Lib.hid ha
        have HB := Lib.hid hb
        have HE := Lib.hid hbel
        have hTl := T_len l k
        clear hcc hr ha hb hbel
        go_wp2_with fail
        refine (arm_ hon (wf_small (by omega) (by omega)) a (by omega) (by omega) (by omega)).mono ?_
        rintro e w2 ⟨rfl, k2, on2⟩
        rw [armS_T (by omega) HA.out] at on2
        simp only at on2
        have k2z := k2.size
        have d2 : w2.cell? ⟨bb, off + k, none⟩ = some (.int .i64 a) := (k2.cells bb (off + k) (by omega) (by simp; omega)).trans d0
        have hz : ∀ x ∈ [w.heap.size + 1, w.heap.size], w.heap.size ≤ x := by simp
        have HE2 := Lib.hid (HE.out.trans (k2.below hbz hz))
        have hpair := Lib.hid ((T_keys l (k + 1)).imp fun {x y} h => (by have := h.1; omega : x.1 ≠ y.1))
        have HT := Lib.hid (at_T HA.out)
        have hwf := wf_small (k := (k : Int)) (by omega) (by omega)
        have HON := Lib.hid on2
        clear hon k2 d0 e0 on2
        generalize (armS 60 (↑(T l k).length) (T l k) (↑k) a).1 = ev
        by_cases ha : a < 0
        · have HBN := Lib.hid (best_same HB.out HA.out ha)
          have hany : (T l (k + 1)).any (keyIs (k : Int)) = false := by rw [HT.out.1]; simp; omega
          have ha2 : ¬ a ≥ 0 := by omega
          go_wp2_with fail
          refine (at_ _ _ _ _ _ _ HON.out.at_ hpair.out _ hwf).mono ?_
          rintro e w3 ⟨rfl, b3⟩
          rw [hany]
          have d3 : w3.cell? ⟨bb, off + k, none⟩ = some (.int .i64 a) := bkeep b3 (by omega) d2
          have on3 := Lib.hid (HON.out.below b3)
          have HE3 := Lib.hid (HE2.out.trans (b3.mono (by omega)))
          clear b3 HON
          go_wp2
          exact ⟨⟨k + 1, b, by omega, by go_num, rfl, HBN.out, on3.out, HE3.out⟩, by simp [intOf]; omega⟩
        · have hany : (T l (k + 1)).any (keyIs (k : Int)) = true := by rw [HT.out.1]; simp; omega
          have hlk : (Whl.look (T l (k + 1)) (k : Int)).1 = a := HT.out.2 (by omega)
          have ha2 : a ≥ 0 := by omega
          by_cases hb0 : b < 0
          · have HBN := Lib.hid (best_new HB.out HA.out ha (Or.inl hb0))
            go_wp2_with fail
            refine (at_ _ _ _ _ _ _ HON.out.at_ hpair.out _ hwf).mono ?_
            rintro e w3 ⟨rfl, b3⟩
            rw [hany, hlk]
            have d3 : w3.cell? ⟨bb, off + k, none⟩ = some (.int .i64 a) := bkeep b3 (by omega) d2
            have on3 := Lib.hid (HON.out.below b3)
            have HE3 := Lib.hid (HE2.out.trans (b3.mono (by omega)))
            clear b3 HON
            go_wp2
            exact ⟨⟨k + 1, a, by omega, by go_num, rfl, HBN.out, on3.out, HE3.out⟩, by simp [intOf]; omega⟩
          · by_cases hab : a < b
            · have HBN := Lib.hid (best_new HB.out HA.out ha (Or.inr hab))
              go_wp2_with fail
              refine (at_ _ _ _ _ _ _ HON.out.at_ hpair.out _ hwf).mono ?_
              rintro e w3 ⟨rfl, b3⟩
              rw [hany, hlk]
              have d3 : w3.cell? ⟨bb, off + k, none⟩ = some (.int .i64 a) := bkeep b3 (by omega) d2
              have on3 := Lib.hid (HON.out.below b3)
              have HE3 := Lib.hid (HE2.out.trans (b3.mono (by omega)))
              clear b3 HON
              go_wp2
              exact ⟨⟨k + 1, a, by omega, by go_num, rfl, HBN.out, on3.out, HE3.out⟩, by simp [intOf]; omega⟩
            · have HBN := Lib.hid (best_old HB.out HA.out ha (by omega))
              go_wp2_with fail
              refine (at_ _ _ _ _ _ _ HON.out.at_ hpair.out _ hwf).mono ?_
              rintro e w3 ⟨rfl, b3⟩
              rw [hany, hlk]
              have d3 : w3.cell? ⟨bb, off + k, none⟩ = some (.int .i64 a) := bkeep b3 (by omega) d2
              have on3 := Lib.hid (HON.out.below b3)
              have HE3 := Lib.hid (HE2.out.trans (b3.mono (by omega)))
              clear b3 HON
              go_wp2
              exact ⟨⟨k + 1, b, by omega, by go_num, rfl, HBN.out, on3.out, HE3.out⟩, by simp [intOf]; omega⟩
      · have e : k = n := by omega
        subst e
        have HB := Lib.hid hb
        have HE := Lib.hid hbel
        have hTl := T_len l k
        clear hb hbel hr
        go_wp2_with fail
        refine (nextO hon (by omega)).mono ?_
        rintro e w2 ⟨⟨m, is, hnv, rfl⟩, b2⟩
        obtain ⟨rfl, rfl⟩ := best_next HB.out hnv
        have hmx : (max b 0 == max b 0) = true := by simp
        go_wp2_with fail
        refine (live_ _).mono ?_
        rintro e w3 ⟨rfl, b3⟩
        go_wp2
        go_ret
        have z2 := b2.size
        exact ⟨rfl, (HE.out.trans (b2.mono hbz)).trans (b3.mono (by omega))⟩
end WhlL
end Go.Proofs.Ytifhjbboddfbcaa
