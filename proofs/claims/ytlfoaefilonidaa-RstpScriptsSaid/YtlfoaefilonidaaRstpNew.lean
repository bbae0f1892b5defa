/-
  The walk of rstp.New.
-/
import Derived.Test.YtlfoaefilonidaaRstp
import Derived.Test.YtlfoaefilonidaaRstpNewMath
namespace Go.Proofs.Ytlfoaefilonidaa
set_option linter.unusedVariables false
set_option linter.unusedSimpArgs false
open Go.RowKit
namespace Rstp
open Go.Proofs.Ytlfoaefilonidaa.Prio
theorem infoPt : (Try.prog.info? 62).map (fun i => (i.zero, i.size, i.bytes)) = some (some (.agg #[.int .i64 0, .int .i64 0, .int .i64 0, .bool false, .bool false, .bool false, .int .u64 0, .int .i64 0, .int .u64 0, .int .i64 0, .int .i64 0, .bool false, .bool false, .bool false, .int .i64 0]), 15, 88) := by kernel_rfl
theorem own_set {w : World} {base n : Nat} {e : TypeId} {size : Nat} {v : Value} {xs : List Value} (h : w.ownsRow base e size v n xs) {p : Addr} (hne : v.ownBlock ≠ some p.block) (u : Value) : (w.setCell p u).ownsRow base e size v n xs :=
  h.kept (row := some p.block) ⟨rfl, rfl, rfl, by simp [World.setCell], fun k _ hk => Below.heap_setCell w p u k (fun e => hk (by rw [e]))⟩ (.inr hne)
/-- what New gives -/
def Made (b : Int) (cs : List Int) (w : World) (e : Ending) (w' : World) : Prop :=
  if mayT cs = true then ∃ g gp cap, e = .returned (.tuple #[.pointer (some ⟨g, 0, none⟩), .int .i64 0]) ∧ At w' g gp cap (newT b cs) ∧ w.heap.size ≤ g ∧ w.heap.size ≤ gp ∧ Below w.heap.size w w'
  else e = .returned (.tuple #[.pointer none, .int .i64 1]) ∧ Below w.heap.size w w'
theorem Made.no {b : Int} {cs : List Int} {w w' : World} {e : Ending} (h : mayT cs = false) (h1 : e = .returned (.tuple #[.pointer none, .int .i64 1])) (h2 : Below w.heap.size w w') : Made b cs w e w' := by
  unfold Made
  rw [if_neg (by rw [h]; simp)]
  exact ⟨h1, h2⟩
theorem Made.yes {b : Int} {cs : List Int} {w w' : World} {e : Ending} (h : mayT cs = true) (h1 : ∃ g gp cap, e = .returned (.tuple #[.pointer (some ⟨g, 0, none⟩), .int .i64 0]) ∧ At w' g gp cap (newT b cs) ∧ w.heap.size ≤ g ∧ w.heap.size ≤ gp ∧ Below w.heap.size w w') : Made b cs w e w' := by
  unfold Made
  rw [if_pos h]
  exact h1
theorem newP_cells (c : Int) : cellsP (newP c) = [.int .i64 c, .int .i64 0, .int .i64 (-1), .bool false, .bool false, .bool false, .int .u64 0, .int .i64 0, .int .u64 0, .int .i64 0, .int .i64 0, .bool false, .bool false, .bool false, .int .i64 0] := rfl
theorem one15 (c : Int) : ∀ u ∈ cellsP (newP c), u.oneCell' = true := by
  intro u hu
  simp only [newP_cells, List.mem_cons, List.not_mem_nil, or_false] at hu
  rcases hu with h | h | h | h | h | h | h | h | h | h | h | h | h | h | h <;> subst h <;> rfl
set_option maxRecDepth 100000 in
set_option maxHeartbeats 4000000 in
theorem new_ (b : Int) (A : Option Addr) (n c : Nat) (cs : List Int) (w : World) (hr : Reads w w.heap.size 1 A n (cs.map (Value.int .i64))) :
    Calls Try.prog 8 #[.int .u64 b, .slice A n c] w (Made b cs w) := by
  obtain ⟨i0, hi, hz0, hz1, hz2⟩ := info_parts infoPt
  have hlen : cs.length = n := by have := hr.1; simpa using this
  by_cases h1 : n < 1
  · have E := Lib.hid (mayT_len (cs := cs) (by omega))
    have h1' : (n : Int) < 1 := by omega
    clear hlen hi hz0 hz1 hz2
    go_enter Try.func8, Try.ntmps8
    go_wp2
    go_ret2
    exact Made.no E.out rfl (Below.refl _ _)
  · by_cases h2 : 16 < n
    · have E := Lib.hid (mayT_len (cs := cs) (by omega))
      have h1' : ¬ (n : Int) < 1 := by omega
      have h2' : 16 < (n : Int) := by omega
      clear hlen hi hz0 hz1 hz2
      go_enter Try.func8, Try.ntmps8
      go_wp2
      go_ret2
      exact Made.no E.out rfl (Below.refl _ _)
    · have h1' : ¬ (n : Int) < 1 := by omega
      have h2' : ¬ 16 < (n : Int) := by omega
      have HL := Lib.hid hlen
      clear hlen
      go_enter Try.func8, Try.ntmps8
      go_wp2_with (go_at_call 24; refine (own_ b _).mono ?_; rintro e w1 ⟨rfl, hb1⟩)
      have hsz1 := hb1.size
      have HB1 := Lib.hid hb1
      clear hb1
      go_loopw [24] (fun i wr => ∃ (k : Nat) (v : Value), k ≤ n ∧ i = .int .i64 k ∧ (∀ x ∈ cs.take k, costOk x = true) ∧ wr.ownsRow w1.heap.size 62 15 v k ((cs.take k).flatMap fun x => cellsP (newP x)) ∧
        Blk wr w1.heap.size 60 #[.int .u64 b, v, .int .i64 0, .int .i64 (-1), .int .i64 (-1), .int .u64 b, .int .i64 0, .int .u64 b, .int .i64 0] ∧ Below w1.heap.size w1 wr) (fun i _ => n - (intOf i).toNat)
      case atStart => exact ⟨0, .slice none 0 0, Nat.zero_le _, rfl, by simp, ⟨by simp, .inl ⟨rfl, rfl⟩⟩, Blk.new _ _ _, (Below.refl _ _).alloc (Nat.le_refl _) _⟩
      case round =>
        obtain ⟨k, v, hk, rfl, hgood, hown, hblk, hbel⟩ := hrel
        have hsl := hblk.lt
        by_cases hlt : k < n
        · have hlt' : (k : Int) < (n : Int) := by omega
          obtain ⟨bb, off, hA, hbb, hcc⟩ := hr.flat (by omega) (by have := hr.1; omega)
          obtain ⟨x, hx⟩ : ∃ x, cs[k]? = some x := ⟨_, List.getElem?_eq_getElem (by have := HL.out; omega)⟩
          subst hA
          have hxc : wr.cell? ⟨bb, off + k, none⟩ = some (.int .i64 x) := by
            rw [(hbel.cell (p := ⟨bb, off + k, none⟩) (by simp; omega)), (HB1.out.cell (p := ⟨bb, off + k, none⟩) (by simp; omega))]
            exact hcc k _ (by rw [List.getElem?_map, hx]; rfl)
          have HX := Lib.hid hx
          clear hcc hx hr
          cases hc : costOk x
          · have E := Lib.hid (mayT_bad HX.out hc)
            have hbad : x < 1 ∨ (¬ x < 1 ∧ 200000000 < x) := by
              have : ¬ (1 ≤ x ∧ x ≤ 200000000) := fun hh => by rw [costOk_iff.2 hh] at hc; cases hc
              omega
            clear hc
            have hbw := HB1.out.trans (hbel.mono hsz1)
            have HBW := Lib.hid hbw
            clear hbw hbel hown hblk
            rcases hbad with hb | ⟨hb, hb'⟩
            all_goals
              go_wp2
              go_ret2
              exact Made.no E.out rfl HBW.out
          · have HG := Lib.hid (good_snoc HX.out hc hgood)
            obtain ⟨hx1, hx2⟩ := costOk_iff.1 hc
            have HT := Lib.hid (flat_take (fun x => cellsP (newP x)) cs k x HX.out)
            clear hc hgood
            have q3 : k + 1 ≤ maxLen := by unfold maxLen; omega
            have q4 : (k + 1) * 88 ≤ 140737488355328 := by omega
            have c1 : wr.cell? ⟨w1.heap.size, 1, none⟩ = some v := hblk.cell 1
            have f1 := hblk.frozen 1
            have hvne := own_blk_ne hown hblk (by decide)
            have HBLK := Lib.hid hblk
            have HBEL := Lib.hid hbel
            clear hblk hbel
            go_wp2_with (at_builtin; refine wpList_append_own _ rfl (.tmp 38) (.tmp 41) 58 rfl w1.heap.size 62 i0 _ 15 88 Try.underlying58 hi hz0 hz1 hz2 rfl (by omega) _ k _ rfl (hown.alloc _) ⟨wr.heap.size, 0, none⟩ 1 1 (cellsP (newP x)) rfl rfl (new_cells' _ (cellsP (newP x)) 62 _ (by simp)) (one15 x) q3 q4 (by simp; omega) ?_; intro v' w9 hown' hgrow _; obtain ⟨A', c', rfl, _⟩ := own_form hown'; have hblk9 := (HBLK.out.alloc _).grown hgrow (Ne.symm hvne); have c9 : w9.cell? ⟨w1.heap.size, 1, none⟩ = some v := hblk9.cell 1; have f9 := hblk9.frozen 1; have HBLK9 := Lib.hid hblk9; clear hblk9 c1 f1)
            go_roundw
            case rel =>
              refine ⟨k + 1, .slice A' (k + 1) c', by omega, by go_num, HG.out, ?_, HBLK9.out.set_ 1 _, ?_⟩
              · rw [HT.out]
                exact own_set hown' (p := ⟨w1.heap.size, 1, none⟩) (own_blk_ne hown' HBLK9.out (by decide)) _
              · exact ((HBEL.out.alloc (by omega) _).grown hgrow (by simp; omega) (fun q hq => own_from hown q hq)).setCell (by simp) _
            case measure => simp [intOf]; omega
        · have hke : k = n := by omega
          subst hke
          have hge : ¬ (k : Int) < (k : Int) := by omega
          have htk : cs.take k = cs := List.take_of_length_le (by have := HL.out; omega)
          rw [htk] at hown hgood
          have E := Lib.hid (mayT_good (cs := cs) (by have := HL.out; omega) (by have := HL.out; omega) hgood)
          obtain ⟨gp, cap, rfl, hgp, _, _, hrow⟩ := Row.of_own hown (by omega)
          have hne := own_blk_ne hown hblk (by decide)
          have hbw := HB1.out.trans (hbel.mono hsz1)
          have HBW := Lib.hid hbw
          have hat : At wr w1.heap.size gp cap (newT b cs) := ⟨by
            have e : (newT b cs).ps.length = k := by rw [← HL.out]; simp [newT]
            unfold cellsT
            rw [e]
            exact hblk, by
            have e : (newT b cs).ps.flatMap cellsP = cs.flatMap fun x => cellsP (newP x) := by simp [newT, List.flatMap_map]
            rw [e]
            exact hrow, fun e => hne (by rw [e]; rfl)⟩
          have HAT := Lib.hid hat
          clear hat htk hown hgood hblk hbel hbw hrow hne hi hz0 hz1 hz2 hr
          go_wp2
          go_ret2
          exact Made.yes E.out ⟨_, gp, cap, rfl, HAT.out, by omega, by omega, HBW.out⟩
theorem new_yes (b : Int) (A : Option Addr) (n c : Nat) (cs : List Int) (w : World) (hr : Reads w w.heap.size 1 A n (cs.map (Value.int .i64))) (h : mayT cs = true) :
    Calls Try.prog 8 #[.int .u64 b, .slice A n c] w fun e w' => ∃ g gp cap, e = .returned (.tuple #[.pointer (some ⟨g, 0, none⟩), .int .i64 0]) ∧ At w' g gp cap (newT b cs) ∧ w.heap.size ≤ g ∧ w.heap.size ≤ gp ∧ Below w.heap.size w w' :=
  (new_ b A n c cs w hr).mono fun e w' hh => by unfold Made at hh; rwa [if_pos h] at hh
theorem new_no (b : Int) (A : Option Addr) (n c : Nat) (cs : List Int) (w : World) (hr : Reads w w.heap.size 1 A n (cs.map (Value.int .i64))) (h : mayT cs = false) :
    Calls Try.prog 8 #[.int .u64 b, .slice A n c] w fun e w' => e = .returned (.tuple #[.pointer none, .int .i64 1]) ∧ Below w.heap.size w w' :=
  (new_ b A n c cs w hr).mono fun e w' hh => by unfold Made at hh; rwa [if_neg (by rw [h]; simp)] at hh
theorem reads_new (w : World) (l : List Value) (t : TypeId) : Reads (w.alloc (.cells l.toArray t)) (w.alloc (.cells l.toArray t)).heap.size 1 (some ⟨w.heap.size, 0, none⟩) l.length l :=
  ⟨by simp, fun _ => ⟨⟨w.heap.size, 0, none⟩, rfl, by simp, new_cells w l t⟩⟩
end Rstp
end Go.Proofs.Ytlfoaefilonidaa
