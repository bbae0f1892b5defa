/-
  The walk of the document's New (siphonref15).
-/
import Derived.Test.YtlfoaefilonidaaRstpRef
import Derived.Deep.RegionLaw
namespace Go.Proofs.Ytlfoaefilonidaa
set_option linter.unusedVariables false
set_option linter.unusedSimpArgs false
open Go.RowKit
namespace Rstp
open Go.Proofs.Ytlfoaefilonidaa.Prio
theorem infoRPt : (Try.prog.info? 70).map (fun i => (i.zero, i.size, i.bytes)) = some (some (.agg #[.int .i64 0, .bool false, .bool false, .int .u64 0, .int .i64 0, .int .u64 0, .int .i64 0, .int .i64 0, .int .i64 0, .int .i64 0, .int .i64 0, .bool false]), 12, 88) := by kernel_rfl
theorem newQ_cells (c : Int) : cellsQ (newP c) = [.int .i64 c, .bool false, .bool false, .int .u64 0, .int .i64 0, .int .u64 0, .int .i64 0, .int .i64 0, .int .i64 0, .int .i64 0, .int .i64 (-1), .bool false] := rfl
theorem one12 (c : Int) : ∀ u ∈ cellsQ (newP c), u.oneCell' = true := by
  intro u hu
  simp only [newQ_cells, List.mem_cons, List.not_mem_nil, or_false] at hu
  rcases hu with h | h | h | h | h | h | h | h | h | h | h | h <;> subst h <;> rfl
def RMade (b : Int) (cs : List Int) (w : World) (e : Ending) (w' : World) : Prop := ∃ g gp cap, e = .returned (.pointer (some ⟨g, 0, none⟩)) ∧ RAt w' g gp cap (newT b cs) ∧ w.heap.size ≤ g ∧ w.heap.size ≤ gp ∧ Below w.heap.size w w'
set_option maxRecDepth 100000 in
set_option maxHeartbeats 4000000 in
theorem rnew_ (b : Int) (A : Option Addr) (n c : Nat) (cs : List Int) (w : World) (hr : Reads w w.heap.size 1 A n (cs.map (Value.int .i64))) (hm : mayT cs = true) :
    Calls Try.prog 20 #[.int .u64 b, .slice A n c] w (RMade b cs w) := by
  obtain ⟨i0, hi, hz0, hz1, hz2⟩ := info_parts infoRPt
  have hlen : cs.length = n := by have := hr.1; simpa using this
  obtain ⟨hl1, hl2, _⟩ := mayT_iff.1 hm
  have hn1 : n ≤ 16 := by omega
  have hn0 : 1 ≤ n := by omega
  have HL := Lib.hid hlen
  have HR := Lib.hid hr
  clear hlen hl1 hl2 hr hm
  go_enter Try.func20, Try.ntmps20
  go_wp2_with (go_at_call 13; refine (rown_ b _).mono ?_; rintro e w1 ⟨rfl, hb1⟩)
  have hsz1 := hb1.size
  have HB1 := Lib.hid hb1
  clear hb1
  go_loopw [6] (fun i wr => ∃ (k : Nat) (v : Value), k ≤ n ∧ i = .int .i64 k ∧ wr.ownsRow w1.heap.size 70 12 v k ((cs.take k).flatMap fun x => cellsQ (newP x)) ∧
    Blk wr w1.heap.size 68 #[.int .u64 b, v, .int .i64 0, .int .i64 (-1), .int .u64 b, .int .i64 0, .int .u64 b, .int .i64 0, .int .i64 (-1)] ∧ Below w1.heap.size w1 wr) (fun i _ => n - (intOf i).toNat)
  case atStart => exact ⟨0, .slice none 0 0, Nat.zero_le _, rfl, ⟨by simp, .inl ⟨rfl, rfl⟩⟩, Blk.new _ _ _, (Below.refl _ _).alloc (Nat.le_refl _) _⟩
  case round =>
    obtain ⟨k, v, hk, rfl, hown, hblk, hbel⟩ := hrel
    have hsl := hblk.lt
    by_cases hlt : k < n
    · have hlt' : (k : Int) < (n : Int) := by omega
      obtain ⟨bb, off, hA, hbb, hcc⟩ := HR.out.flat (by omega) (by have := HR.out.1; omega)
      obtain ⟨x, hx⟩ : ∃ x, cs[k]? = some x := ⟨_, List.getElem?_eq_getElem (by have := HL.out; omega)⟩
      subst hA
      have hxc : wr.cell? ⟨bb, off + k, none⟩ = some (.int .i64 x) := by
        rw [(hbel.cell (p := ⟨bb, off + k, none⟩) (by simp; omega)), (HB1.out.cell (p := ⟨bb, off + k, none⟩) (by simp; omega))]
        exact hcc k _ (by rw [List.getElem?_map, hx]; rfl)
      have HT := Lib.hid (flat_take (fun x => cellsQ (newP x)) cs k x hx)
      have q3 : k + 1 ≤ maxLen := by unfold maxLen; omega
      have q4 : (k + 1) * 88 ≤ 140737488355328 := by omega
      have c1 : wr.cell? ⟨w1.heap.size, 1, none⟩ = some v := hblk.cell 1
      have f1 := hblk.frozen 1
      have hvne := own_blk_ne hown hblk (by decide)
      obtain ⟨A0, c0, rfl, _⟩ := own_form hown
      have HBLK := Lib.hid hblk
      have HBEL := Lib.hid hbel
      have HOWN := Lib.hid hown
      have hnew : ∀ w9 : World, ((wr.alloc (.cells #[.int .i64 x, .bool false, .bool false, .int .u64 0, .int .i64 0, .int .u64 0, .int .i64 0, .int .i64 0, .int .i64 0, .int .i64 0, .int .i64 (-1), .bool false] 70)).drew).grownBy w9 (Value.slice A0 k c0).ownBlock → w9.cell? ⟨w1.heap.size, 1, none⟩ = some (.slice A0 k c0) ∧ w9.frozen? ⟨w1.heap.size, 1, none⟩ = false := fun w9 hg => by
        have h := ((hblk.alloc (.cells #[.int .i64 x, .bool false, .bool false, .int .u64 0, .int .i64 0, .int .u64 0, .int .i64 0, .int .i64 0, .int .i64 0, .int .i64 0, .int .i64 (-1), .bool false] 70)).drew).grown hg (Ne.symm hvne)
        exact ⟨h.cell 1, h.frozen 1⟩
      have NEW := Lib.hid hnew
      have BLK9 := Lib.hid (fun (w9 : World) (hg : ((wr.alloc (.cells #[.int .i64 x, .bool false, .bool false, .int .u64 0, .int .i64 0, .int .u64 0, .int .i64 0, .int .i64 0, .int .i64 0, .int .i64 0, .int .i64 (-1), .bool false] 70)).drew).grownBy w9 (Value.slice A0 k c0).ownBlock) => (((hblk.alloc (.cells #[.int .i64 x, .bool false, .bool false, .int .u64 0, .int .i64 0, .int .u64 0, .int .i64 0, .int .i64 0, .int .i64 0, .int .i64 0, .int .i64 (-1), .bool false] 70)).drew).grown hg (Ne.symm hvne)))
      clear hblk hbel hcc hx hown hnew
      have hbw : bb < wr.heap.size := by omega
      go_wp2_with fail
      go_region_law (first
          | (refine step_append_lies _ (by rfl) _ _ _ (by rfl) w1.heap.size 70 i0 _ 12 88 Try.underlying66 hi hz0 hz1 hz2 rfl (by omega) _ k _ (by rfl) ((HOWN.out.alloc _).drew) ⟨wr.heap.size, 0, none⟩ 1 1 (cellsQ (newP x)) (by rfl) (by rfl) (new_cells wr (cellsQ (newP x)) 70) (one12 x) (by omega) q3 q4 (size_drew_alloc (by omega) _) (wr.heap.size + 1) (by simp) ?_; intro gg cap2 w9 hown' hgrow hat9 hlt9; have c9 := NEW.out w9 hgrow; obtain ⟨k9, f9⟩ := c9))
      all_goals
        go_wp2
        go_roundw
        case rel =>
          refine ⟨k + 1, _, by omega, by go_num, ?_, (BLK9.out w9 hgrow).set_ 1 _, ?_⟩
          · rw [HT.out]
            exact own_set hown' (p := ⟨w1.heap.size, 1, none⟩) (own_blk_ne hown' (BLK9.out w9 hgrow) (by decide)) _
          · exact (((HBEL.out.alloc (by omega) _).drew).grown hgrow (by simp; omega) (fun q hq => own_from HOWN.out q hq)).setCell (by simp) _
        case measure => simp [intOf]; omega
    · have hke : k = n := by omega
      subst hke
      have hge : ¬ (k : Int) < (k : Int) := by omega
      have htk : cs.take k = cs := List.take_of_length_le (by have := HL.out; omega)
      rw [htk] at hown
      obtain ⟨gp, cap, rfl, hgp, _, _, hrow⟩ := Row.of_own hown (by omega)
      have hne := own_blk_ne hown hblk (by decide)
      have hbw := HB1.out.trans (hbel.mono hsz1)
      have HBW := Lib.hid hbw
      have hat : RAt wr w1.heap.size gp cap (newT b cs) := ⟨by
        have e : (newT b cs).ps.length = k := by rw [← HL.out]; simp [newT]
        unfold cellsU
        rw [e]
        exact hblk, by
        have e : (newT b cs).ps.flatMap cellsQ = cs.flatMap fun x => cellsQ (newP x) := by simp [newT, List.flatMap_map]
        rw [e]
        exact hrow, fun e => hne (by rw [e]; rfl)⟩
      have HAT := Lib.hid hat
      clear hat htk hown hblk hbel hbw hrow hne hi hz0 hz1 hz2
      go_wp2
      go_ret
      exact ⟨_, gp, cap, rfl, HAT.out, by omega, by omega, HBW.out⟩
end Rstp
end Go.Proofs.Ytlfoaefilonidaa
