/-
  The walks of the functions of package prio, and of its reference, that go through lists of what was heard.
-/
import Derived.Test.YtdgbemafhhhceaaPrio
import Derived.Deep.LoopGhost
import Derived.Deep.RegionHeld3
import Derived.Deep.AppendLies
namespace Go.Proofs.Ytdgbemafhhhceaa
set_option linter.unusedVariables false
set_option linter.unusedSimpArgs false
open Go.RowKit
namespace Prio
def cellsH (h : Heard) : List Value := [.bool h.is, .int .u64 h.v.root, .int .i64 h.v.cost, .int .u64 h.v.bridge, .int .i64 h.v.port, .int .i64 h.cost]
theorem cellsH_len (hs : List Heard) : (hs.flatMap cellsH).length = hs.length * 6 := by
  induction hs with
  | nil => rfl
  | cons h t ih => simp [cellsH, ih]; omega
theorem cellsH_at : ∀ (hs : List Heard) (k j : Nat) (h : Heard), hs[k]? = some h → j < 6 → (hs.flatMap cellsH)[k * 6 + j]? = (cellsH h)[j]?
  | [], k, j, h, hk, _ => by simp at hk
  | x :: t, 0, j, h, hk, hj => by
    simp at hk
    subst hk
    rw [List.flatMap_cons, List.getElem?_append_left (by simp [cellsH]; omega)]
    simp
  | x :: t, k + 1, j, h, hk, hj => by
    have := cellsH_at t k j h (by simpa using hk) hj
    rw [List.flatMap_cons, List.getElem?_append_right (by simp [cellsH]; omega), ← this]
    congr 1
    simp [cellsH]
    omega
theorem cellsH_take (hs : List Heard) (k : Nat) (h : Heard) (hk : hs[k]? = some h) : (hs.take (k + 1)).flatMap cellsH = (hs.take k).flatMap cellsH ++ cellsH h := by
  have : hs.take (k + 1) = hs.take k ++ [h] := by
    rw [List.take_add_one, hk]; rfl
  rw [this, List.flatMap_append]
  simp
/-- the six cells of the k-th element, in the walk's own spelling -/
theorem reads6 {w : World} {B n : Nat} {A : Option Addr} {hs : List Heard} (hr : Reads w B 6 A n (hs.flatMap cellsH)) {k : Nat} (hk : k < n) :
    ∃ (b off : Nat) (h : Heard), A = some ⟨b, off, none⟩ ∧ b < B ∧ hs[k]? = some h ∧ w.cell? ⟨b, off + k * 6, none⟩ = some (.bool h.is) ∧ w.cell? ⟨b, off + k * 6 + 1, none⟩ = some (.int .u64 h.v.root) ∧
      w.cell? ⟨b, off + k * 6 + 2, none⟩ = some (.int .i64 h.v.cost) ∧ w.cell? ⟨b, off + k * 6 + 3, none⟩ = some (.int .u64 h.v.bridge) ∧ w.cell? ⟨b, off + k * 6 + 4, none⟩ = some (.int .i64 h.v.port) ∧
      w.cell? ⟨b, off + k * 6 + 5, none⟩ = some (.int .i64 h.cost) := by
  have hl := hr.1
  rw [cellsH_len] at hl
  have hkl : k < hs.length := by omega
  obtain ⟨b, off, hA, hb, hc⟩ := hr.flat (by omega) (by rw [cellsH_len]; omega)
  have hk' : hs[k]? = some hs[k] := List.getElem?_eq_getElem hkl
  have hat : ∀ (j : Nat) (u : Value), j < 6 → (cellsH hs[k])[j]? = some u → w.cell? ⟨b, off + (k * 6 + j), none⟩ = some u := fun j u hj hu => hc _ u ((cellsH_at hs k j _ hk' hj).trans hu)
  refine ⟨b, off, hs[k], hA, hb, hk', hat 0 _ (by omega) rfl, ?_, ?_, ?_, ?_, ?_⟩
  · rw [Nat.add_assoc]; exact hat 1 _ (by omega) rfl
  · rw [Nat.add_assoc]; exact hat 2 _ (by omega) rfl
  · rw [Nat.add_assoc]; exact hat 3 _ (by omega) rfl
  · rw [Nat.add_assoc]; exact hat 4 _ (by omega) rfl
  · rw [Nat.add_assoc]; exact hat 5 _ (by omega) rfl
theorem cellsH_one (h : Heard) : ∀ u ∈ cellsH h, u.oneCell' = true := by
  intro u hu
  simp [cellsH] at hu
  rcases hu with rfl | rfl | rfl | rfl | rfl | rfl <;> rfl
theorem infoH : (Try.prog.info? 84).map (fun i => (i.zero, i.size, i.bytes)) = some (some (.agg #[.bool false, .int .u64 0, .int .i64 0, .int .u64 0, .int .i64 0, .int .i64 0]), 6, 48) := by kernel_rfl
theorem vec_cells {w : World} {g : Nat} {t : TypeId} {v : Vec} (h : Blk w g t #[.int .u64 v.root, .int .i64 v.cost, .int .u64 v.bridge, .int .i64 v.port]) : w.cell? ⟨g, 0, none⟩ = some (.int .u64 v.root) ∧ w.cell? ⟨g, 1, none⟩ = some (.int .i64 v.cost) ∧ w.cell? ⟨g, 2, none⟩ = some (.int .u64 v.bridge) ∧ w.cell? ⟨g, 3, none⟩ = some (.int .i64 v.port) ∧
    w.frozen? ⟨g, 0, none⟩ = false ∧ w.frozen? ⟨g, 1, none⟩ = false ∧ w.frozen? ⟨g, 2, none⟩ = false ∧ w.frozen? ⟨g, 3, none⟩ = false :=
  ⟨h.cell 0, h.cell 1, h.cell 2, h.cell 3, h.frozen 0, h.frozen 1, h.frozen 2, h.frozen 3⟩
set_option maxHeartbeats 4000000 in
theorem best_ (b : Int) (A : Option Addr) (n c : Nat) (hs : List Heard) (w : World) (hn : n ≤ 40) (hr : Reads w w.heap.size 6 A n (hs.flatMap cellsH)) :
    Calls Try.prog 35 #[.int .u64 b, .slice A n c] w fun e w' => e = .returned (.tuple #[.int .i64 (bestOf b hs).1, .agg #[.int .u64 ((bestOf b hs).2).root, .int .i64 ((bestOf b hs).2).cost, .int .u64 ((bestOf b hs).2).bridge, .int .i64 ((bestOf b hs).2).port]]) ∧ Below w.heap.size w w' := by
  have hlen := hr.1
  rw [cellsH_len] at hlen
  have HL := Lib.hid (show hs.length = n by omega)
  clear hlen
  go_enter Try.func35, Try.ntmps35
  go_wp2_with (go_at_call 31; refine (own_ b _).mono ?_; rintro e w1 ⟨rfl, hb1⟩)
  have hw1 : Below w.heap.size w w1 := ((Below.refl _ _).alloc (Nat.le_refl _) _).trans (hb1.mono (by simp))
  have hz1 := hb1.size
  simp only [World.size_alloc] at hz1
  have hres := (Blk.new w 62 #[.int .u64 0, .int .i64 0, .int .u64 0, .int .i64 0]).below hb1 (by simp)
  have HR := Lib.hid hres
  clear hb1 hres
  go_loopw [6, 16] (fun p i wr => ∃ k : Nat, k ≤ n ∧ i = .int .i64 k ∧ p = .int .i64 (bestTo b hs k).1 ∧ Blk wr w1.heap.size 62 #[.int .u64 ((bestTo b hs k).2).root, .int .i64 ((bestTo b hs k).2).cost, .int .u64 ((bestTo b hs k).2).bridge, .int .i64 ((bestTo b hs k).2).port] ∧ Below w1.heap.size w1 wr) (fun _ i _ => n - (intOf i).toNat)
  case atStart => exact ⟨0, Nat.zero_le _, rfl, rfl, Blk.new _ _ _, (Below.refl _ _).alloc (Nat.le_refl _) _⟩
  case round =>
    obtain ⟨k, hk, rfl, rfl, hblk, hbel⟩ := hrel
    by_cases hlt : k < n
    · have hlt' : (k : Int) < (n : Int) := by omega
      have hlw : w1.heap.size < wr.heap.size := hblk.lt
      obtain ⟨b0, off, h, rfl, hb0, hat, c0, c1, c2, c3, c4, c5⟩ := reads6 ((hr.below hw1).below (hbel.mono (by omega))) hlt
      obtain ⟨v0, v1, v2, v3, f0, f1, f2, f3⟩ := vec_cells hblk
      have HA := Lib.hid hat
      have HB := Lib.hid hblk
      clear hat hblk
      generalize hst : bestTo b hs k = st at *
      have HS := Lib.hid hst
      clear hst
      by_cases i1 : h.is = true
      · by_cases i2 : h.v.bridge = b
        · have i2' : (h.v.bridge != b) = false := by simp [i2]
          have I2 := Lib.hid i2
          clear i2
          go_wp2_with (go_at_call 45; refine (through_ h.v h.cost _).mono ?_; rintro e w2 ⟨rfl, hb2⟩; obtain ⟨hc2, hf2⟩ := bcell hb2; have hz2 : wr.heap.size < w2.heap.size := (by have := hb2.size; simp at this; omega); have hz2' : w1.heap.size < w2.heap.size := (by omega); obtain ⟨m0, m1, m2, m3, n0, n1, n2, n3⟩ := vec_cells ((HB.out.alloc _).below hb2 (by simp; omega)))
          go_roundw
          case rel =>
            have hbt : bestTo b hs (k + 1) = st := by rw [← HS.out]; exact bestTo_no HA.out (by rw [HS.out]; simp [better, i2'])
            refine ⟨k + 1, by omega, by go_num, by rw [hbt], by rw [hbt]; exact ((HB.out.alloc _).below hb2 (by simp; omega)).alloc _, ((hbel.alloc (by omega) _).trans (hb2.mono (by simp; omega))).alloc (by omega) _⟩
          case measure => simp [intOf]; omega
        · have i2' : (h.v.bridge != b) = true := by simp [i2]
          have I2 := Lib.hid i2
          clear i2
          by_cases i3 : te h.v h.cost = 0
          · by_cases i4 : cmpV (tv h.v h.cost) st.2 < 0
            · go_wp2_with (first | (go_at_call 45; refine (through_ h.v h.cost _).mono ?_; rintro e w2 ⟨rfl, hb2⟩; obtain ⟨hc2, hf2⟩ := bcell hb2; have hz2 : wr.heap.size < w2.heap.size := (by have := hb2.size; simp at this; omega); have hz2' : w1.heap.size < w2.heap.size := (by omega); obtain ⟨m0, m1, m2, m3, n0, n1, n2, n3⟩ := vec_cells ((HB.out.alloc _).below hb2 (by simp; omega))) | (go_at_call 36; refine (cmp (tv h.v h.cost) st.2 _).mono ?_; rintro e w3 ⟨rfl, hb3⟩; have hB3 := ((((HB.out.alloc _).below hb2 (by simp; omega)).alloc _).below hb3 (by simp; omega)); obtain ⟨x0, x1, x2, x3, y0, y1, y2, y3⟩ := vec_cells hB3; have hV3 := (Blk.new w2 62 #[.int .u64 (tv h.v h.cost).root, .int .i64 (tv h.v h.cost).cost, .int .u64 (tv h.v h.cost).bridge, .int .i64 (tv h.v h.cost).port]).below hb3 (by simp); obtain ⟨z0, z1, z2, z3, t0, t1, t2, t3⟩ := vec_cells hV3; have hz3 : w2.heap.size < w3.heap.size := (by have := hb3.size; simp at this; omega)))
              go_region
              go_wp2
              go_roundw
              case rel =>
                have hbt : bestTo b hs (k + 1) = ((k : Int), tv h.v h.cost) := bestTo_yes HA.out (by rw [HS.out]; simp [better, i1, i3, i4]; exact I2.out)
                refine ⟨k + 1, by omega, by go_num, by rw [hbt], by rw [hbt]; exact ((((hB3.set_ 0 _).set_ 1 _).set_ 2 _).set_ 3 _), ?_⟩
                have hq := (((hbel.alloc (by omega) _).trans (hb2.mono (by simp; omega))).alloc (by omega) _).trans (hb3.mono (by simp; omega))
                exact ((((hq.setCell (Nat.le_refl _) _).setCell (Nat.le_refl _) _).setCell (Nat.le_refl _) _).setCell (Nat.le_refl _) _).drew
              case measure => simp [intOf]; omega
            · go_wp2_with (first | (go_at_call 45; refine (through_ h.v h.cost _).mono ?_; rintro e w2 ⟨rfl, hb2⟩; obtain ⟨hc2, hf2⟩ := bcell hb2; have hz2 : wr.heap.size < w2.heap.size := (by have := hb2.size; simp at this; omega); have hz2' : w1.heap.size < w2.heap.size := (by omega); obtain ⟨m0, m1, m2, m3, n0, n1, n2, n3⟩ := vec_cells ((HB.out.alloc _).below hb2 (by simp; omega))) | (go_at_call 36; refine (cmp (tv h.v h.cost) st.2 _).mono ?_; rintro e w3 ⟨rfl, hb3⟩; have hB3 := ((((HB.out.alloc _).below hb2 (by simp; omega)).alloc _).below hb3 (by simp; omega)); obtain ⟨x0, x1, x2, x3, y0, y1, y2, y3⟩ := vec_cells hB3; have hV3 := (Blk.new w2 62 #[.int .u64 (tv h.v h.cost).root, .int .i64 (tv h.v h.cost).cost, .int .u64 (tv h.v h.cost).bridge, .int .i64 (tv h.v h.cost).port]).below hb3 (by simp); obtain ⟨z0, z1, z2, z3, t0, t1, t2, t3⟩ := vec_cells hV3; have hz3 : w2.heap.size < w3.heap.size := (by have := hb3.size; simp at this; omega)))
              go_roundw
              case rel =>
                have hbt : bestTo b hs (k + 1) = st := by rw [← HS.out]; exact bestTo_no HA.out (by rw [HS.out]; simp [better, i4])
                refine ⟨k + 1, by omega, by go_num, by rw [hbt], by rw [hbt]; exact hB3, (((hbel.alloc (by omega) _).trans (hb2.mono (by simp; omega))).alloc (by omega) _).trans (hb3.mono (by simp; omega))⟩
              case measure => simp [intOf]; omega
          · have i3' : (te h.v h.cost == 0) = false := by simp [i3]
            go_wp2_with (go_at_call 45; refine (through_ h.v h.cost _).mono ?_; rintro e w2 ⟨rfl, hb2⟩; obtain ⟨hc2, hf2⟩ := bcell hb2; have hz2 : wr.heap.size < w2.heap.size := (by have := hb2.size; simp at this; omega); have hz2' : w1.heap.size < w2.heap.size := (by omega); obtain ⟨m0, m1, m2, m3, n0, n1, n2, n3⟩ := vec_cells ((HB.out.alloc _).below hb2 (by simp; omega)))
            go_roundw
            case rel =>
              have hbt : bestTo b hs (k + 1) = st := by rw [← HS.out]; exact bestTo_no HA.out (by rw [HS.out]; simp [better, i3'])
              refine ⟨k + 1, by omega, by go_num, by rw [hbt], by rw [hbt]; exact ((HB.out.alloc _).below hb2 (by simp; omega)).alloc _, ((hbel.alloc (by omega) _).trans (hb2.mono (by simp; omega))).alloc (by omega) _⟩
            case measure => simp [intOf]; omega
      · have i1' : h.is = false := by simpa using i1
        go_wp2_with (go_at_call 45; refine (through_ h.v h.cost _).mono ?_; rintro e w2 ⟨rfl, hb2⟩; obtain ⟨hc2, hf2⟩ := bcell hb2; have hz2 : wr.heap.size < w2.heap.size := (by have := hb2.size; simp at this; omega); have hz2' : w1.heap.size < w2.heap.size := (by omega); obtain ⟨m0, m1, m2, m3, n0, n1, n2, n3⟩ := vec_cells ((HB.out.alloc _).below hb2 (by simp; omega)))
        go_roundw
        case rel =>
          have hbt : bestTo b hs (k + 1) = st := by rw [← HS.out]; exact bestTo_no HA.out (by rw [HS.out]; simp [better, i1'])
          refine ⟨k + 1, by omega, by go_num, by rw [hbt], by rw [hbt]; exact ((HB.out.alloc _).below hb2 (by simp; omega)).alloc _, ((hbel.alloc (by omega) _).trans (hb2.mono (by simp; omega))).alloc (by omega) _⟩
        case measure => simp [intOf]; omega
    · have hke : k = n := by omega
      have HK := Lib.hid hke
      clear hke
      obtain ⟨v0, v1, v2, v3, f0, f1, f2, f3⟩ := vec_cells hblk
      have hres := HR.out.below hbel (by omega)
      obtain ⟨r0, r1, r2, r3, g0, g1, g2, g3⟩ := vec_cells (v := ⟨0, 0, 0, 0⟩) hres
      go_wp2
      go_region
      go_wp2
      refine bodyPost_ret (v := .tuple #[.int .i64 (bestTo b hs k).1, .agg #[.int .u64 ((bestTo b hs k).2).root, .int .i64 ((bestTo b hs k).2).cost, .int .u64 ((bestTo b hs k).2).bridge, .int .i64 ((bestTo b hs k).2).port]]) (by simp [results, Try.results35, go_sem, r0, r1, r2, r3]) rfl ⟨?_, ?_⟩
      · rw [bestOf, HL.out, HK.out]
      · have hq : Below w.heap.size w wr := hw1.trans (hbel.mono (by omega))
        exact ((((hq.setCell (Nat.le_refl _) _).setCell (Nat.le_refl _) _).setCell (Nat.le_refl _) _).setCell (Nat.le_refl _) _).drew
end Prio
end Go.Proofs.Ytdgbemafhhhceaa
