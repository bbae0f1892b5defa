/-
  Links in memory; the walks of told (links for the program) and of the document's ends.
-/
import Derived.Test.YtdgbemafhhhceaaTreeMath
import Derived.Test.YtdgbemafhhhceaaPrioRoles
import Derived.Test.YtdgbemafhhhceaaRow
import Derived.Deep.RegionHeld3
namespace Go.Proofs.Ytdgbemafhhhceaa
set_option linter.unusedVariables false
set_option linter.unusedSimpArgs false
open Go.RowKit
namespace Tree
def cellsL (l : Lk) : List Value := [.int .i64 l.a, .int .i64 l.pa, .int .i64 l.b, .int .i64 l.pb, .int .i64 l.cost]
def cellsE (e : En) : List Value := [.int .i64 e.at_, .int .i64 e.port, .int .i64 e.to, .int .i64 e.far, .int .i64 e.cost]
theorem lenL (l : Lk) : (cellsL l).length = 5 := rfl
theorem lenE (e : En) : (cellsE e).length = 5 := rfl
theorem oneL (l : Lk) : ∀ u ∈ cellsL l, u.oneCell' = true := by
  intro u hu
  simp [cellsL] at hu
  rcases hu with rfl | rfl | rfl | rfl | rfl <;> rfl
theorem oneE (e : En) : ∀ u ∈ cellsE e, u.oneCell' = true := by
  intro u hu
  simp [cellsE] at hu
  rcases hu with rfl | rfl | rfl | rfl | rfl <;> rfl
theorem infoL : (Try.prog.info? 45).map (fun i => (i.zero, i.size, i.bytes)) = some (some (.agg #[.int .i64 0, .int .i64 0, .int .i64 0, .int .i64 0, .int .i64 0]), 5, 40) := by kernel_rfl
theorem infoE : (Try.prog.info? 49).map (fun i => (i.zero, i.size, i.bytes)) = some (some (.agg #[.int .i64 0, .int .i64 0, .int .i64 0, .int .i64 0, .int .i64 0]), 5, 40) := by kernel_rfl
theorem len_of {w : World} {B n : Nat} {A : Option Addr} {ls : List Lk} (hr : Reads w B 5 A n (ls.flatMap cellsL)) : ls.length = n := hr.len cellsL 5 (by omega) lenL
theorem read5 {w : World} {B n : Nat} {A : Option Addr} {ls : List Lk} (hr : Reads w B 5 A n (ls.flatMap cellsL)) {k : Nat} (hk : k < n) :
    ∃ (b off : Nat) (l : Lk), A = some ⟨b, off, none⟩ ∧ b < B ∧ ls[k]? = some l ∧ w.cell? ⟨b, off + k * 5, none⟩ = some (.int .i64 l.a) ∧ w.cell? ⟨b, off + k * 5 + 1, none⟩ = some (.int .i64 l.pa) ∧ w.cell? ⟨b, off + k * 5 + 2, none⟩ = some (.int .i64 l.b) ∧ w.cell? ⟨b, off + k * 5 + 3, none⟩ = some (.int .i64 l.pb) ∧ w.cell? ⟨b, off + k * 5 + 4, none⟩ = some (.int .i64 l.cost) := by
  obtain ⟨b, off, l, e, hb, hl, hc⟩ := hr.chunk cellsL 5 (by omega) lenL hk
  exact ⟨b, off, l, e, hb, hl, hc 0 _ rfl, hc 1 _ rfl, hc 2 _ rfl, hc 3 _ rfl, hc 4 _ rfl⟩
theorem read5e {w : World} {B n : Nat} {A : Option Addr} {es : List En} (hr : Reads w B 5 A n (es.flatMap cellsE)) {k : Nat} (hk : k < n) :
    ∃ (b off : Nat) (e : En), A = some ⟨b, off, none⟩ ∧ b < B ∧ es[k]? = some e ∧ w.cell? ⟨b, off + k * 5, none⟩ = some (.int .i64 e.at_) ∧ w.cell? ⟨b, off + k * 5 + 1, none⟩ = some (.int .i64 e.port) ∧ w.cell? ⟨b, off + k * 5 + 2, none⟩ = some (.int .i64 e.to) ∧ w.cell? ⟨b, off + k * 5 + 3, none⟩ = some (.int .i64 e.far) ∧ w.cell? ⟨b, off + k * 5 + 4, none⟩ = some (.int .i64 e.cost) := by
  obtain ⟨b, off, l, e, hb, hl, hc⟩ := hr.chunk cellsE 5 (by omega) lenE hk
  exact ⟨b, off, l, e, hb, hl, hc 0 _ rfl, hc 1 _ rfl, hc 2 _ rfl, hc 3 _ rfl, hc 4 _ rfl⟩
set_option maxHeartbeats 4000000 in
set_option maxRecDepth 100000 in
theorem told_ (A : Option Addr) (n c : Nat) (ls : List Lk) (w : World) (hn : n ≤ 100) (hr : Reads w w.heap.size 5 A n (ls.flatMap cellsL)) :
    Calls Try.prog 12 #[.slice A n c] w fun e w' => (∃ A' c', e = .returned (.slice A' n c') ∧ Reads w' w'.heap.size 5 A' n (ls.flatMap cellsL)) ∧ Below w.heap.size w w' := by
  obtain ⟨i0, hi, hz0, hz1, hz2⟩ := info_parts infoL
  have HL := Lib.hid (len_of hr)
  go_enter Try.func12, Try.ntmps12
  go_wp2
  go_loopw [3, 4] (fun v i wr => ∃ k : Nat, k ≤ n ∧ i = .int .i64 k ∧ wr.ownsRow w.heap.size 45 5 v k ((ls.take k).flatMap cellsL) ∧ Below w.heap.size w wr) (fun _ i _ => n - (intOf i).toNat)
  case atStart => exact ⟨0, Nat.zero_le _, rfl, ⟨by simp, .inl ⟨rfl, rfl⟩⟩, Below.refl _ _⟩
  case round =>
    obtain ⟨k, hk, rfl, hown, hbel⟩ := hrel
    by_cases hlt : k < n
    · have hlt' : (k : Int) < (n : Int) := by omega
      obtain ⟨b, off, l, rfl, hb, hat, c0, c1, c2, c3, c4⟩ := read5 (hr.below hbel) hlt
      have HT := Lib.hid (flat_take cellsL ls k l hat)
      clear hat
      go_wp2
      have q3 : k + 1 ≤ maxLen := by unfold maxLen; omega
      have q4 : (k + 1) * 40 ≤ 140737488355328 := by omega
      have hsz := hbel.size
      have hne := own_ne hown hb
      go_region_held3 (fun w' => w'.cell? ⟨b, off + k * 5, none⟩ = some (.int .i64 l.a) ∧ w'.cell? ⟨b, off + k * 5 + 1, none⟩ = some (.int .i64 l.pa) ∧ w'.cell? ⟨b, off + k * 5 + 2, none⟩ = some (.int .i64 l.b) ∧ w'.cell? ⟨b, off + k * 5 + 3, none⟩ = some (.int .i64 l.pb) ∧ w'.cell? ⟨b, off + k * 5 + 4, none⟩ = some (.int .i64 l.cost))
        (first
          | go_keep
          | (go_split_ands; refine ⟨?_, ?_, ?_, ?_, ?_⟩ <;> (rw [hgrow.cell_far _ (by simp; omega) (Ne.symm hne)]; assumption)))
        ((refine step_append_lies _ (by rfl) _ _ _ (by rfl) w.heap.size 45 i0 _ 5 40 Try.underlying28 hi hz0 hz1 hz2 rfl (by omega) _ k _ (by rfl) ((hown.alloc _).drew) ⟨wr.heap.size, 0, none⟩ 1 1 (cellsL l) (by rfl) (by rfl) (new_cells wr (cellsL l) 45) (oneL l) (by omega) q3 q4 (size_drew_alloc hsz _) (wr.heap.size + 1) (by simp) ?_; intro gg cap w1 hown' hgrow hat hlt2))
      go_wp2
      go_roundw
      case rel => exact ⟨k + 1, by omega, by go_num, by rw [HT.out]; exact hown', ((hbel.alloc (by omega) _).drew).grown hgrow (by simp; omega) (own_from hown)⟩
      case measure => simp [intOf]; omega
    · have hke : k = n := by omega
      have HK := Lib.hid hke
      clear hke
      go_wp2
      obtain ⟨A', c', hv, hrr⟩ := own_form hown
      rw [HK.out, ← HL.out, List.take_length] at hrr
      rw [← HL.out]
      go_ret
      exact ⟨⟨A', c', by rw [HK.out, ← HL.out] at hv; simpa using hv, hrr⟩, hbel⟩
set_option maxHeartbeats 4000000 in
set_option maxRecDepth 100000 in
theorem rends_ (A : Option Addr) (n c : Nat) (ls : List Lk) (w : World) (hn : n ≤ 100) (hr : Reads w w.heap.size 5 A n (ls.flatMap cellsL)) :
    Calls Try.prog 20 #[.slice A n c] w fun e w' => (∃ A' c', e = .returned (.slice A' (2 * n) c') ∧ Reads w' w'.heap.size 5 A' (2 * n) ((endsOf ls).flatMap cellsE)) ∧ Below w.heap.size w w' := by
  obtain ⟨i0, hi, hz0, hz1, hz2⟩ := info_parts infoE
  have HL := Lib.hid (len_of hr)
  go_enter Try.func20, Try.ntmps20
  go_wp2
  go_loopw [3, 4] (fun v i wr => ∃ k : Nat, k ≤ n ∧ i = .int .i64 k ∧ wr.ownsRow w.heap.size 49 5 v (2 * k) ((endsOf (ls.take k)).flatMap cellsE) ∧ Below w.heap.size w wr) (fun _ i _ => n - (intOf i).toNat)
  case atStart => exact ⟨0, Nat.zero_le _, rfl, ⟨by simp [endsOf], .inl ⟨rfl, by simp [endsOf]⟩⟩, Below.refl _ _⟩
  case round =>
    obtain ⟨k, hk, rfl, hown, hbel⟩ := hrel
    by_cases hlt : k < n
    · have hlt' : (k : Int) < (n : Int) := by omega
      obtain ⟨b, off, l, rfl, hb, hat, c0, c1, c2, c3, c4⟩ := read5 (hr.below hbel) hlt
      have HT := Lib.hid (endsOf_take hat)
      have q3 : 2 * k + 1 ≤ maxLen := by unfold maxLen; omega
      have q4 : (2 * k + 1) * 40 ≤ 140737488355328 := Nat.le_trans (Nat.mul_le_mul_right 40 (show 2 * k + 1 ≤ 300 by omega)) (by decide)
      have q5 : 2 * k + 1 + 1 ≤ maxLen := by unfold maxLen; omega
      have q6 : (2 * k + 1 + 1) * 40 ≤ 140737488355328 := Nat.le_trans (Nat.mul_le_mul_right 40 (show 2 * k + 1 + 1 ≤ 300 by omega)) (by decide)
      have hsz := hbel.size
      have HOWN := Lib.hid (hown.alloc (.cells #[.int .i64 l.a, .int .i64 l.pa, .int .i64 l.b, .int .i64 l.pb, .int .i64 l.cost] 42))
      have HB := Lib.hid (hbel.alloc hsz (.cells #[.int .i64 l.a, .int .i64 l.pa, .int .i64 l.b, .int .i64 l.pb, .int .i64 l.cost] 42))
      have HBX := Lib.hid (Blk.new wr 42 (cellsL l).toArray)
      have hzz : wr.heap.size < (wr.alloc (.cells #[.int .i64 l.a, .int .i64 l.pa, .int .i64 l.b, .int .i64 l.pb, .int .i64 l.cost] 42)).heap.size := by simp
      clear hat hown hbel
      go_upto_region 6 with (fail)
      have HBX' : Hid (Blk (wr.alloc (.cells #[.int .i64 l.a, .int .i64 l.pa, .int .i64 l.b, .int .i64 l.pb, .int .i64 l.cost] 42)) wr.heap.size 42 (cellsL l).toArray) := HBX
      clear HBX c0 c1 c2 c3 c4
      generalize wr.alloc (.cells #[.int .i64 l.a, .int .i64 l.pa, .int .i64 l.b, .int .i64 l.pb, .int .i64 l.cost] 42) = W at *
      have d0 : W.cell? ⟨wr.heap.size, 0, none⟩ = some (.int .i64 l.a) := HBX'.out.cell 0
      have d1 : W.cell? ⟨wr.heap.size, 1, none⟩ = some (.int .i64 l.pa) := HBX'.out.cell 1
      have d2 : W.cell? ⟨wr.heap.size, 2, none⟩ = some (.int .i64 l.b) := HBX'.out.cell 2
      have d3 : W.cell? ⟨wr.heap.size, 3, none⟩ = some (.int .i64 l.pb) := HBX'.out.cell 3
      have d4 : W.cell? ⟨wr.heap.size, 4, none⟩ = some (.int .i64 l.cost) := HBX'.out.cell 4
      have hnew : ∀ w4 : World, (W.alloc (.cells #[.int .i64 l.a, .int .i64 l.pa, .int .i64 l.b, .int .i64 l.pb, .int .i64 l.cost] 49)).grownBy w4 u3.ownBlock → Blk w4 wr.heap.size 42 (cellsL l).toArray ∧ Below w.heap.size w w4 := fun w4 hg =>
        ⟨(HBX'.out.alloc _).grown hg (fun e => own_blk_ne (HOWN.out.alloc (.cells #[.int .i64 l.a, .int .i64 l.pa, .int .i64 l.b, .int .i64 l.pb, .int .i64 l.cost] 49)) (HBX'.out.alloc (.cells #[.int .i64 l.a, .int .i64 l.pa, .int .i64 l.b, .int .i64 l.pb, .int .i64 l.cost] 49)) (by decide) e.symm), (HB.out.alloc HB.out.size _).grown hg (by have := HB.out.size; simp; omega) (own_from HOWN.out)⟩
      have HNEW := Lib.hid hnew
      have hWz := HB.out.size
      clear hnew
      go_wp2_with (first
        | (at_builtin; refine wpList_append_own _ rfl (.tmp 16) (.tmp 28) 46 rfl w.heap.size 49 i0 _ 5 40 Try.underlying46 hi hz0 hz1 hz2 rfl (by omega) u3 (2 * k) _ rfl (HOWN.out.alloc _) ⟨W.heap.size, 0, none⟩ 1 1 (cellsE ⟨l.a, l.pa, l.b, l.pb, l.cost⟩) rfl rfl (new_cells' _ (cellsE ⟨l.a, l.pa, l.b, l.pb, l.cost⟩) 49 _ rfl) (oneE _) q3 q4 (by simp; omega) ?_; intro v4 w4 hown4 hg4 _; have hbx4 := (HNEW.out w4 hg4).1; have hbl4 := (HNEW.out w4 hg4).2; have hz4 := hbl4.size; have e0 : w4.cell? ⟨wr.heap.size, 0, none⟩ = some (.int .i64 l.a) := hbx4.cell 0; have e1 : w4.cell? ⟨wr.heap.size, 1, none⟩ = some (.int .i64 l.pa) := hbx4.cell 1; have e2 : w4.cell? ⟨wr.heap.size, 2, none⟩ = some (.int .i64 l.b) := hbx4.cell 2; have e3 : w4.cell? ⟨wr.heap.size, 3, none⟩ = some (.int .i64 l.pb) := hbx4.cell 3; have e4 : w4.cell? ⟨wr.heap.size, 4, none⟩ = some (.int .i64 l.cost) := hbx4.cell 4; have HB4 := Lib.hid hbl4; have HOWN4 := Lib.hid hown4; clear hbx4 hbl4 hown4 hg4 d0 d1 d2 d3 d4)
        | (at_builtin; refine wpList_append_own _ rfl (.tmp 30) (.tmp 42) 46 rfl w.heap.size 49 i0 _ 5 40 Try.underlying46 hi hz0 hz1 hz2 rfl (by omega) v4 (2 * k + 1) _ rfl (HOWN4.out.alloc _) ⟨w4.heap.size, 0, none⟩ 1 1 (cellsE ⟨l.b, l.pb, l.a, l.pa, l.cost⟩) rfl rfl (new_cells' _ (cellsE ⟨l.b, l.pb, l.a, l.pa, l.cost⟩) 49 _ rfl) (oneE _) q5 q6 (by simp; omega) ?_; intro v5 w5 hown5 hg5 _))
      go_roundw
      case rel =>
        refine ⟨k + 1, by omega, by go_num, ?_, (HB4.out.alloc HB4.out.size _).grown hg5 (by have := HB4.out.size; simp; omega) (own_from HOWN4.out)⟩
        rw [HT.out, List.flatMap_append]
        have e : 2 * (k + 1) = 2 * k + 1 + 1 := by omega
        rw [e]
        simpa [two] using hown5
      case measure => simp [intOf]; omega
    · have hke : k = n := by omega
      have HK := Lib.hid hke
      clear hke
      go_wp2
      obtain ⟨A', c', hv, hrr⟩ := own_form hown
      rw [HK.out, ← HL.out, List.take_length] at hrr
      rw [← HL.out]
      go_ret
      exact ⟨⟨A', c', by rw [HK.out, ← HL.out] at hv; simpa using hv, hrr⟩, hbel⟩
end Tree
end Go.Proofs.Ytdgbemafhhhceaa
