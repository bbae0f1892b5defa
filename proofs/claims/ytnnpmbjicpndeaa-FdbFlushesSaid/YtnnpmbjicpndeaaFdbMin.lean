/-
  The walk of slices.MinFunc at entries, with the closure of fdb's drive.
-/
import Derived.Test.YtnnpmbjicpndeaaFdbKey
namespace Go.Proofs.Ytnnpmbjicpndeaa
set_option linter.unusedVariables false
set_option linter.unusedSimpArgs false
open Go.RowKit
namespace FdbC
theorem lenE (x : Er) : (cellsE x).length = 4 := rfl
def stepE (m x : Er) : Er := if cmpA x m < 0 then x else m
def minTo (x0 : Er) (xs : List Er) (k : Nat) : Er := (xs.take k).foldl stepE x0
theorem minTo_succ (x0 : Er) (xs : List Er) {k : Nat} {x : Er} (h : xs[k]? = some x) : minTo x0 xs (k + 1) = stepE (minTo x0 xs k) x := by
  unfold minTo
  rw [List.take_add_one, h]
  simp
theorem bl_irrefl : ∀ (a : List UInt8), Op.bytesLess a a = false
  | [] => rfl
  | x :: r => by simp [Op.bytesLess, bl_irrefl r]
theorem cmpA_self (x : Er) : cmpA x x = 0 := by simp [cmpA, cmpK, or2, cmpI, cmpS, bl_irrefl]
theorem minTo_one {x0 : Er} {xs : List Er} (h : xs[0]? = some x0) : minTo x0 xs 1 = x0 := by
  rw [minTo_succ x0 xs h]
  simp [minTo, stepE, cmpA_self]
set_option maxHeartbeats 4000000 in
set_option maxRecDepth 20000 in
theorem min_ (gp cap : Nat) (x0 : Er) (xs : List Er) (w : World) (h0 : xs[0]? = some x0) (hn : xs.length ≤ 5000) (hr : Row w gp 54 (xs.flatMap cellsE)) :
    Calls Try.prog 30 #[.slice (some ⟨gp, 0, none⟩) xs.length cap, .func (.func 31) #[] #[]] w fun e w' => e = .returned (valE (minTo x0 xs xs.length)) ∧ Below w.heap.size w w' := by
  have hl : 0 < xs.length := by have := (List.getElem?_eq_some_iff.1 h0).1; omega
  have c0 := hr.at_ lenE h0 (j := 0) (by omega) rfl
  have c1 := hr.at_ lenE h0 (j := 1) (by omega) rfl
  have c2 := hr.at_ lenE h0 (j := 2) (by omega) rfl
  have c3 := hr.at_ lenE h0 (j := 3) (by omega) rfl
  simp only [Nat.zero_mul, Nat.zero_add] at c0 c1 c2 c3
  have hlt := hr.lt
  have hl1 : ¬ (xs.length : Int) < 1 := by omega
  go_enter Try.func30, Try.ntmps30
  go_wp2
  have HL := Lib.hid hl
  go_loopw [6] (fun i wr => ∃ k : Nat, 1 ≤ k ∧ k ≤ xs.length ∧ i = .int .i64 k ∧ Blk wr (w.heap.size + 1) 54 (cellsE (minTo x0 xs k)).toArray ∧ Below (w.heap.size + 1) (w.alloc (.cells #[.int .i64 0, .string ⟨#[]⟩, .int .i64 0, .int .i64 0] 54)) wr) (fun i _ => xs.length - (intOf i).toNat)
  case atStart =>
    refine ⟨1, by omega, by omega, rfl, ?_, (Below.refl _ _).alloc (by simp) _⟩
    rw [minTo_one h0]
    have := Blk.new (w.alloc (.cells #[.int .i64 0, .string ⟨#[]⟩, .int .i64 0, .int .i64 0] 54)) 54 (cellsE x0).toArray
    simpa [cellsE] using this
  case round =>
    obtain ⟨k, hk1, hk, rfl, hblk, hbel⟩ := hrel
    have hs := hbel.size
    have d0 : wr.cell? ⟨w.heap.size + 1, 0, none⟩ = some (.int .i64 (minTo x0 xs k).1) := hblk.cell 0
    have d1 : wr.cell? ⟨w.heap.size + 1, 1, none⟩ = some (.string (minTo x0 xs k).2.1) := hblk.cell 1
    have d2 : wr.cell? ⟨w.heap.size + 1, 2, none⟩ = some (.int .i64 (minTo x0 xs k).2.2.1) := hblk.cell 2
    have d3 : wr.cell? ⟨w.heap.size + 1, 3, none⟩ = some (.int .i64 (minTo x0 xs k).2.2.2) := hblk.cell 3
    have g0 := hblk.frozen 0
    have g1 := hblk.frozen 1
    have g2 := hblk.frozen 2
    have g3 := hblk.frozen 3
    by_cases hlk : k < xs.length
    · obtain ⟨x, hx⟩ : ∃ x, xs[k]? = some x := ⟨_, List.getElem?_eq_getElem hlk⟩
      have hrw := (hr.alloc (.cells #[.int .i64 0, .string ⟨#[]⟩, .int .i64 0, .int .i64 0] 54)).below hbel (by omega)
      have e0 := hrw.at_ lenE hx (j := 0) (by omega) rfl
      have e1 := hrw.at_ lenE hx (j := 1) (by omega) rfl
      have e2 := hrw.at_ lenE hx (j := 2) (by omega) rfl
      have e3 := hrw.at_ lenE hx (j := 3) (by omega) rfl
      have hgr : gp < wr.heap.size := hrw.lt
      have hmr : w.heap.size + 1 < wr.heap.size := hblk.lt
      have HS := Lib.hid (minTo_succ x0 xs hx)
      have HR := Lib.hid hr
      have HB := Lib.hid hbel
      have HK := Lib.hid hblk
      clear hr hbel hblk hrw hs hx
      generalize minTo x0 xs k = m at *
      simp only [Nat.add_zero] at e0
      go_wp2
      refine region_tail 6 (by kernel_rfl) (by kernel_rfl) ?_
      simp only [List.take_succ_cons, List.take_zero, List.drop_succ_cons, List.drop_zero]
      refine SW.un ?_
      (refine SW.want (by kernel_rfl) (fun K hK => ?_); have HK := Lib.hid hK; clear hK; go_simp; refine SW.on HK ?_; clear HK K)
      (refine SW.want (by kernel_rfl) (fun K hK => ?_); have HK := Lib.hid hK; clear hK; go_simp; refine SW.on HK ?_; clear HK K)
      (refine SW.want (by kernel_rfl) (fun K hK => ?_); have HK := Lib.hid hK; clear hK; go_simp; refine SW.on HK ?_; clear HK K)
      (refine SW.want (by kernel_rfl) (fun K hK => ?_); have HK := Lib.hid hK; clear hK; go_simp; refine SW.on HK ?_; clear HK K)
      (refine SW.want (by kernel_rfl) (fun K hK => ?_); have HK := Lib.hid hK; clear hK; go_simp; refine SW.on HK ?_; clear HK K)
      (refine SW.want (by kernel_rfl) (fun K hK => ?_); have HK := Lib.hid hK; clear hK; go_simp; refine SW.on HK ?_; clear HK K)
      refine SW.nil ?_
      go_wp2_with (go_at_call 31; refine (oldest_ x m _).mono ?_; rintro e w2 ⟨rfl, hb2'⟩; have hb2 := hb2'.below; have e0' : w2.cell? ⟨gp, k * 4, none⟩ = some (.int .i64 x.1) := bkeep (w := wr.drew) hb2 hgr e0; have g0' : w2.frozen? ⟨w.heap.size + 1, 0, none⟩ = false := ((bcell (W := wr.drew) hb2).2 _ _ hmr).trans g0; have d0' : w2.cell? ⟨w.heap.size + 1, 0, none⟩ = some (.int .i64 m.1) := bkeep (w := wr.drew) hb2 hmr d0; have e1' : w2.cell? ⟨gp, k * 4 + 1, none⟩ = some (.string x.2.1) := bkeep (w := wr.drew) hb2 hgr e1; have g1' : w2.frozen? ⟨w.heap.size + 1, 1, none⟩ = false := ((bcell (W := wr.drew) hb2).2 _ _ hmr).trans g1; have d1' : w2.cell? ⟨w.heap.size + 1, 1, none⟩ = some (.string m.2.1) := bkeep (w := wr.drew) hb2 hmr d1; have e2' : w2.cell? ⟨gp, k * 4 + 2, none⟩ = some (.int .i64 x.2.2.1) := bkeep (w := wr.drew) hb2 hgr e2; have g2' : w2.frozen? ⟨w.heap.size + 1, 2, none⟩ = false := ((bcell (W := wr.drew) hb2).2 _ _ hmr).trans g2; have d2' : w2.cell? ⟨w.heap.size + 1, 2, none⟩ = some (.int .i64 m.2.2.1) := bkeep (w := wr.drew) hb2 hmr d2; have e3' : w2.cell? ⟨gp, k * 4 + 3, none⟩ = some (.int .i64 x.2.2.2) := bkeep (w := wr.drew) hb2 hgr e3; have g3' : w2.frozen? ⟨w.heap.size + 1, 3, none⟩ = false := ((bcell (W := wr.drew) hb2).2 _ _ hmr).trans g3; have d3' : w2.cell? ⟨w.heap.size + 1, 3, none⟩ = some (.int .i64 m.2.2.2) := bkeep (w := wr.drew) hb2 hmr d3)
      · rename_i hc
        have hst : minTo x0 xs (k + 1) = x := HS.out.trans (if_pos hc)
        refine ⟨⟨k + 1, by omega, by omega, by simp, ?_, ?_⟩, by simp [intOf]; omega⟩
        · rw [hst]
          have := (((((HK.out.drew).below hb2 hmr).set_ 0 (.int .i64 x.1)).set_ 1 (.string x.2.1)).set_ 2 (.int .i64 x.2.2.1)).set_ 3 (.int .i64 x.2.2.2)
          simpa [cellsE] using this
        · refine Below.setCell (Below.setCell (Below.setCell (Below.setCell (HB.out.drew.trans (hb2.mono (by simp; omega))) (by simp) _) (by simp) _) (by simp) _) (by simp) _
      · rename_i hc
        have hst : minTo x0 xs (k + 1) = m := HS.out.trans (if_neg (by simpa using hc))
        refine ⟨⟨k + 1, by omega, by omega, by simp, ?_, ?_⟩, by simp [intOf]; omega⟩
        · rw [hst]
          exact (HK.out.drew).below hb2 hmr
        · exact HB.out.drew.trans (hb2.mono (by simp; omega))
    · have hk' : k = xs.length := by omega
      subst hk'
      have hm0 : w.heap.size < wr.heap.size := by simp at hs; omega
      have hz : Blk wr w.heap.size 54 #[.int .i64 0, .string ⟨#[]⟩, .int .i64 0, .int .i64 0] := (Blk.new w _ _).below hbel (by omega)
      have z0 : wr.cell? ⟨w.heap.size, 0, none⟩ = some (.int .i64 0) := hz.cell 0
      have z1 : wr.cell? ⟨w.heap.size, 1, none⟩ = some (.string ⟨#[]⟩) := hz.cell 1
      have z2 : wr.cell? ⟨w.heap.size, 2, none⟩ = some (.int .i64 0) := hz.cell 2
      have z3 : wr.cell? ⟨w.heap.size, 3, none⟩ = some (.int .i64 0) := hz.cell 3
      have g0' := hz.frozen 0
      have g1' := hz.frozen 1
      have g2' := hz.frozen 2
      have g3' := hz.frozen 3
      clear hs
      go_wp2
      have hz2 : Blk ((((wr.setCell ⟨w.heap.size, 0, none⟩ (.int .i64 (minTo x0 xs xs.length).1)).setCell ⟨w.heap.size, 1, none⟩ (.string (minTo x0 xs xs.length).2.1)).setCell ⟨w.heap.size, 2, none⟩ (.int .i64 (minTo x0 xs xs.length).2.2.1)).setCell ⟨w.heap.size, 3, none⟩ (.int .i64 (minTo x0 xs xs.length).2.2.2)) w.heap.size 54 (cellsE (minTo x0 xs xs.length)).toArray := by
        have := (((hz.set_ 0 (.int .i64 (minTo x0 xs xs.length).1)).set_ 1 (.string (minTo x0 xs xs.length).2.1)).set_ 2 (.int .i64 (minTo x0 xs xs.length).2.2.1)).set_ 3 (.int .i64 (minTo x0 xs xs.length).2.2.2)
        simpa [cellsE] using this
      have q0 := hz2.cell 0
      have q1 := hz2.cell 1
      have q2 := hz2.cell 2
      have q3 := hz2.cell 3
      simp only [cellsE] at q0 q1 q2 q3
      refine bodyPost_ret (v := valE (minTo x0 xs xs.length)) (by simp [results, Try.results30, go_sem, q0, q1, q2, q3, valE]) rfl ⟨rfl, ?_⟩
      refine Below.setCell (Below.setCell (Below.setCell (Below.setCell ((((Below.refl w.heap.size w).alloc (Nat.le_refl _) _)).trans (hbel.mono (by omega))) (by simp) _) (by simp) _) (by simp) _) (by simp) _
end FdbC
end Go.Proofs.Ytnnpmbjicpndeaa
