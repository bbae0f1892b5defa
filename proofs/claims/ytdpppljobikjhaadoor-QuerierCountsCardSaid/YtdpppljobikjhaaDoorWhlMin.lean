/-
  The walk of slices.MinFunc at timers, with wheel.before.
-/
import Derived.Test.YtdpppljobikjhaaDoorWhlCmp
namespace Go.Proofs.YtdpppljobikjhaaDoor
set_option linter.unusedVariables false
set_option linter.unusedSimpArgs false
open Go.RowKit
namespace WhlC
abbrev Tt := Int × Int
def cellsTt (x : Tt) : List Value := [.int .i64 x.1, .int .i64 x.2]
theorem lenTt (x : Tt) : (cellsTt x).length = 2 := rfl
def stepT (m x : Tt) : Tt := if cmpT x m < 0 then x else m
def minTo (x0 : Tt) (xs : List Tt) (k : Nat) : Tt := (xs.take k).foldl stepT x0
theorem minTo_succ (x0 : Tt) (xs : List Tt) {k : Nat} {x : Tt} (h : xs[k]? = some x) : minTo x0 xs (k + 1) = stepT (minTo x0 xs k) x := by
  unfold minTo
  rw [List.take_add_one, h]
  simp
theorem cmpT_self (x : Tt) : cmpT x x = 0 := by simp [cmpT, or2, cmpI]
theorem minTo_one {x0 : Tt} {xs : List Tt} (h : xs[0]? = some x0) : minTo x0 xs 1 = x0 := by
  rw [minTo_succ x0 xs h]
  simp [minTo, stepT, cmpT_self]
theorem min_ (gp cap : Nat) (x0 : Tt) (xs : List Tt) (w : World) (h0 : xs[0]? = some x0) (hn : xs.length ≤ 5000) (hr : Row w gp 99 (xs.flatMap cellsTt)) :
    Calls Tryd.prog 41 #[.slice (some ⟨gp, 0, none⟩) xs.length cap, .func (.func 42) #[] #[]] w fun e w' => e = .returned (.agg #[.int .i64 (minTo x0 xs xs.length).1, .int .i64 (minTo x0 xs xs.length).2]) ∧ Below w.heap.size w w' := by
  have hl : 0 < xs.length := by have := (List.getElem?_eq_some_iff.1 h0).1; omega
  have c0 := hr.at_ lenTt h0 (j := 0) (by omega) rfl
  have c1 := hr.at_ lenTt h0 (j := 1) (by omega) rfl
  simp only [Nat.zero_mul, Nat.zero_add] at c0 c1
  have hlt := hr.lt
  have hl1 : ¬ (xs.length : Int) < 1 := by omega
  go_enter Tryd.func41, Tryd.ntmps41
  go_wp2
  have HL := Lib.hid hl
  go_loopw [6] (fun i wr => ∃ k : Nat, 1 ≤ k ∧ k ≤ xs.length ∧ i = .int .i64 k ∧ Blk wr (w.heap.size + 1) 99 #[.int .i64 (minTo x0 xs k).1, .int .i64 (minTo x0 xs k).2] ∧ Below (w.heap.size + 1) (w.alloc (.cells #[.int .i64 0, .int .i64 0] 99)) wr) (fun i _ => xs.length - (intOf i).toNat)
  case atStart => exact ⟨1, by omega, by omega, rfl, by rw [minTo_one h0]; have := Blk.new (w.alloc (.cells #[.int .i64 0, .int .i64 0] 99)) 99 #[.int .i64 x0.1, .int .i64 x0.2]; simpa using this, (Below.refl _ _).alloc (by simp) _⟩
  case round =>
    obtain ⟨k, hk1, hk, rfl, hblk, hbel⟩ := hrel
    have hs := hbel.size
    have d0 : wr.cell? ⟨w.heap.size + 1, 0, none⟩ = some (.int .i64 (minTo x0 xs k).1) := hblk.cell 0
    have d1 : wr.cell? ⟨w.heap.size + 1, 1, none⟩ = some (.int .i64 (minTo x0 xs k).2) := hblk.cell 1
    have g0 := hblk.frozen 0
    have g1 := hblk.frozen 1
    by_cases hlk : k < xs.length
    · obtain ⟨x, hx⟩ : ∃ x, xs[k]? = some x := ⟨_, List.getElem?_eq_getElem hlk⟩
      have hrw := (hr.alloc (.cells #[.int .i64 0, .int .i64 0] 99)).below hbel (by omega)
      have e0 := hrw.at_ lenTt hx (j := 0) (by omega) rfl
      have e1 := hrw.at_ lenTt hx (j := 1) (by omega) rfl
      have hgr : gp < wr.heap.size := hrw.lt
      have hmr : w.heap.size + 1 < wr.heap.size := hblk.lt
      have HS := Lib.hid (minTo_succ x0 xs hx)
      have HR := Lib.hid hr
      have HB := Lib.hid hbel
      have HK := Lib.hid hblk
      clear hr hbel hblk hrw hs hx
      generalize minTo x0 xs k = m at *
      simp only [Nat.add_zero] at e0
      go_wp2
      refine region_tail 6 (by kernel_rfl) (by kernel_rfl) ?_
      simp only [List.take_succ_cons, List.take_zero, List.drop_succ_cons, List.drop_zero]
      refine SW.un ?_
      (refine SW.want (by kernel_rfl) (fun K hK => ?_); have HK := Lib.hid hK; clear hK; go_simp; refine SW.on HK ?_; clear HK K)
      (refine SW.want (by kernel_rfl) (fun K hK => ?_); have HK := Lib.hid hK; clear hK; go_simp; refine SW.on HK ?_; clear HK K)
      (refine SW.want (by kernel_rfl) (fun K hK => ?_); have HK := Lib.hid hK; clear hK; go_simp; refine SW.on HK ?_; clear HK K)
      (refine SW.want (by kernel_rfl) (fun K hK => ?_); have HK := Lib.hid hK; clear hK; go_simp; refine SW.on HK ?_; clear HK K)
      (refine SW.want (by kernel_rfl) (fun K hK => ?_); have HK := Lib.hid hK; clear hK; go_simp; refine SW.on HK ?_; clear HK K)
      (refine SW.want (by kernel_rfl) (fun K hK => ?_); have HK := Lib.hid hK; clear hK; go_simp; refine SW.on HK ?_; clear HK K)
      refine SW.nil ?_
      go_wp2_with (go_at_call 42; refine (before__ x.1 x.2 m.1 m.2 _).mono ?_; rintro e w2 ⟨rfl, hb2⟩; have e0' : w2.cell? ⟨gp, k * 2, none⟩ = some (.int .i64 x.1) := bkeep (w := wr.drew) hb2 hgr e0; have e1' : w2.cell? ⟨gp, k * 2 + 1, none⟩ = some (.int .i64 x.2) := bkeep (w := wr.drew) hb2 hgr e1; have g0' : w2.frozen? ⟨w.heap.size + 1, 0, none⟩ = false := ((bcell (W := wr.drew) hb2).2 _ _ hmr).trans g0; have g1' : w2.frozen? ⟨w.heap.size + 1, 1, none⟩ = false := ((bcell (W := wr.drew) hb2).2 _ _ hmr).trans g1; have d0' : w2.cell? ⟨w.heap.size + 1, 0, none⟩ = some (.int .i64 m.1) := bkeep (w := wr.drew) hb2 hmr d0; have d1' : w2.cell? ⟨w.heap.size + 1, 1, none⟩ = some (.int .i64 m.2) := bkeep (w := wr.drew) hb2 hmr d1)
      · rename_i hc
        have hst : minTo x0 xs (k + 1) = x := HS.out.trans (if_pos hc)
        refine ⟨⟨k + 1, by omega, by omega, by simp, ?_, ?_⟩, by simp [intOf]; omega⟩
        · rw [hst]
          have := (((HK.out.drew).below hb2 hmr).set_ 0 (.int .i64 x.1)).set_ 1 (.int .i64 x.2)
          simpa using this
        · refine Below.setCell (Below.setCell (HB.out.drew.trans (hb2.mono (by simp; omega))) (by simp) _) (by simp) _
      · rename_i hc
        have hst : minTo x0 xs (k + 1) = m := HS.out.trans (if_neg (by simpa using hc))
        refine ⟨⟨k + 1, by omega, by omega, by simp, ?_, ?_⟩, by simp [intOf]; omega⟩
        · rw [hst]
          exact (HK.out.drew).below hb2 hmr
        · exact HB.out.drew.trans (hb2.mono (by simp; omega))
    · have hk' : k = xs.length := by omega
      subst hk'
      have hm0 : w.heap.size < wr.heap.size := by simp at hs; omega
      have hz : Blk wr w.heap.size 99 #[.int .i64 0, .int .i64 0] := (Blk.new w _ _).below hbel (by omega)
      have g0' := hz.frozen 0
      have g1' := hz.frozen 1
      have z0 : wr.cell? ⟨w.heap.size, 0, none⟩ = some (.int .i64 0) := hz.cell 0
      have z1 : wr.cell? ⟨w.heap.size, 1, none⟩ = some (.int .i64 0) := hz.cell 1
      clear hs
      go_wp2
      have hz2 : Blk ((wr.setCell ⟨w.heap.size, 0, none⟩ (.int .i64 (minTo x0 xs xs.length).1)).setCell ⟨w.heap.size, 1, none⟩ (.int .i64 (minTo x0 xs xs.length).2)) w.heap.size 99 #[.int .i64 (minTo x0 xs xs.length).1, .int .i64 (minTo x0 xs xs.length).2] := by
        have := (hz.set_ 0 (.int .i64 (minTo x0 xs xs.length).1)).set_ 1 (.int .i64 (minTo x0 xs xs.length).2)
        simpa using this
      have q0 := hz2.cell 0
      have q1 := hz2.cell 1
      refine bodyPost_ret (v := .agg #[.int .i64 (minTo x0 xs xs.length).1, .int .i64 (minTo x0 xs xs.length).2]) (by simp [results, Tryd.results41, go_sem, q0, q1]) rfl ⟨rfl, ?_⟩
      refine Below.setCell (Below.setCell ((((Below.refl w.heap.size w).alloc (Nat.le_refl _) _)).trans (hbel.mono (by omega))) (by simp) _) (by simp) _
end WhlC
end Go.Proofs.YtdpppljobikjhaaDoor
