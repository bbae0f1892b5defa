/-
  The walk of QuerierQuiet: one without an address.
-/
import Derived.Test.YtdpppljobikjhaaDoorQLive
import Derived.Deep.DeepCutAuto
namespace Go.Proofs.YtdpppljobikjhaaDoor
set_option linter.unusedVariables false
set_option linter.unusedSimpArgs false
open Go.RowKit
namespace Q
structure OpQ where
  do_ : Int
  src : ByteArray
  now : Int
def cellsO (o : OpQ) : List Value := [.int .i64 o.do_, .string o.src, .int .i64 o.now]
theorem isB_none (every robust till nx ak now : Int) : isB ⟨⟨#[]⟩, every, robust, till, nx, ak⟩ now = false := by
  simp [isB, ByteArray.toList_eq]
theorem empty_spell : (ByteArray.mk #[]).toList.isEmpty = true := by simp [ByteArray.toList_eq]
set_option maxRecDepth 100000 in
set_option maxHeartbeats 4000000 in
theorem quiet_ (every robust : Int) (A : Option Addr) (n c : Nat) (ops : List OpQ) (w : World) (hr : Reads w w.heap.size 3 A n (ops.flatMap cellsO)) :
    Calls Tryd.prog 5 #[.int .i64 every, .int .i64 robust, .slice A n c] w fun e w' => e = .returned (.bool true) ∧ Below w.heap.size w w' := by
  cases hm : mayQ 0 every robust 0
  · go_enter Tryd.func5, Tryd.ntmps5
    go_wp2_with (first
      | (go_at_call 9; refine (new_no ⟨#[]⟩ every robust 0 _ hm).mono ?_; rintro e w1 ⟨rfl, hb1⟩)
      | (go_at_call 8; refine (live_ _).mono ?_; rintro e w2 ⟨rfl, hb2⟩))
    go_ret
    exact ⟨rfl, hb1.trans (hb2.mono hb1.size)⟩
  · have HM := Lib.hid hm
    clear hm
    go_enter Tryd.func5, Tryd.ntmps5
    go_wp2_with (go_at_call 9; refine (new_ ⟨#[]⟩ every robust 0 _ HM.out).mono ?_; rintro e w1 ⟨g, hg, rfl, hq, hb1⟩)
    go_loopw [9] (fun v9 wr => ∃ (k : Nat) (nx ak : Int), k ≤ n ∧ k ≤ 80 ∧ v9 = .int .i64 k ∧ At wr g ⟨⟨#[]⟩, every, robust, 0, nx, ak⟩ ∧ Below w.heap.size w wr) (fun v _ => n - (intOf v).toNat)
    case atStart => exact ⟨0, 0, 0, by omega, by omega, rfl, hq, hb1⟩
    case round =>
      obtain ⟨k, nx, ak, hkn, hk, rfl, hqr, hbel⟩ := hrel
      by_cases hlt : k < n
      · have hlt' : (k : Int) < (n : Int) := by omega
        by_cases h80 : k < 80
        · have h80' : (k : Int) < 80 := by omega
          obtain ⟨b, off, o, rfl, hb, hat, hc⟩ := (hr.below hbel).chunk cellsO 3 (by omega) (fun _ => rfl) hlt
          have c0 : wr.cell? ⟨b, off + k * 3, none⟩ = some (.int .i64 o.do_) := hc 0 _ rfl
          have c1 := hc 1 _ rfl
          have c2 := hc 2 _ rfl
          have HAT := Lib.hid hat
          clear hc hat
          have hq1 : ∀ o, At (wr.alloc o) g ⟨⟨#[]⟩, every, robust, 0, nx, ak⟩ := fun o => Blk.alloc hqr o
          have hisb := isB_none every robust 0 nx ak o.now
          have hisb2 := isB_none every robust 0 0 0 o.now
          have hq2 : ∀ {w2 : World}, At w2 g { (⟨⟨#[]⟩, every, robust, 0, nx, ak⟩ : Qr) with next := 0, asked := 0 } → At w2 g ⟨⟨#[]⟩, every, robust, 0, 0, 0⟩ := fun h => h
          cases hin : inB o.now 0 1099511627776
          · go_wp2_with (first
              | (go_at_call 11; refine (hear_none g _ o.src o.now _ (hq1 _) empty_spell).mono ?_; rintro e w2 ⟨rfl, rfl⟩)
              | (go_at_call 10; refine (tick_bad g o.now _ hin).mono ?_; rintro e w2 ⟨rfl, rfl⟩)
              | (go_at_call 12; refine (is_ g _ o.now _ (hq1 _)).mono ?_; rintro e w2 ⟨rfl, rfl⟩))
            go_roundw
            case rel => exact ⟨k + 1, nx, ak, by omega, by omega, by go_num, hq1 _, hbel.alloc hbel.size _⟩
            case measure => simp [intOf]; omega
          · go_wp2_with (first
              | (go_at_call 11; refine (hear_none g _ o.src o.now _ (hq1 _) empty_spell).mono ?_; rintro e w2 ⟨rfl, rfl⟩)
              | (go_at_call 10; refine (tick_not g _ o.now _ (hq1 _) hin hisb).mono ?_; rintro e w2 ⟨rfl, hq3, hk3⟩; have hcc := hk3.cells wr.heap.size 2 (by simp) (by have := hqr.lt; simp; omega))
              | (go_at_call 12; refine (is_ g _ o.now _ hq3).mono ?_; rintro e w4 ⟨rfl, rfl⟩))
            go_roundw
            case rel => exact ⟨k + 1, 0, 0, by omega, by omega, by go_num, hq3, keep_below (hbel.alloc hbel.size _) hk3 hg⟩
            case measure => simp [intOf]; omega
        · have h80' : ¬ (k : Int) < 80 := by omega
          go_wp2_with (go_at_call 8; refine (live_ _).mono ?_; rintro e w2 ⟨rfl, hb2⟩)
          go_ret
          exact ⟨rfl, hbel.trans (hb2.mono hbel.size)⟩
      · have hge : ¬ (k : Int) < (n : Int) := by omega
        go_wp2_with (go_at_call 8; refine (live_ _).mono ?_; rintro e w2 ⟨rfl, hb2⟩)
        go_ret
        exact ⟨rfl, hbel.trans (hb2.mono hbel.size)⟩
end Q
end Go.Proofs.YtdpppljobikjhaaDoor
