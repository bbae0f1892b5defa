/-
  The walk of FdbScripts.
-/
import Derived.Test.YtnnpmbjicpndeaaFdbStep
namespace Go.Proofs.Ytnnpmbjicpndeaa
set_option linter.unusedVariables false
set_option linter.unusedSimpArgs false
open Go.RowKit Go.Maps
namespace Fdb
open Mp FdbC FdbR
set_option maxHeartbeats 8000000 in
set_option maxRecDepth 100000 in
theorem scripts_law (room age : Int) (A : Option Addr) (n c : Nat) (l : List OpF) (w : World) (hr : Reads w w.heap.size 5 A n (l.flatMap cellsOp)) (hop : ∀ o ∈ l, OkOp o) :
    Calls Try.prog 5 #[.int .i64 room, .int .i64 age, .slice A n c] w fun e w' => e = .returned (.bool true) ∧ Below w.heap.size w w' := by
  by_cases hbad : (room < 1 ∨ (¬ room < 1 ∧ 1024 < room)) ∨ (¬ room < 1 ∧ ¬ 1024 < room ∧ (age < 1 ∨ (¬ age < 1 ∧ 1000000 < age)))
  · rcases hbad with (h | ⟨h, h'⟩) | ⟨h, h', h'' | ⟨h'', h3⟩⟩
    all_goals
      go_enter Try.func5, Try.ntmps5
      go_wp2_with fail
      refine (new_bad _ room age (by omega)).mono ?_
      rintro e w1 ⟨rfl, rfl⟩
      go_wp2_with fail
      refine (live_ _).mono ?_
      rintro e w2 ⟨rfl, b2⟩
      go_wp2
      go_ret
      exact ⟨rfl, b2⟩
  · have r0 : ¬ room < 1 := by omega
    have r1 : ¬ 1024 < room := by omega
    have a0 : ¬ age < 1 := by omega
    have a1 : ¬ 1000000 < age := by omega
    clear hbad
    go_enter Try.func5, Try.ntmps5
    go_wp2_with fail
    refine (newO w room age (by omega) (by omega) (by omega) (by omega)).mono ?_
    rintro e w1 ⟨rfl, on1, b1⟩
    have z1 := b1.size
    have y1 := on1.lt
    have hst : Both (w1.alloc (.cells #[.int .i64 room, .int .i64 age, .slice none 0 0] 41)) (w.heap.size + 1) w.heap.size w1.heap.size room age [] [] :=
      ⟨on1.keep ((Keep.refl [] w1).alloc _) (by simp) (by simp), ⟨.slice none 0 0, Blk.new w1 _ _, ⟨by simp, .inl ⟨rfl, rfl⟩⟩⟩, List.Pairwise.nil, List.Perm.refl _, y1.1, y1.2⟩
    have HST := Lib.hid hst
    have B1 := Lib.hid (b1.alloc z1 (.cells #[.int .i64 room, .int .i64 age, .slice none 0 0] 41))
    clear b1 on1 hst
    go_wp2
    go_loopw [10] (fun i wr => ∃ (k : Nat) (ts L : List En), k ≤ n ∧ k ≤ 60 ∧ i = .int .i64 k ∧ Both wr (w.heap.size + 1) w.heap.size w1.heap.size room age ts L ∧ Below w.heap.size w wr) (fun i _ => 60 - (intOf i).toNat)
    case atStart => exact ⟨0, [], [], Nat.zero_le _, Nat.zero_le _, rfl, HST.out, B1.out⟩
    case round =>
      obtain ⟨k, ts, L, hk, hk60, rfl, hst, hbel⟩ := hrel
      have hbz := hbel.size
      by_cases hlt : k < n ∧ k < 60
      · obtain ⟨hlt, hlt60⟩ := hlt
        have hlt' : (k : Int) < (n : Int) := by omega
        have hlt60' : (k : Int) < 60 := by omega
        obtain ⟨bb, off, x, rfl, hbb, hx, hcc⟩ := (hr.below hbel).chunk cellsOp 5 (by omega) (fun _ => rfl) hlt
        obtain ⟨d0, d1, d2, d3, d4⟩ := op_cells (o := off + k * 5) hcc
        have hxo := hop x (List.mem_of_getElem? hx)
        have HBEL := Lib.hid hbel
        have HST2 := Lib.hid hst
        clear hcc hbel hx hst
        go_wp2_with fail
        refine (step_ _ _ _ _ _ _ _ _ HST2.out x hxo).mono ?_
        rintro e w2 ⟨rfl, ts', L', hst2, q4⟩
        have hb2 := Lib.hid (HBEL.out.trans (q4 w.heap.size (by omega) (Nat.le_refl _)))
        have S2 := Lib.hid hst2
        clear d0 d1 d2 d3 d4 q4 hst2
        go_wp2
        exact ⟨⟨k + 1, ts', L', by omega, by omega, by go_num, S2.out, hb2.out⟩, by simp [intOf]; omega⟩
      · have HB := Lib.hid hbel
        have HST2 := Lib.hid hst
        have hgr := hst.gr
        have hbr := hst.br
        have hsm := hst.small
        rcases (show (k < n ∧ k = 60) ∨ k = n by omega) with ⟨hkn, e⟩ | e
        all_goals subst e
        all_goals clear hlt hst hbel
        · have hlt' : ((60 : Nat) : Int) < (n : Int) := by omega
          have hlt'' : (60 : Int) < (n : Int) := by omega
          go_wp2_with fail
          refine (entriesO HST2.out.on).mono ?_
          rintro e w5 ⟨le, v5, hle, rfl, hown, b5⟩
          obtain rfl := entries_eq HST2.out.sorted HST2.out.perm hle
          have z5 := b5.size
          have S5 := HST2.out.keep0 (Keep.of_below b5 [])
          have HB5 := Lib.hid b5
          obtain ⟨A5, c5, rfl, rd5⟩ := own_form hown
          obtain ⟨vr, hblk, hrown⟩ := S5.ref
          obtain ⟨Ar, cr, rfl, rdr⟩ := own_form hrown
          have c2 : w5.cell? ⟨w1.heap.size, 2, none⟩ = some (.slice Ar le.length cr) := hblk.cell 2
          have hql := hblk.lt
          have hal := alike_ w5 A5 Ar c5 cr le rd5 rdr (by omega)
          clear hle hown b5 hblk hrown rd5 rdr S5
          go_wp2_with fail
          refine hal.mono ?_
          rintro e w6 ⟨rfl, n6, rfl⟩
          clear hal
          go_wp2_with fail
          refine (live_ _).mono ?_
          rintro e w7 ⟨rfl, b7⟩
          go_wp2
          go_ret
          exact ⟨rfl, (below_drewN (HB.out.trans (HB5.out.mono hbz)) n6).trans (b7.mono (by simp; omega))⟩
        · go_wp2_with fail
          refine (entriesO HST2.out.on).mono ?_
          rintro e w5 ⟨le, v5, hle, rfl, hown, b5⟩
          obtain rfl := entries_eq HST2.out.sorted HST2.out.perm hle
          have z5 := b5.size
          have S5 := HST2.out.keep0 (Keep.of_below b5 [])
          have HB5 := Lib.hid b5
          obtain ⟨A5, c5, rfl, rd5⟩ := own_form hown
          obtain ⟨vr, hblk, hrown⟩ := S5.ref
          obtain ⟨Ar, cr, rfl, rdr⟩ := own_form hrown
          have c2 : w5.cell? ⟨w1.heap.size, 2, none⟩ = some (.slice Ar le.length cr) := hblk.cell 2
          have hql := hblk.lt
          have hal := alike_ w5 A5 Ar c5 cr le rd5 rdr (by omega)
          clear hle hown b5 hblk hrown rd5 rdr S5
          go_wp2_with fail
          refine hal.mono ?_
          rintro e w6 ⟨rfl, n6, rfl⟩
          clear hal
          go_wp2_with fail
          refine (live_ _).mono ?_
          rintro e w7 ⟨rfl, b7⟩
          go_wp2
          go_ret
          exact ⟨rfl, (below_drewN (HB.out.trans (HB5.out.mono hbz)) n6).trans (b7.mono (by simp; omega))⟩
end Fdb
end Go.Proofs.Ytnnpmbjicpndeaa
