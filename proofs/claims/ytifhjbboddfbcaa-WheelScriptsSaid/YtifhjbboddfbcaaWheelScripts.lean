/-
  The walk of WheelScripts.
-/
import Derived.Test.YtifhjbboddfbcaaWheelStep
namespace Go.Proofs.Ytifhjbboddfbcaa
set_option linter.unusedVariables false
set_option linter.unusedSimpArgs false
open Go.RowKit Go.Maps
namespace WhlL
open Whl WhlC WhlS WhlR
theorem op_cells {w : World} {bb o : Nat} {x : OpW} (h : ∀ j u, (cellsOp x)[j]? = some u → w.cell? ⟨bb, o + j, none⟩ = some u) :
    w.cell? ⟨bb, o, none⟩ = some (.int .i64 x.kind) ∧ w.cell? ⟨bb, o + 1, none⟩ = some (.string x.key) ∧ w.cell? ⟨bb, o + 2, none⟩ = some (.int .i64 x.at_) :=
  ⟨h 0 _ rfl, h 1 _ rfl, h 2 _ rfl⟩
set_option maxHeartbeats 8000000 in
set_option maxRecDepth 100000 in
theorem scripts_law (room : Int) (A : Option Addr) (n c : Nat) (l : List OpW) (w : World) (hr : Reads w w.heap.size 3 A n (l.flatMap cellsOp)) (hop : ∀ o ∈ l, OkOp o) :
    Calls Try.prog 7 #[.int .i64 room, .slice A n c] w fun e w' => e = .returned (.bool true) ∧ Below w.heap.size w w' := by
  by_cases hroom : room < 1 ∨ (¬ room < 1 ∧ 4096 < room)
  · rcases hroom with h | ⟨h, h'⟩
    all_goals
      go_enter Try.func7, Try.ntmps7
      go_wp2_with fail
      refine (new_bad _ room (by omega)).mono ?_
      rintro e w1 ⟨rfl, m1, rfl⟩
      go_wp2_with fail
      refine (live_ _).mono ?_
      rintro e w2 ⟨rfl, b2⟩
      go_wp2
      go_ret
      exact ⟨rfl, (below_drewN (Below.refl _ w) m1).trans b2⟩
  · have h1 : ¬ room < 1 := by omega
    have h2 : ¬ 4096 < room := by omega
    go_enter Try.func7, Try.ntmps7
    go_wp2_with fail
    refine (newO w room (by omega) (by omega)).mono ?_
    rintro e w1 ⟨rfl, b1, on1⟩
    have z1 := b1.size
    have y1 := on1.lt
    have hst : St (w1.alloc (.cells #[.int .i64 room, .slice none 0 0] 45)) (w.heap.size + 1) w.heap.size w1.heap.size room 0 [] :=
      ⟨on1.keep ((Keep.refl [] w1).alloc _) (by simp) (by simp), ⟨.slice none 0 0, Blk.new w1 _ _, ⟨by simp, .inl ⟨rfl, rfl⟩⟩⟩, y1.1, y1.2⟩
    have HST := Lib.hid hst
    have B1 := Lib.hid (b1.alloc z1 (.cells #[.int .i64 room, .slice none 0 0] 45))
    clear b1 on1 hst
    go_wp2
    go_loopw [8] (fun i wr => ∃ (k : Nat) (tu : Int) (ts : List Tm), k ≤ n ∧ k ≤ 80 ∧ i = .int .i64 k ∧ St wr (w.heap.size + 1) w.heap.size w1.heap.size room tu ts ∧ ts.length ≤ k ∧ 0 ≤ tu ∧ tu ≤ k ∧ Below w.heap.size w wr) (fun i _ => 80 - (intOf i).toNat)
    case atStart => exact ⟨0, 0, [], Nat.zero_le _, Nat.zero_le _, rfl, HST.out, Nat.le_refl _, Int.le_refl _, Int.le_refl _, B1.out⟩
    case round =>
      obtain ⟨k, tu, ts, hk, hk80, rfl, hst, htl, ht0, htk, hbel⟩ := hrel
      have hbz := hbel.size
      by_cases hlt : k < n ∧ k < 80
      · obtain ⟨hlt, hlt80⟩ := hlt
        have hlt' : (k : Int) < (n : Int) := by omega
        have hlt80' : (k : Int) < 80 := by omega
        obtain ⟨bb, off, x, rfl, hbb, hx, hcc⟩ := (hr.below hbel).chunk cellsOp 3 (by omega) (fun _ => rfl) hlt
        obtain ⟨d0, d1, d2⟩ := op_cells (o := off + k * 3) hcc
        have hxo := hop x (List.mem_of_getElem? hx)
        have HBEL := Lib.hid hbel
        clear hcc hbel hx
        go_wp2_with fail
        refine (step_ _ _ _ _ _ _ _ hst (by omega) ht0 (by omega) x hxo).mono ?_
        rintro e w2 ⟨rfl, tu', ts', hst2, q1, q2, q3, q4⟩
        have hb2 := Lib.hid (HBEL.out.trans (q4 w.heap.size (by omega) (Nat.le_refl _)))
        have S2 := Lib.hid hst2
        clear d0 d1 d2 q4 hst
        obtain ⟨vr, hblk, hown⟩ := hst2.ref
        obtain ⟨Ar, cr, rfl, _⟩ := own_form hown
        have c1 : w2.cell? ⟨w1.heap.size, 1, none⟩ = some (.slice Ar ts'.length cr) := hblk.cell 1
        have hlen : ∀ n : Nat, Calls Try.prog 19 #[.pointer (some ⟨w.heap.size + 1, 0, none⟩)] (w2.drewN n) fun e w'' => e = .returned (.int .i64 ts'.length) ∧ ∃ m, w'' = w2.drewN m :=
          fun n => (len_ _ _ _ _ _ _ ((S2.out.keep0 ((Keep.refl [] _).drewN n)).on.at_)).mono fun _ _ q => ⟨q.1, n, q.2.symm⟩
        clear hblk hown hst2
        go_wp2
        go_quiet (exact hlen _)
        go_wp2
        exact ⟨⟨k + 1, tu', ts', by omega, by omega, by go_num, S2.out.keep0 ((Keep.refl [] _).drewN _), by omega, by omega, by omega, below_drewN hb2.out _⟩, by simp [intOf]; omega⟩
      · have HB := Lib.hid hbel
        have HH := Lib.hid hlt
        clear hst hbel
        by_cases hkn : k < n
        · have e : k = 80 := by omega
          subst e
          have hlt' : ((80 : Nat) : Int) < (n : Int) := by omega
          have hlt'' : (80 : Int) < (n : Int) := by omega
          clear hlt
          go_wp2_with fail
          refine (live_ _).mono ?_
          rintro e w2 ⟨rfl, b2⟩
          go_wp2
          go_ret
          exact ⟨rfl, HB.out.trans (b2.mono hbz)⟩
        · have e : k = n := by omega
          subst e
          clear hlt
          go_wp2_with fail
          refine (live_ _).mono ?_
          rintro e w2 ⟨rfl, b2⟩
          go_wp2
          go_ret
          exact ⟨rfl, HB.out.trans (b2.mono hbz)⟩
end WhlL
end Go.Proofs.Ytifhjbboddfbcaa
