/-
  The document's table: the walk of Expire.
-/
import Derived.Test.YtnnpmbjicpndeaaFdbRef3
namespace Go.Proofs.Ytnnpmbjicpndeaa
set_option linter.unusedVariables false
set_option linter.unusedSimpArgs false
open Go.RowKit Go.Maps
namespace FdbR
open Mp FdbC Fdb
set_option maxHeartbeats 4000000 in
set_option maxRecDepth 20000 in
theorem rexpire_ (w : World) (q : Nat) (room age : Int) (L : List En) (h : RAt w q room age L) (hn : L.length ≤ 5000) (hg : ∀ x ∈ L, 0 ≤ x.2.2 ∧ x.2.2 ≤ 1099511627776) (ha : 0 ≤ age ∧ age ≤ 1000000) (now : Int) :
    Calls Try.prog 25 #[.pointer (some ⟨q, 0, none⟩), .int .i64 now] w fun e w' => RGone w w' q room age L (old age now) e := by
  have HR := Lib.hid h
  have HG := Lib.hid hg
  have hq0 := h.lt
  obtain ⟨v, hblk, hown⟩ := h
  obtain ⟨A, c, rfl, _⟩ := own_form hown
  have c2 : w.cell? ⟨q, 2, none⟩ = some (.slice A L.length c) := hblk.cell 2
  clear hblk hown hg
  go_enter Try.func25, Try.ntmps25
  go_wp2
  go_loopw [5, 6] (fun f i wr => ∃ (j : Nat), j ≤ L.length ∧ i = .int .i64 ((j : Int) - 1) ∧ f = .int .i64 ((L.length : Int) - (part L (old age now) j).length) ∧ RAt wr q room age (part L (old age now) j) ∧ Keep [q] w wr) (fun _ i _ => (intOf i + 1).toNat)
  case atStart => exact ⟨L.length, Nat.le_refl _, by go_num, by rw [part_all, Int.sub_self], by rw [part_all]; exact HR.out, Keep.refl _ _⟩
  case round =>
    obtain ⟨j, hj, rfl, rfl, hat, hk⟩ := hrel
    have HK := Lib.hid hk
    clear hk c2
    cases j with
    | zero =>
      have HAT := Lib.hid hat
      clear hat
      go_wp2
      go_ret
      rw [part_zero] at HAT
      exact ⟨by rw [part_zero]; rfl, HK.out, HAT.out⟩
    | succ j =>
      obtain ⟨x, hx⟩ : ∃ x, L[j]? = some x := ⟨_, List.getElem?_eq_getElem (by omega)⟩
      have hpx := part_get (p := old age now) hx
      have hpl := part_le L (old age now) (j + 1)
      have hph := part_has (p := old age now) hj
      have hpl0 := part_le L (old age now) j
      have hxg := HG.out x (List.mem_of_getElem? hx)
      have hw : IntKind.i64.wrap (x.2.2 + age) = x.2.2 + age := IntWalk.i64_in _ (by omega)
      have HAT := Lib.hid hat
      obtain ⟨v, hblk, hown⟩ := hat
      obtain ⟨A', c', rfl, hrd⟩ := own_form hown
      have e2 : wr.cell? ⟨q, 2, none⟩ = some (.slice A' (part L (old age now) (j + 1)).length c') := hblk.cell 2
      have e1 : wr.cell? ⟨q, 1, none⟩ = some (.int .i64 age) := hblk.cell 1
      obtain ⟨bb, off, y, rfl, hbb, hy, hcc⟩ := hrd.chunk cE 4 (by omega) lenC (show j < (part L (old age now) (j + 1)).length by omega)
      cases hpx.symm.trans hy
      have d3 : wr.cell? ⟨bb, off + j * 4 + 3, none⟩ = some (.int .i64 x.2.2) := hcc 3 _ rfl
      have hwo := fun n => rwithout_ (wr.drewN n) q room age _ (HAT.out.drewN n) (by omega) j (by omega)
      have hlt' : (j : Int) < ((part L (old age now) (j + 1)).length : Int) := by omega
      have hcut := cut_len (L := part L (old age now) (j + 1)) (i := j) (by omega)
      clear hblk hown hrd hcc hy hpx
      by_cases ht : 0 ≤ now ∧ now ≤ 1099511627776
      · have htm := rtime_at (decide_eq_true ht) wr
        by_cases hp : x.2.2 + age ≤ now
        · have he := part_yes (p := old age now) hx (by unfold old aged; rw [decide_eq_true ht, decide_eq_true hp]; rfl)
          simp only [he] at hwo
          rw [he] at hcut
          clear ht he hx
          go_wp2
          go_quiet (exact htm _)
          go_wp2_with (first
            | (go_at_call 39; refine (hwo _).mono ?_; rintro e w2 ⟨rfl, hk2, hat2⟩)
            | go_in)
          exact ⟨⟨j, by omega, by go_num, by go_num, hat2, (HK.out.drewN _).trans hk2⟩, by simp [intOf] <;> omega⟩
        · have he := part_no (p := old age now) hx (by unfold old aged; rw [decide_eq_false hp, Bool.and_false])
          rw [he] at HAT
          have HE := Lib.hid he
          clear hwo ht he hx hcut
          go_wp2
          go_quiet (exact htm _)
          go_wp2
          exact ⟨⟨j, by omega, by go_num, by rw [HE.out], HAT.out.drewN _, HK.out.drewN _⟩, by simp [intOf] <;> omega⟩
      · have htm := rtime_at (decide_eq_false ht) wr
        have he := part_no (p := old age now) hx (by unfold old; rw [decide_eq_false ht, Bool.false_and])
        rw [he] at HAT
        have HE := Lib.hid he
        clear hwo ht he hx hcut
        go_wp2
        go_quiet (exact htm _)
        go_wp2
        exact ⟨⟨j, by omega, by go_num, by rw [HE.out], HAT.out.drewN _, HK.out.drewN _⟩, by simp [intOf] <;> omega⟩
end FdbR
end Go.Proofs.Ytnnpmbjicpndeaa
