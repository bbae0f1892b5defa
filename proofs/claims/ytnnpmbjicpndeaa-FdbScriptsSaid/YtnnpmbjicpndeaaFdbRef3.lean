/-
  The document's table: the walks of Expire and Flush.
-/
import Derived.Test.YtnnpmbjicpndeaaFdbRef2
import Derived.Test.YtnnpmbjicpndeaaFdbLive
namespace Go.Proofs.Ytnnpmbjicpndeaa
set_option linter.unusedVariables false
set_option linter.unusedSimpArgs false
open Go.RowKit Go.Maps
namespace FdbR
open Mp FdbC Fdb
/-- a list whose part from j on has been gone through -/
def part (L : List En) (p : En → Bool) (j : Nat) : List En := L.take j ++ gone (L.drop j) p
theorem part_all (L : List En) (p : En → Bool) : part L p L.length = L := by simp [part, gone]
theorem part_zero (L : List En) (p : En → Bool) : part L p 0 = gone L p := by simp [part]
theorem part_get {L : List En} {p : En → Bool} {j : Nat} {x : En} (h : L[j]? = some x) : (part L p (j + 1))[j]? = some x := by
  have hj := (List.getElem?_eq_some_iff.1 h).1
  unfold part
  rw [List.getElem?_append_left (by rw [List.length_take]; omega), List.getElem?_take_of_lt (by omega), h]
theorem drop_at {L : List En} {j : Nat} {x : En} (h : L[j]? = some x) : L.drop j = x :: L.drop (j + 1) := by
  obtain ⟨hj, e⟩ := List.getElem?_eq_some_iff.1 h
  rw [← e]
  exact List.drop_eq_getElem_cons hj
theorem part_no {L : List En} {p : En → Bool} {j : Nat} {x : En} (h : L[j]? = some x) (hp : p x = false) : part L p (j + 1) = part L p j := by
  unfold part gone
  rw [drop_at h, List.take_add_one, h, List.filter_cons, hp]
  simp
theorem part_yes {L : List En} {p : En → Bool} {j : Nat} {x : En} (h : L[j]? = some x) (hp : p x = true) : cut (part L p (j + 1)) j = part L p j := by
  obtain ⟨hj, _⟩ := List.getElem?_eq_some_iff.1 h
  have hl : (L.take j).length = j := by rw [List.length_take]; omega
  have e1 : part L p (j + 1) = L.take j ++ x :: gone (L.drop (j + 1)) p := by
    unfold part
    rw [List.take_add_one, h]
    simp
  have e2 : part L p j = L.take j ++ gone (L.drop (j + 1)) p := by
    unfold part gone
    rw [drop_at h, List.filter_cons, hp]
    rfl
  rw [e1, e2]
  unfold cut
  congr 1
  · rw [List.take_append_of_le_length (by omega), List.take_of_length_le (by omega)]
  · rw [List.drop_append, List.drop_of_length_le (by omega), hl]
    simp
theorem part_le (L : List En) (p : En → Bool) (j : Nat) : (part L p j).length ≤ L.length := by
  unfold part gone
  have h1 := List.length_filter_le (fun x => !p x) (L.drop j)
  rw [List.length_append, List.length_take]
  rw [List.length_drop] at h1
  omega
theorem part_has {L : List En} {p : En → Bool} {j : Nat} (h : j ≤ L.length) : j ≤ (part L p j).length := by
  unfold part
  rw [List.length_append, List.length_take]
  omega
def RGone (w w' : World) (q : Nat) (room age : Int) (L : List En) (p : En → Bool) (e : Ending) : Prop := e = .returned (.int .i64 ((L.length : Int) - (gone L p).length)) ∧ Keep [q] w w' ∧ RAt w' q room age (gone L p)
set_option maxHeartbeats 4000000 in
set_option maxRecDepth 20000 in
theorem rflush_ (w : World) (q : Nat) (room age : Int) (L : List En) (h : RAt w q room age L) (hn : L.length ≤ 5000) (port : Int) :
    Calls Try.prog 26 #[.pointer (some ⟨q, 0, none⟩), .int .i64 port] w fun e w' => RGone w w' q room age L (onPort port) e := by
  have HR := Lib.hid h
  have hq0 := h.lt
  obtain ⟨v, hblk, hown⟩ := h
  obtain ⟨A, c, rfl, _⟩ := own_form hown
  have c2 : w.cell? ⟨q, 2, none⟩ = some (.slice A L.length c) := hblk.cell 2
  clear hblk hown
  go_enter Try.func26, Try.ntmps26
  go_wp2
  go_loopw [5, 6] (fun f i wr => ∃ (j : Nat), j ≤ L.length ∧ i = .int .i64 ((j : Int) - 1) ∧ f = .int .i64 ((L.length : Int) - (part L (onPort port) j).length) ∧ RAt wr q room age (part L (onPort port) j) ∧ Keep [q] w wr) (fun _ i _ => (intOf i + 1).toNat)
  case atStart => exact ⟨L.length, Nat.le_refl _, by go_num, by rw [part_all, Int.sub_self], by rw [part_all]; exact HR.out, Keep.refl _ _⟩
  case round =>
    obtain ⟨j, hj, rfl, rfl, hat, hk⟩ := hrel
    have HK := Lib.hid hk
    clear hk c2
    cases j with
    | zero =>
      have HAT := Lib.hid hat
      clear hat
      go_wp2
      go_ret
      rw [part_zero] at HAT
      exact ⟨by rw [part_zero]; rfl, HK.out, HAT.out⟩
    | succ j =>
      obtain ⟨x, hx⟩ : ∃ x, L[j]? = some x := ⟨_, List.getElem?_eq_getElem (by omega)⟩
      have hpx := part_get (p := onPort port) hx
      have hpl := part_le L (onPort port) (j + 1)
      have hph := part_has (p := onPort port) hj
      have hpl0 := part_le L (onPort port) j
      have HAT := Lib.hid hat
      obtain ⟨v, hblk, hown⟩ := hat
      obtain ⟨A', c', rfl, hrd⟩ := own_form hown
      have e2 : wr.cell? ⟨q, 2, none⟩ = some (.slice A' (part L (onPort port) (j + 1)).length c') := hblk.cell 2
      obtain ⟨bb, off, y, rfl, hbb, hy, hcc⟩ := hrd.chunk cE 4 (by omega) lenC (show j < (part L (onPort port) (j + 1)).length by omega)
      cases hpx.symm.trans hy
      have d2 : wr.cell? ⟨bb, off + j * 4 + 2, none⟩ = some (.int .i64 x.2.1) := hcc 2 _ rfl
      have hwo := rwithout_ wr q room age _ HAT.out (by omega) j (by omega)
      have hlt' : (j : Int) < ((part L (onPort port) (j + 1)).length : Int) := by omega
      have hcut := cut_len (L := part L (onPort port) (j + 1)) (i := j) (by omega)
      clear hblk hown hrd hcc hy hpx
      by_cases hp : x.2.1 = port
      · have he := part_yes (p := onPort port) hx (by unfold onPort; rw [decide_eq_true hp])
        rw [he] at hwo hcut
        clear he hx
        go_wp2_with (first
          | (go_at_call 39; refine hwo.mono ?_; rintro e w2 ⟨rfl, hk2, hat2⟩)
          | go_in)
        exact ⟨⟨j, by omega, by go_num, by go_num, hat2, HK.out.trans hk2⟩, by simp [intOf] <;> omega⟩
      · have he := part_no (p := onPort port) hx (by unfold onPort; rw [decide_eq_false hp])
        rw [he] at HAT
        have HE := Lib.hid he
        clear hwo he hx hcut
        go_wp2
        exact ⟨⟨j, by omega, by go_num, by rw [HE.out], HAT.out, HK.out⟩, by simp [intOf] <;> omega⟩
end FdbR
end Go.Proofs.Ytnnpmbjicpndeaa
