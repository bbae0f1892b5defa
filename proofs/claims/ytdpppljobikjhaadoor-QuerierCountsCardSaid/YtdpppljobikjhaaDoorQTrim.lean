/-
  The walk of strings.Trim by the byte 0: what is left is empty just if all bytes are 0.
-/
import Derived.Test.YtdpppljobikjhaaDoorQBase
import Derived.Deep.RegionHeld3
import Derived.Deep.QuietTactic
namespace Go.Proofs.YtdpppljobikjhaaDoor
set_option linter.unusedVariables false
set_option linter.unusedSimpArgs false
open Go.RowKit
namespace Q
def zeros (s : ByteArray) : Bool := s.data.toList.all (· == 0)
def Left (s : ByteArray) (w : World) (e : Ending) (w' : World) : Prop := ∃ t : ByteArray, e = .returned (.string t) ∧ t.data.toList.isEmpty = zeros s ∧ w = w'
def Right (s : ByteArray) (w : World) (e : Ending) (w' : World) : Prop := ∃ t : ByteArray, e = .returned (.string t) ∧ zeros t = zeros s ∧ t.size ≤ s.size ∧ w = w'
theorem list_of_pos (t : ByteArray) (h : 0 < t.size) : t.data.toList = t[0] :: t.data.toList.tail := by
  obtain ⟨⟨l⟩⟩ := t
  cases l with
  | nil => simp [ByteArray.size] at h
  | cons a l => rfl
theorem list_of_end (t : ByteArray) (h : 0 < t.size) : t.data.toList = t.data.toList.take (t.size - 1) ++ [t[t.size - 1]] := by
  obtain ⟨⟨l⟩⟩ := t
  have hl : 0 < l.length := h
  show l = l.take (l.length - 1) ++ [l[l.length - 1]]
  have e := List.take_succ_eq_append_getElem (l := l) (i := l.length - 1) (by omega)
  rw [← e, List.take_of_length_le (by omega)]
theorem extract_list (t : ByteArray) (i j : Nat) : (t.extract i j).data.toList = (t.data.toList.drop i).take (j - i) := by
  rw [ByteArray.data_extract, Array.toList_extract]
theorem zeros_empty (t : ByteArray) (h : ¬ 0 < t.size) : t.data.toList = [] := by
  have e : t.data.toList.length = t.size := rfl
  have : t.data.toList.length = 0 := by omega
  exact List.eq_nil_of_length_eq_zero this
theorem zeros_head (t : ByteArray) (h : 0 < t.size) (hc : t[0] = 0) : zeros (t.extract 1 t.size) = zeros t := by
  unfold zeros
  rw [extract_list, list_of_pos t h, hc]
  have e : t.data.toList.length = t.size := rfl
  have : (t.data.toList.tail).length = t.size - 1 := by rw [List.length_tail, e]
  simp [List.take_of_length_le (Nat.le_of_eq this)]
theorem zeros_not (t : ByteArray) (h : 0 < t.size) (hc : ¬ t[0] = 0) : zeros t = false := by
  unfold zeros
  rw [list_of_pos t h]
  simp [hc]
theorem zeros_last (t : ByteArray) (h : 0 < t.size) (hc : t[t.size - 1] = 0) : zeros (t.extract 0 (t.size - 1)) = zeros t := by
  unfold zeros
  rw [extract_list]
  conv => rhs; rw [list_of_end t h, hc]
  simp
theorem left_ (s : ByteArray) (w : World) : Calls Tryd.prog 33 #[.string s, .int .u8 0] w (Left s w) := by
  go_enter Tryd.func33, Tryd.ntmps33
  go_wp2
  go_loop [0] (fun v => ∃ t : ByteArray, v = .string t ∧ zeros t = zeros s ∧ t.size ≤ s.size) (fun v => match v with | .string t => t.size | _ => 0)
  case atStart => exact ⟨s, rfl, rfl, Nat.le_refl _⟩
  case round =>
    obtain ⟨t, rfl, hz, hsz⟩ := hrel
    have HZ := Lib.hid hz
    clear hz
    by_cases h0 : 0 < t.size
    · by_cases hc : t[0] = 0
      · go_wp2
        have e := zeros_head t h0 hc
        have e2 : (t.extract 1 t.size).size = t.size - 1 := by simp [ByteArray.size_extract]
        exact ⟨⟨_, rfl, e.trans HZ.out, by omega⟩, by show (t.extract 1 t.size).size < t.size; omega⟩
      · have hc' : ((t[0].toNat : Int) == 0) = false := by
          have : t[0].toNat ≠ 0 := fun h => hc (UInt8.toNat_inj.1 h)
          simp; exact this
        have HC := Lib.hid hc
        clear hc
        go_wp2
        go_ret
        refine ⟨t, rfl, ?_, rfl⟩
        rw [← HZ.out, zeros_not t h0 HC.out, list_of_pos t h0]; rfl
    · have h0' : ¬ (0 : Int) < (t.size : Int) := by omega
      go_wp2
      go_ret
      refine ⟨t, rfl, ?_, rfl⟩
      rw [← HZ.out, zeros, zeros_empty t h0]; rfl
theorem right_ (s : ByteArray) (w : World) (hs : s.size ≤ 9223372036854775807) : Calls Tryd.prog 34 #[.string s, .int .u8 0] w (Right s w) := by
  go_enter Tryd.func34, Tryd.ntmps34
  go_wp2
  go_loop [0] (fun v => ∃ t : ByteArray, v = .string t ∧ zeros t = zeros s ∧ t.size ≤ s.size) (fun v => match v with | .string t => t.size | _ => 0)
  case atStart => exact ⟨s, rfl, rfl, Nat.le_refl _⟩
  case round =>
    obtain ⟨t, rfl, hz, hsz⟩ := hrel
    have HZ := Lib.hid hz
    clear hz
    by_cases h0 : 0 < t.size
    · have hl : t.size - 1 < t.size := by omega
      by_cases hc : t[t.size - 1] = 0
      · have hc' : ((t[t.size - 1].toNat : Int) == 0) = true := by rw [hc]; rfl
        have HC := Lib.hid hc
        clear hc
        go_wp2
        have e := zeros_last t h0 HC.out
        have e2 : (t.extract 0 (t.size - 1)).size = t.size - 1 := by simp [ByteArray.size_extract]
        exact ⟨⟨_, rfl, e.trans HZ.out, by omega⟩, by show (t.extract 0 (t.size - 1)).size < t.size; omega⟩
      · have hc' : ((t[t.size - 1].toNat : Int) == 0) = false := by
          have : t[t.size - 1].toNat ≠ 0 := fun h => hc (UInt8.toNat_inj.1 h)
          simp; exact this
        clear hc
        go_wp2
        go_ret
        exact ⟨t, rfl, HZ.out, hsz, rfl⟩
    · have h0' : ¬ (0 : Int) < (t.size : Int) := by omega
      go_wp2
      go_ret
      exact ⟨t, rfl, HZ.out, hsz, rfl⟩
theorem ne_spell {s : ByteArray} (h : 0 < s.size) : ¬ s.toList = [] ∧ s.toList.isEmpty = false := by
  rw [ByteArray.toList_eq, list_of_pos s h]
  exact ⟨by simp, rfl⟩
set_option maxRecDepth 100000 in
theorem trim_ (s : ByteArray) (w : World) (hs : s.size ≤ 9223372036854775807) (h : 0 < s.size) : Calls Tryd.prog 22 #[.string s, .string ⟨#[0]⟩] w (Left s w.drew) := by
  obtain ⟨h1, h2⟩ := ne_spell h
  go_enter Tryd.func22, Tryd.ntmps22
  go_wp2_with fail
  go_region_held3 (fun _ => True) (trivial)
    (first
      | (go_at_call 34; refine (right_ s _ hs).mono ?_; rintro e w1 ⟨t, rfl, hz, hsz, rfl⟩)
      | (go_at_call 33; refine (left_ t _).mono ?_; rintro e w1 ⟨u, rfl, hu, rfl⟩))
  all_goals
    go_wp2
    go_ret
    exact ⟨u, rfl, hu.trans hz, rfl⟩
end Q
end Go.Proofs.YtdpppljobikjhaaDoor
