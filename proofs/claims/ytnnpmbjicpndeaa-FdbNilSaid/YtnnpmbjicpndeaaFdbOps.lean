/-
  fdb: the walks of within, ether.Many, old, Look, and of New.
-/
import Derived.Test.YtnnpmbjicpndeaaFdbMath
namespace Go.Proofs.Ytnnpmbjicpndeaa
set_option linter.unusedVariables false
set_option linter.unusedSimpArgs false
open Go.RowKit Go.Maps
namespace Fdb
open Mp FdbC
theorem within_ (n a b : Int) (w : World) : Calls Try.prog 18 #[.int .i64 n, .int .i64 a, .int .i64 b] w fun e w' => e = .returned (.bool (decide (a ≤ n ∧ n ≤ b))) ∧ w = w' := by
  by_cases h1 : a ≤ n
  · by_cases h2 : n ≤ b
    · go_enter Try.func18, Try.ntmps18
      go_wp2
      go_ret
      exact ⟨by simp [h1, h2], rfl⟩
    · go_enter Try.func18, Try.ntmps18
      go_wp2
      go_ret
      exact ⟨by simp [h1, h2], rfl⟩
  · go_enter Try.func18, Try.ntmps18
    go_wp2
    go_ret
    exact ⟨by simp; omega, rfl⟩
/-- is an address one of many stations? -/
def many (m : ByteArray) : Bool := if h : m.size = 6 then decide ((m[0]'(by omega)).toNat % 2 = 1) else false
theorem odd_bits : ∀ n : Fin 256, (bits BinOp.and IntKind.u8 ((n.val : Nat) : Int) 1 == 1) = decide (n.val % 2 = 1) := of_decide_eq_true (by kernel_rfl)
theorem odd_u8 (b : UInt8) : (bits BinOp.and IntKind.u8 (b.toNat : Int) 1 == 1) = decide (b.toNat % 2 = 1) := odd_bits ⟨b.toNat, b.toNat_lt⟩
theorem odd_mod (n : Nat) : ((n : Int) % 2 == 1) = decide (n % 2 = 1) := by
  rw [Bool.eq_iff_iff, beq_iff_eq, decide_eq_true_iff]
  omega
theorem many_ (m : ByteArray) (w : World) : Calls Try.prog 17 #[.string m] w fun e w' => e = .returned (.bool (many m)) ∧ w = w' := by
  by_cases h1 : m.size = 6
  · have h1' : (m.size : Int) = 6 := by omega
    go_enter Try.func17, Try.ntmps17
    go_wp2
    go_ret
    exact ⟨by rw [odd_u8]; simp [many, h1], rfl⟩
  · have h1' : ¬ (m.size : Int) = 6 := by omega
    go_enter Try.func17, Try.ntmps17
    go_wp2
    go_ret
    exact ⟨by simp [many, h1], rfl⟩
theorem rmany_ (m : ByteArray) (w : World) : Calls Try.prog 37 #[.string m] w fun e w' => e = .returned (.bool (many m)) ∧ w = w' := by
  by_cases h1 : m.size = 6
  · have h1' : (m.size : Int) = 6 := by omega
    go_enter Try.func37, Try.ntmps37
    go_wp2
    go_ret
    exact ⟨by rw [odd_mod]; simp [many, h1], rfl⟩
  · have h1' : ¬ (m.size : Int) = 6 := by omega
    go_enter Try.func37, Try.ntmps37
    go_wp2
    go_ret
    exact ⟨by simp [many, h1], rfl⟩
set_option maxRecDepth 20000 in
theorem old_ (w : World) (g : Nat) (room : Int) (age : Int) (m : Value) (hb : Blk w g 48 #[.int .i64 room, .int .i64 age, m]) (x : En) (now : Int) (hx : 0 ≤ x.2.2 ∧ x.2.2 ≤ 1099511627776) (ha : 0 ≤ age ∧ age ≤ 1000000) :
    Calls Try.prog 20 #[.pointer (some ⟨g, 0, none⟩), valE (er x), .int .i64 now] w fun e w' => e = .returned (.bool (decide (x.2.2 + age ≤ now))) ∧ Srt.Gr w w' := by
  have c1 : w.cell? ⟨g, 1, none⟩ = some (.int .i64 age) := hb.cell 1
  have hg := hb.lt
  have hw : IntKind.i64.wrap (x.2.2 + age) = x.2.2 + age := IntWalk.i64_in _ (by omega)
  obtain ⟨⟨⟨v, mc⟩, ok⟩, p, at_⟩ := x
  simp only [valE, er] at hw ⊢
  go_enter Try.func20, Try.ntmps20
  go_wp2
  go_quiet (fail)
  go_wp2
  go_ret
  exact ⟨rfl, ((Srt.Gr.refl w).alloc _).drewN _⟩
theorem Gr.keep {w w' : World} (h : Srt.Gr w w') : Keep [] w w' := Keep.of_below h.below []
theorem zeroE (w : World) : (zeroValue 54).run Try.prog w = .ok (E.val (k0, 0, 0)) w := by kernel_rfl
theorem look_find {ts : List En} {k : Key} {x : En} (h : ts.find? (keyIs E k) = some x) : Mp.look E (k0, 0, 0) ts k = x ∧ ts.any (keyIs E k) = true := by
  refine ⟨by unfold Mp.look; rw [h]; rfl, List.any_eq_true.2 ⟨x, List.mem_of_find?_eq_some h, List.find?_some (p := keyIs E k) h⟩⟩
theorem look_find_no {ts : List En} {k : Key} (h : ts.find? (keyIs E k) = none) : Mp.look E (k0, 0, 0) ts k = (k0, 0, 0) ∧ ts.any (keyIs E k) = false := by
  refine ⟨by unfold Mp.look; rw [h]; rfl, ?_⟩
  rw [List.any_eq_false]
  exact List.find?_eq_none.1 h
theorem look_bad (w : World) (v : Int) (m : ByteArray) (now : Int) (g : Nat) (hn : ¬ (0 ≤ now ∧ now ≤ 1099511627776)) :
    Calls Try.prog 11 #[.pointer (some ⟨g, 0, none⟩), .int .i64 v, .string m, .int .i64 now] w fun e w' => e = .returned (tell none) ∧ Keep [] w w' := by
  have hb : decide (0 ≤ now ∧ now ≤ 1099511627776) = false := decide_eq_false hn
  go_enter Try.func11, Try.ntmps11
  go_wp2_with (first
    | (go_at_call 18; refine (within_ _ _ _ _).mono ?_; rintro e w1 ⟨rfl, rfl⟩; rw [hb])
    | go_in)
  go_ret2
  exact ⟨rfl, Keep.refl _ _⟩
set_option maxHeartbeats 2000000 in
set_option maxRecDepth 20000 in
theorem look_ok (w : World) (g b : Nat) (room age : Int) (ts : List En) (h : At w g b room age ts) (hd : Apart E ts) (hg : ∀ x ∈ ts, 0 ≤ x.2.2 ∧ x.2.2 ≤ 1099511627776) (ha : 0 ≤ age ∧ age ≤ 1000000) (k : Key) (now : Int) (hn : 0 ≤ now ∧ now ≤ 1099511627776) :
    Calls Try.prog 11 #[.pointer (some ⟨g, 0, none⟩), .int .i64 k.1.1, .string k.1.2, .int .i64 now] w fun e w' => e = .returned (tell (found age ts k now)) ∧ Keep [] w w' := by
  have hb : decide (0 ≤ now ∧ now ≤ 1099511627776) = true := decide_eq_true hn
  have c2 : w.cell? ⟨g, 2, none⟩ = some (.map (some b)) := h.blk.cell 2
  have hgl := h.lt.1
  have hblk := h.blk
  have hm := h.map
  have hkey : Go.keyOf Try.prog 52 (.agg #[.int .i64 k.1.1, .string k.1.2]) = some (E.kl k) := keyOf k
  cases hf : ts.find? (keyIs E k) with
  | none =>
    obtain ⟨e1, e2⟩ := look_find_no hf
    have HF := Lib.hid (show found age ts k now = none by unfold found; rw [if_pos hn, hf]; rfl)
    go_enter Try.func11, Try.ntmps11
    go_wp2_with (first
      | (go_at_call 18; refine (within_ _ _ _ _).mono ?_; rintro e w1 ⟨rfl, rfl⟩; rw [hb])
      | (at_lookup; refine wpList_look_ok _ rfl _ _ _ rfl 52 54 law Try.underlying46 (zeroE _) sameE b ts rfl hm hd _ k rfl hkey ?_; rw [e1, e2]; simp only [E, valE, er, k0])
      | go_in)
    go_ret2
    rw [HF.out]
    exact ⟨rfl, (Keep.refl [] w).alloc _⟩
  | some x =>
    obtain ⟨e1, e2⟩ := look_find hf
    have hx := hg x (List.mem_of_find?_eq_some hf)
    have hold := fun W (hW : Blk W g 48 #[.int .i64 room, .int .i64 age, .map (some b)]) => old_ W g room age (.map (some b)) hW x now hx ha
    have HF := Lib.hid (show found age ts k now = if now < x.2.2 + age then some x.2.1 else none by unfold found; rw [if_pos hn, hf]; rfl)
    obtain ⟨⟨⟨v, mc⟩, ok⟩, p, at_⟩ := x
    simp only [valE, er] at hold
    by_cases hc : at_ + age ≤ now
    · have hdc : decide (at_ + age ≤ now) = true := decide_eq_true hc
      go_enter Try.func11, Try.ntmps11
      go_wp2_with (first
        | (go_at_call 18; refine (within_ _ _ _ _).mono ?_; rintro e w1 ⟨rfl, rfl⟩; rw [hb])
        | (at_lookup; refine wpList_look_ok _ rfl _ _ _ rfl 52 54 law Try.underlying46 (zeroE _) sameE b ts rfl hm hd _ k rfl hkey ?_; rw [e1, e2]; simp only [E, valE, er])
        | (go_at_call 20; refine (hold _ (hblk.alloc _)).mono ?_; rintro e w2 ⟨rfl, hg2⟩; rw [hdc])
        | go_in)
      go_ret2
      rw [HF.out, if_neg (by omega)]
      exact ⟨rfl, ((Keep.refl [] w).alloc _).trans (Gr.keep hg2)⟩
    · have hdc : decide (at_ + age ≤ now) = false := decide_eq_false hc
      go_enter Try.func11, Try.ntmps11
      go_wp2_with (first
        | (go_at_call 18; refine (within_ _ _ _ _).mono ?_; rintro e w1 ⟨rfl, rfl⟩; rw [hb])
        | (at_lookup; refine wpList_look_ok _ rfl _ _ _ rfl 52 54 law Try.underlying46 (zeroE _) sameE b ts rfl hm hd _ k rfl hkey ?_; rw [e1, e2]; simp only [E, valE, er])
        | (go_at_call 20; refine (hold _ (hblk.alloc _)).mono ?_; rintro e w2 ⟨rfl, hg2⟩; rw [hdc]; have d2 : w2.cell? ⟨w.heap.size, 2, none⟩ = some (.int .i64 p) := ((Blk.new w _ _).below hg2.below (by simp)).cell 2)
        | go_in)
      go_ret2
      rw [HF.out, if_pos (by omega)]
      exact ⟨rfl, ((Keep.refl [] w).alloc _).trans (Gr.keep hg2)⟩
theorem new_bad (w : World) (room age : Int) (hn : room < 1 ∨ 1024 < room ∨ age < 1 ∨ 1000000 < age) :
    Calls Try.prog 8 #[.int .i64 room, .int .i64 age] w fun e w' => e = .returned (.tuple #[.pointer none, .int .i64 1]) ∧ w = w' := by
  by_cases h1 : room < 1
  · go_enter Try.func8, Try.ntmps8
    go_wp2
    go_ret2
    exact ⟨rfl, rfl⟩
  · by_cases h2 : 1024 < room
    · go_enter Try.func8, Try.ntmps8
      go_wp2
      go_ret2
      exact ⟨rfl, rfl⟩
    · by_cases h3 : age < 1
      · go_enter Try.func8, Try.ntmps8
        go_wp2
        go_ret2
        exact ⟨rfl, rfl⟩
      · have h4 : 1000000 < age := by omega
        go_enter Try.func8, Try.ntmps8
        go_wp2
        go_ret2
        exact ⟨rfl, rfl⟩
theorem new_ok (w : World) (room age : Int) (h1 : ¬ room < 1) (h2 : ¬ 1024 < room) (h3 : ¬ age < 1) (h4 : ¬ 1000000 < age) :
    Calls Try.prog 8 #[.int .i64 room, .int .i64 age] w fun e w' => e = .returned (.tuple #[.pointer (some ⟨w.heap.size + 1, 0, none⟩), .int .i64 0]) ∧ At w' (w.heap.size + 1) w.heap.size room age [] ∧ Below w.heap.size w w' := by
  have hrm := run_makeMap (P := Try.prog) 46 w
  go_enter Try.func8, Try.ntmps8
  go_wp2
  go_ret2
  refine ⟨rfl, ⟨?_, ?_, by omega⟩, by repeat (first | exact Below.refl _ _ | apply Below.drew | (refine Below.alloc ?_ (by simp <;> omega) _) | (refine Below.setCell ?_ (by simp <;> omega) _))⟩
  · have := Blk.new (w.alloc (.map #[] 0)) 48 #[.int .i64 room, .int .i64 age, .map (some w.heap.size)]
    simpa using this
  · exact (Has.made w _ _ E).alloc _
end Fdb
end Go.Proofs.Ytnnpmbjicpndeaa
