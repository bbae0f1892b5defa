/-
  The walk of FdbFlushes.
-/
import Derived.Test.YtnnpmbjicpndeaaFdbUpd
namespace Go.Proofs.Ytnnpmbjicpndeaa
set_option linter.unusedVariables false
set_option linter.unusedSimpArgs false
open Go.RowKit Go.Maps
namespace Fdb
open Mp FdbC
/-- what is left once the ports below p are flushed -/
def left (ts : List En) (p : Nat) : List En := ts.filter fun x => decide ((p : Int) ≤ x.2.1)
theorem left_zero {ts : List En} (h : ∀ x ∈ ts, GoodE x) : left ts 0 = ts := List.filter_eq_self.2 fun x hx => by
  have := (h x hx).2.2.1.1
  simp; omega
theorem left_gone (ts : List En) (p : Nat) : gone (left ts p) (onPort (p : Int)) = left ts (p + 1) := by
  unfold gone left
  rw [List.filter_filter]
  congr 1
  funext x
  unfold onPort
  rw [Bool.eq_iff_iff]
  simp
  omega
theorem left_none {ts : List En} (h : ∀ x ∈ ts, GoodE x) : left ts 16 = [] := List.filter_eq_nil_iff.2 fun x hx => by
  have := (h x hx).2.2.1.2
  simp; omega
theorem left_le (ts : List En) (p : Nat) : (left ts p).length ≤ ts.length := List.length_filter_le _ _
theorem gone_all {age last : Int} {ts : List En} (h : ∀ x ∈ ts, x.2.2 ≤ last) (h0 : 0 ≤ last + age) (h1 : last + age ≤ 1099511627776) : gone ts (old age (last + age)) = [] := List.filter_eq_nil_iff.2 fun x hx => by
  have := h x hx
  simp [old, aged]
  omega
theorem Upd.times {room : Int} {ts ts' : List En} {k : Key} {port now last : Int} (h : Upd room ts k port now ts') (hl : ∀ x ∈ ts, x.2.2 ≤ last) : ∀ x ∈ ts', x.2.2 ≤ max last now := fun y hy => by
  rcases h.mem hy with rfl | hy
  · simp only; omega
  · have := hl y hy; omega
theorem perm_nil {l : List En} (h : EntriesIs [] l) : l = [] := h.1.eq_nil
set_option maxHeartbeats 8000000 in
set_option maxRecDepth 100000 in
theorem flushes_law (room age : Int) (A : Option Addr) (n c : Nat) (l : List OpF) (w : World) (hr : Reads w w.heap.size 5 A n (l.flatMap cellsOp)) (hop : ∀ o ∈ l, OkOp o) :
    Calls Try.prog 7 #[.int .i64 room, .int .i64 age, .slice A n c] w fun e w' => e = .returned (.bool true) ∧ Below w.heap.size w w' := by
  by_cases hbad : room < 1 ∨ 1024 < room ∨ age < 1 ∨ 1000000 < age
  · go_enter Try.func7, Try.ntmps7
    go_wp2_with fail
    refine (new_bad _ room age hbad).mono ?_
    rintro e w1 ⟨rfl, rfl⟩
    go_wp2_with fail
    refine (new_bad _ room age hbad).mono ?_
    rintro e w1 ⟨rfl, rfl⟩
    go_wp2_with fail
    refine (live_ _).mono ?_
    rintro e w2 ⟨rfl, b2⟩
    go_wp2
    go_ret
    exact ⟨rfl, b2⟩
  · have r0 : 1 ≤ room := by omega
    have r1 : room ≤ 1024 := by omega
    have a0 : 1 ≤ age := by omega
    have a1 : age ≤ 1000000 := by omega
    clear hbad
    go_enter Try.func7, Try.ntmps7
    go_wp2_with fail
    refine (newO w room age r0 r1 a0 a1).mono ?_
    rintro e w1 ⟨rfl, on1, b1⟩
    have z1 := b1.size
    have y1 := on1.lt
    go_wp2_with fail
    refine (newO w1 room age r0 r1 a0 a1).mono ?_
    rintro e w2 ⟨rfl, on2, b2⟩
    have ON1 := Lib.hid (on1.below b2)
    have ON2 := Lib.hid on2
    have B2 := Lib.hid (b1.trans (b2.mono z1))
    have H1 : w.heap.size + 1 ∉ [w1.heap.size] ∧ w.heap.size ∉ [w1.heap.size] := ⟨by simp; omega, by simp; omega⟩
    have H2 : w1.heap.size + 1 ∉ [w.heap.size] ∧ w1.heap.size ∉ [w.heap.size] := ⟨by simp; omega, by simp; omega⟩
    have HH1 := Lib.hid H1
    have HH2 := Lib.hid H2
    have Z1 := Lib.hid z1
    clear b1 b2 on1 on2 H1 H2
    go_wp2
    go_loopw [11, 12] (fun s i wr => ∃ (k : Nat) (ts : List En) (last : Int), k ≤ n ∧ k ≤ 60 ∧ i = .int .i64 k ∧ s = .int .i64 last ∧ 0 ≤ last ∧ last ≤ 1000000000 ∧ (∀ x ∈ ts, x.2.2 ≤ last) ∧ On wr (w.heap.size + 1) w.heap.size room age ts ∧ On wr (w1.heap.size + 1) w1.heap.size room age ts ∧ Below w.heap.size w wr) (fun _ i _ => 60 - (intOf i).toNat)
    case atStart => exact ⟨0, [], 0, Nat.zero_le _, Nat.zero_le _, rfl, rfl, by omega, by omega, by simp, ON1.out, ON2.out, B2.out⟩
    case round =>
      obtain ⟨k, ts, last, hk, hk60, rfl, rfl, l0, l1, hlast, hon, hon2, hbel⟩ := hrel
      have hbz := hbel.size
      obtain ⟨x1, x2⟩ := hon.lt
      obtain ⟨x3, x4⟩ := hon2.lt
      have HLAST := Lib.hid hlast
      clear hlast
      by_cases hlt : k < n ∧ k < 60
      · obtain ⟨hlt, hlt60⟩ := hlt
        have hlt' : (k : Int) < (n : Int) := by omega
        have hlt60' : (k : Int) < 60 := by omega
        obtain ⟨bb, off, x, rfl, hbb, hx, hcc⟩ := (hr.below hbel).chunk cellsOp 5 (by omega) (fun _ => rfl) hlt
        obtain ⟨d0, d1, d2, d3, d4⟩ := op_cells (o := off + k * 5) hcc
        have hxo := hop x (List.mem_of_getElem? hx)
        have hzz : ∀ y ∈ [w.heap.size], w.heap.size ≤ y := by simp
        have hzz1 : ∀ y ∈ [w1.heap.size], w.heap.size ≤ y := by simpa using Z1.out
        have hob : OpB (wr.alloc (.cells #[.int .i64 x.kind, .int .i64 x.v, .string x.m, .int .i64 x.port, .int .i64 x.now] 30)) wr.heap.size x := Blk.new wr _ _
        have hkk := ((Keep.refl [] wr).alloc (.cells #[.int .i64 x.kind, .int .i64 x.v, .string x.m, .int .i64 x.port, .int .i64 x.now] 30))
        have HON := Lib.hid (hon.keep hkk (by simp) (by simp))
        have HON2 := Lib.hid (hon2.keep hkk (by simp) (by simp))
        have HBW := Lib.hid (hbel.alloc hbz (.cells #[.int .i64 x.kind, .int .i64 x.v, .string x.m, .int .i64 x.port, .int .i64 x.now] 30))
        obtain ⟨o1, o2, o3, o4⟩ := hob.cells
        have ol := hob.lt
        have HOB := Lib.hid hob
        clear hcc hbel hx hon hon2 hob hkk
        go_wp2_with fail
        generalize wr.alloc (.cells #[.int .i64 x.kind, .int .i64 x.v, .string x.m, .int .i64 x.port, .int .i64 x.now] 30) = wo at *
        have zo := HBW.out.size
        refine (learnU HON.out ⟨(x.v, x.m), hxo.key⟩ x.port x.now).mono ?_
        rintro e w3 ⟨hit, rfl, k3, ts', hu, on3⟩
        have BEL3 := Lib.hid (HBW.out.trans (k3.below zo hzz))
        have z3 := BEL3.out.size
        have hob3 := Lib.hid (HOB.out.keep k3 (by simp; omega))
        obtain ⟨p1, p2, p3, p4⟩ := hob3.out.cells
        have ON3 := Lib.hid on3
        have ON32 := Lib.hid (HON2.out.keep k3 HH2.out.1 HH2.out.2)
        have HU := Lib.hid hu
        clear d0 d1 d2 d3 d4 o1 o2 o3 o4 k3 hu on3
        go_wp2_with fail
        refine (learnU ON32.out ⟨(x.v, x.m), hxo.key⟩ x.port x.now).mono ?_
        rintro e w4 ⟨hit2, rfl, k4, ts'', hu2, on4⟩
        cases HU.out.one HON.out.apart hu2
        have BEL4 := Lib.hid (BEL3.out.trans (k4.below z3 hzz1))
        have z4 := BEL4.out.size
        have hob4 := Lib.hid (hob3.out.keep k4 (by simp; omega))
        obtain ⟨q1, q2, q3, q4⟩ := hob4.out.cells
        have ON4 := Lib.hid (ON3.out.keep k4 HH1.out.1 HH1.out.2)
        have ON42 := Lib.hid on4
        clear p1 p2 p3 p4 k4 hu2 on4
        by_cases hnow : x.now ≤ 1000000000
        · have HT := Lib.hid (HU.out.times HLAST.out)
          go_wp2
          exact ⟨⟨k + 1, ts', max last x.now, by omega, by omega, by go_num, rfl, by omega, by omega, HT.out, ON4.out, ON42.out, BEL4.out⟩, by simp [intOf]; omega⟩
        · go_wp2_with fail
          refine (live_ _).mono ?_
          rintro e w5 ⟨rfl, b5⟩
          go_wp2
          go_ret
          exact ⟨rfl, BEL4.out.trans (b5.mono z4)⟩
      · have HEND := Lib.hid (show k = 60 ∨ k = n by omega)
        have hbk : (decide ((k : Int) < (n : Int)) && decide ((k : Int) < 60)) = false := by simp; omega
        have HB := Lib.hid hbel
        have hgood := Lib.hid hon.good
        have hsm := hon.small
        have HON := Lib.hid hon
        have HON2 := Lib.hid hon2
        have hzz : ∀ y ∈ [w.heap.size], w.heap.size ≤ y := by simp
        have hzz1 : ∀ y ∈ [w1.heap.size], w.heap.size ≤ y := by simpa using Z1.out
        clear hon hon2 hbel hbk
        rcases (show (k < n ∧ k = 60) ∨ k = n by omega) with ⟨hkn, e⟩ | e
        all_goals subst e
        all_goals clear hlt
        · have hlt' : ((60 : Nat) : Int) < (n : Int) := by omega
          have hlt'' : (60 : Int) < (n : Int) := by omega
          go_wp2_with fail
          refine (entriesO HON.out).mono ?_
          rintro e w3 ⟨le, v3, hle, rfl, hown, b3⟩
          have hll : le.length = ts.length := hle.1.length_eq
          obtain ⟨A3, c3, rfl, _⟩ := own_form hown
          rw [hll]
          have BEL3 := Lib.hid (HB.out.trans (b3.mono hbz))
          have ON3 := Lib.hid (HON.out.below b3)
          have ON32 := Lib.hid (HON2.out.below b3)
          clear hown hle hll b3
          go_wp2
          go_loopw [15, 16] (fun s i wr => ∃ (p : Nat), p ≤ 16 ∧ i = .int .i64 p ∧ s = .int .i64 ((ts.length : Int) - (left ts p).length) ∧ On wr (w.heap.size + 1) w.heap.size room age (left ts p) ∧ On wr (w1.heap.size + 1) w1.heap.size room age ts ∧ Below w.heap.size w wr) (fun _ i _ => 16 - (intOf i).toNat)
          case atStart => exact ⟨0, Nat.zero_le _, rfl, by rw [left_zero hgood.out, Int.sub_self], by rw [left_zero hgood.out]; exact ON3.out, ON32.out, BEL3.out⟩
          case round =>
            obtain ⟨p, hp, rfl, rfl, hon, hon2, hbel⟩ := hrel
            have hbz5 := hbel.size
            have hle0 := left_le ts p
            have hle1 := left_le ts (p + 1)
            have hgl := left_gone ts p
            have HBL := Lib.hid hbel
            have HON5 := Lib.hid hon
            have HON6 := Lib.hid hon2
            clear hbel hon hon2
            by_cases hp16 : p < 16
            · have hp16' : (p : Int) < 16 := by omega
              have hw : IntKind.i64.wrap ((ts.length : Int) - (left ts p).length + ((left ts p).length - (left ts (p + 1)).length)) = (ts.length : Int) - (left ts (p + 1)).length := by
                rw [IntWalk.i64_in _ (by omega)]; omega
              go_wp2_with fail
              refine (flushO HON5.out (p : Int)).mono ?_
              rw [hgl]
              rintro e w6 ⟨rfl, k6, on6⟩
              have BEL6 := Lib.hid (HBL.out.trans (k6.below hbz5 hzz))
              have ON6 := Lib.hid on6
              have ON62 := Lib.hid (HON6.out.keep k6 HH2.out.1 HH2.out.2)
              clear k6 on6
              go_wp2
              exact ⟨⟨p + 1, by omega, by go_num, rfl, ON6.out, ON62.out, BEL6.out⟩, by simp [intOf]; omega⟩
            · have e : p = 16 := by omega
              subst e
              have hl16 := left_none hgood.out
              rw [hl16] at HON5 ⊢
              simp only [List.length_nil, Int.sub_zero, Int.ofNat_zero]
              go_wp2_with fail
              refine (entriesO HON5.out).mono ?_
              rintro e w6 ⟨le, v6, hle, rfl, hown, b6⟩
              cases perm_nil hle
              obtain ⟨A6, c6, rfl, _⟩ := own_form hown
              have BEL6 := Lib.hid (HBL.out.trans (b6.mono hbz5))
              have z6 := BEL6.out.size
              have ON62 := Lib.hid (HON6.out.below b6)
              have hw : IntKind.i64.wrap (last + age) = last + age := IntWalk.i64_in _ (by omega)
              clear hown hle b6
              go_wp2_with fail
              refine (expireO ON62.out (last + age)).mono ?_
              rw [gone_all HLAST.out (by omega) (by omega)]
              rintro e w7 ⟨rfl, k7, on7⟩
              have BEL7 := Lib.hid (BEL6.out.trans (k7.below z6 hzz1))
              have z7 := BEL7.out.size
              have ON7 := Lib.hid on7
              clear k7 on7
              go_wp2_with fail
              refine (entriesO ON7.out).mono ?_
              rintro e w8 ⟨le, v8, hle, rfl, hown, b8⟩
              cases perm_nil hle
              obtain ⟨A8, c8, rfl, _⟩ := own_form hown
              have BEL8 := Lib.hid (BEL7.out.trans (b8.mono z7))
              have z8 := BEL8.out.size
              clear hown hle b8
              go_wp2_with fail
              refine (live_ _).mono ?_
              rintro e w9 ⟨rfl, b9⟩
              go_wp2
              go_ret
              exact ⟨rfl, BEL8.out.trans (b9.mono z8)⟩
        · go_wp2_with fail
          refine (entriesO HON.out).mono ?_
          rintro e w3 ⟨le, v3, hle, rfl, hown, b3⟩
          have hll : le.length = ts.length := hle.1.length_eq
          obtain ⟨A3, c3, rfl, _⟩ := own_form hown
          rw [hll]
          have BEL3 := Lib.hid (HB.out.trans (b3.mono hbz))
          have ON3 := Lib.hid (HON.out.below b3)
          have ON32 := Lib.hid (HON2.out.below b3)
          clear hown hle hll b3
          go_wp2
          go_loopw [15, 16] (fun s i wr => ∃ (p : Nat), p ≤ 16 ∧ i = .int .i64 p ∧ s = .int .i64 ((ts.length : Int) - (left ts p).length) ∧ On wr (w.heap.size + 1) w.heap.size room age (left ts p) ∧ On wr (w1.heap.size + 1) w1.heap.size room age ts ∧ Below w.heap.size w wr) (fun _ i _ => 16 - (intOf i).toNat)
          case atStart => exact ⟨0, Nat.zero_le _, rfl, by rw [left_zero hgood.out, Int.sub_self], by rw [left_zero hgood.out]; exact ON3.out, ON32.out, BEL3.out⟩
          case round =>
            obtain ⟨p, hp, rfl, rfl, hon, hon2, hbel⟩ := hrel
            have hbz5 := hbel.size
            have hle0 := left_le ts p
            have hle1 := left_le ts (p + 1)
            have hgl := left_gone ts p
            have HBL := Lib.hid hbel
            have HON5 := Lib.hid hon
            have HON6 := Lib.hid hon2
            clear hbel hon hon2
            by_cases hp16 : p < 16
            · have hp16' : (p : Int) < 16 := by omega
              have hw : IntKind.i64.wrap ((ts.length : Int) - (left ts p).length + ((left ts p).length - (left ts (p + 1)).length)) = (ts.length : Int) - (left ts (p + 1)).length := by
                rw [IntWalk.i64_in _ (by omega)]; omega
              go_wp2_with fail
              refine (flushO HON5.out (p : Int)).mono ?_
              rw [hgl]
              rintro e w6 ⟨rfl, k6, on6⟩
              have BEL6 := Lib.hid (HBL.out.trans (k6.below hbz5 hzz))
              have ON6 := Lib.hid on6
              have ON62 := Lib.hid (HON6.out.keep k6 HH2.out.1 HH2.out.2)
              clear k6 on6
              go_wp2
              exact ⟨⟨p + 1, by omega, by go_num, rfl, ON6.out, ON62.out, BEL6.out⟩, by simp [intOf]; omega⟩
            · have e : p = 16 := by omega
              subst e
              have hl16 := left_none hgood.out
              rw [hl16] at HON5 ⊢
              simp only [List.length_nil, Int.sub_zero, Int.ofNat_zero]
              go_wp2_with fail
              refine (entriesO HON5.out).mono ?_
              rintro e w6 ⟨le, v6, hle, rfl, hown, b6⟩
              cases perm_nil hle
              obtain ⟨A6, c6, rfl, _⟩ := own_form hown
              have BEL6 := Lib.hid (HBL.out.trans (b6.mono hbz5))
              have z6 := BEL6.out.size
              have ON62 := Lib.hid (HON6.out.below b6)
              have hw : IntKind.i64.wrap (last + age) = last + age := IntWalk.i64_in _ (by omega)
              clear hown hle b6
              go_wp2_with fail
              refine (expireO ON62.out (last + age)).mono ?_
              rw [gone_all HLAST.out (by omega) (by omega)]
              rintro e w7 ⟨rfl, k7, on7⟩
              have BEL7 := Lib.hid (BEL6.out.trans (k7.below z6 hzz1))
              have z7 := BEL7.out.size
              have ON7 := Lib.hid on7
              clear k7 on7
              go_wp2_with fail
              refine (entriesO ON7.out).mono ?_
              rintro e w8 ⟨le, v8, hle, rfl, hown, b8⟩
              cases perm_nil hle
              obtain ⟨A8, c8, rfl, _⟩ := own_form hown
              have BEL8 := Lib.hid (BEL7.out.trans (b8.mono z7))
              have z8 := BEL8.out.size
              clear hown hle b8
              go_wp2_with fail
              refine (live_ _).mono ?_
              rintro e w9 ⟨rfl, b9⟩
              go_wp2
              go_ret
              exact ⟨rfl, BEL8.out.trans (b9.mono z8)⟩
end Fdb
end Go.Proofs.Ytnnpmbjicpndeaa
