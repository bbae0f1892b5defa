/-
  The walk of FdbFinds.
-/
import Derived.Test.YtnnpmbjicpndeaaFdbOpen
namespace Go.Proofs.Ytnnpmbjicpndeaa
set_option linter.unusedVariables false
set_option linter.unusedSimpArgs false
open Go.RowKit Go.Maps
namespace Fdb
open Mp FdbC
theorem tell_eq (o : Option Int) : tell o = .tuple #[.int .i64 (o.getD 0), .bool o.isSome] := by cases o <;> rfl
theorem Learnt.found {room : Int} {ts ts' : List En} {k : Key} {port now : Int} (hd : Apart E ts) (h : Learnt room ts (k, port, now) ts') (age t : Int) (h0 : 0 ≤ t) (h1 : t ≤ 1099511627776) :
    found age ts' k t = if t < now + age then some port else none := by
  have e := find_has (h.apart hd) h.has
  unfold Fdb.found
  rw [if_pos ⟨h0, h1⟩]
  simp only at e
  rw [e]
  rfl
theorem Learnt.old {room : Int} {ts ts' : List En} {k : Key} {port now : Int} (hd : Apart E ts) (h : Learnt room ts (k, port, now) ts') (age : Int) : Fdb.found age ts' k (now + age) = none := by
  have e := find_has (h.apart hd) h.has
  unfold Fdb.found
  split
  · simp only at e
    rw [e]
    simp
  · rfl
set_option maxHeartbeats 8000000 in
set_option maxRecDepth 100000 in
theorem finds_law (room age : Int) (A : Option Addr) (n c : Nat) (l : List OpF) (w : World) (hr : Reads w w.heap.size 5 A n (l.flatMap cellsOp)) (hop : ∀ o ∈ l, OkOp o) :
    Calls Try.prog 3 #[.int .i64 room, .int .i64 age, .slice A n c] w fun e w' => e = .returned (.bool true) ∧ Below w.heap.size w w' := by
  by_cases hbad : room < 1 ∨ 1024 < room ∨ age < 1 ∨ 1000000 < age
  · go_enter Try.func3, Try.ntmps3
    go_wp2_with fail
    refine (new_bad _ room age hbad).mono ?_
    rintro e w1 ⟨rfl, rfl⟩
    go_wp2_with fail
    refine (live_ _).mono ?_
    rintro e w2 ⟨rfl, b2⟩
    go_wp2
    go_ret
    exact ⟨rfl, b2⟩
  · have r0 : 1 ≤ room := by omega
    have r1 : room ≤ 1024 := by omega
    have a0 : 1 ≤ age := by omega
    have a1 : age ≤ 1000000 := by omega
    clear hbad
    go_enter Try.func3, Try.ntmps3
    go_wp2_with fail
    refine (newO w room age r0 r1 a0 a1).mono ?_
    rintro e w1 ⟨rfl, on1, b1⟩
    have ON := Lib.hid on1
    have B1 := Lib.hid b1
    clear b1 on1
    go_wp2
    go_loopw [9] (fun i wr => ∃ (k : Nat) (ts : List En), k ≤ n ∧ k ≤ 60 ∧ i = .int .i64 k ∧ On wr (w.heap.size + 1) w.heap.size room age ts ∧ Below w.heap.size w wr) (fun i _ => 60 - (intOf i).toNat)
    case atStart => exact ⟨0, [], Nat.zero_le _, Nat.zero_le _, rfl, ON.out, B1.out⟩
    case round =>
      obtain ⟨k, ts, hk, hk60, rfl, hon, hbel⟩ := hrel
      have hbz := hbel.size
      obtain ⟨y1, y2⟩ := hon.lt
      by_cases hlt : k < n ∧ k < 60
      · obtain ⟨hlt, hlt60⟩ := hlt
        have hlt' : (k : Int) < (n : Int) := by omega
        have hlt60' : (k : Int) < 60 := by omega
        obtain ⟨bb, off, x, rfl, hbb, hx, hcc⟩ := (hr.below hbel).chunk cellsOp 5 (by omega) (fun _ => rfl) hlt
        obtain ⟨d0, d1, d2, d3, d4⟩ := op_cells (o := off + k * 5) hcc
        have hxo := hop x (List.mem_of_getElem? hx)
        have hzz : ∀ y ∈ [w.heap.size], w.heap.size ≤ y := by simp
        have HBEL := Lib.hid hbel
        have hob : OpB (wr.alloc (.cells #[.int .i64 x.kind, .int .i64 x.v, .string x.m, .int .i64 x.port, .int .i64 x.now] 30)) wr.heap.size x := Blk.new wr _ _
        have honW := hon.keep ((Keep.refl [] wr).alloc (.cells #[.int .i64 x.kind, .int .i64 x.v, .string x.m, .int .i64 x.port, .int .i64 x.now] 30)) (by simp) (by simp)
        have HBW := Lib.hid (hbel.alloc hbz (.cells #[.int .i64 x.kind, .int .i64 x.v, .string x.m, .int .i64 x.port, .int .i64 x.now] 30))
        obtain ⟨o1, o2, o3, o4⟩ := hob.cells
        have ol := hob.lt
        have HOB := Lib.hid hob
        have HON := Lib.hid honW
        clear hcc hbel hx hon hob honW
        go_wp2_with fail
        generalize wr.alloc (.cells #[.int .i64 x.kind, .int .i64 x.v, .string x.m, .int .i64 x.port, .int .i64 x.now] 30) = wo at *
        have zo := HBW.out.size
        refine (learnO HON.out ⟨(x.v, x.m), hxo.key⟩ x.port x.now).mono ?_
        rintro e w2 ⟨hit, rfl, hl⟩
        obtain ⟨rfl, _, rfl⟩ | ⟨rfl, hgood, _, k2, ts', hl, on2⟩ := hl
        · clear d0 d1 d2 d3 d4 o1 o2 o3 o4
          go_wp2
          exact ⟨⟨k + 1, ts, by omega, by omega, by go_num, HON.out, HBW.out⟩, by simp [intOf]; omega⟩
        · have hg : Good x.v x.m x.port x.now := hgood
          obtain ⟨_, _, _, t0, t1⟩ := hg
          have hls := hl.len HON.out.apart HON.out.len
          have L1 := Lib.hid (hl.found HON.out.apart age x.now t0 t1)
          have L2 := Lib.hid (fun h => hl.found HON.out.apart age (x.now + age - 1) (by omega) h)
          have L3 := Lib.hid (hl.old HON.out.apart age)
          have BEL2 := Lib.hid (HBW.out.trans (k2.below zo hzz))
          have z2 := BEL2.out.size
          have hob2 := Lib.hid (HOB.out.keep k2 (by simp; omega))
          obtain ⟨p1, p2, p3, p4⟩ := hob2.out.cells
          have ON2 := Lib.hid on2
          clear d0 d1 d2 d3 d4 o1 o2 o3 o4 k2 hl on2 hgood
          go_wp2_with fail
          refine (lookO ON2.out ⟨(x.v, x.m), hxo.key⟩ x.now).mono ?_
          rintro e w3 ⟨rfl, k3⟩
          rw [L1.out, if_pos (by omega)]
          have BEL3 := Lib.hid (BEL2.out.trans (k3.below z2 (by simp)))
          have z3 := BEL3.out.size
          have hob3 := Lib.hid (hob2.out.keep k3 (by simp))
          obtain ⟨q1, q2, q3, q4⟩ := hob3.out.cells
          have ON3 := Lib.hid (ON2.out.keep k3 (by simp) (by simp))
          have hw1 : IntKind.i64.wrap (x.now + age) = x.now + age := IntWalk.i64_in _ (by omega)
          have hw2 : IntKind.i64.wrap (x.now + age - 1) = x.now + age - 1 := IntWalk.i64_in _ (by omega)
          clear p1 p2 p3 p4 k3
          simp only [tell]
          go_wp2_with fail
          refine (lookO ON3.out ⟨(x.v, x.m), hxo.key⟩ (x.now + age - 1)).mono ?_
          rintro e w4 ⟨rfl, k4⟩
          have BEL4 := Lib.hid (BEL3.out.trans (k4.below z3 (by simp)))
          have z4 := BEL4.out.size
          have hob4 := Lib.hid (hob3.out.keep k4 (by simp))
          obtain ⟨p1, p2, p3, p4⟩ := hob4.out.cells
          have ON4 := Lib.hid (ON3.out.keep k4 (by simp) (by simp))
          clear q1 q2 q3 q4 k4
          rw [tell_eq]
          generalize hf : found age ts' ⟨(x.v, x.m), hxo.key⟩ (x.now + age - 1) = f at *
          have HF := Lib.hid hf
          clear hf
          go_wp2_with fail
          refine (lookO ON4.out ⟨(x.v, x.m), hxo.key⟩ (x.now + age)).mono ?_
          rintro e w5 ⟨rfl, k5⟩
          rw [L3.out]
          simp only [tell]
          have BEL5 := Lib.hid (BEL4.out.trans (k5.below z4 (by simp)))
          have z5 := BEL5.out.size
          have hob5 := Lib.hid (hob4.out.keep k5 (by simp))
          have ON5 := Lib.hid (ON4.out.keep k5 (by simp) (by simp))
          clear p1 p2 p3 p4 k5
          go_wp2_with fail
          refine (entriesO ON5.out).mono ?_
          rintro e w6 ⟨le, v6, hle, rfl, hown, b6⟩
          have hll : le.length = ts'.length := hle.1.length_eq
          obtain ⟨A6, c6, rfl, _⟩ := own_form hown
          rw [hll]
          have BEL6 := Lib.hid (BEL5.out.trans (b6.mono z5))
          have z6 := BEL6.out.size
          have hob6 := Lib.hid (hob5.out.keep (Keep.of_below b6 []) (by simp))
          obtain ⟨p1, p2, p3, p4⟩ := hob6.out.cells
          have ON6 := Lib.hid (ON5.out.below b6)
          obtain ⟨s1, s2, s3⟩ := hls
          clear hown hle hll b6 hw2
          by_cases hc : x.now + age < 1099511627776
          · have hf2 : f = some x.port := by rw [L2.out (by omega), if_pos (by omega)]
            subst hf2
            go_wp2
            exact ⟨⟨k + 1, ts', by omega, by omega, by go_num, ON6.out, BEL6.out⟩, by simp [intOf]; omega⟩
          · go_wp2
            exact ⟨⟨k + 1, ts', by omega, by omega, by go_num, ON6.out, BEL6.out⟩, by simp [intOf]; omega⟩
      · have HB := Lib.hid hbel
        clear hon hbel
        by_cases hkn : k < n
        · have e : k = 60 := by omega
          subst e
          have hlt' : ((60 : Nat) : Int) < (n : Int) := by omega
          have hlt'' : (60 : Int) < (n : Int) := by omega
          clear hlt
          go_wp2_with fail
          refine (live_ _).mono ?_
          rintro e w2 ⟨rfl, b2⟩
          go_wp2
          go_ret
          exact ⟨rfl, HB.out.trans (b2.mono hbz)⟩
        · have e : k = n := by omega
          subst e
          clear hlt
          go_wp2_with fail
          refine (live_ _).mono ?_
          rintro e w2 ⟨rfl, b2⟩
          go_wp2
          go_ret
          exact ⟨rfl, HB.out.trans (b2.mono hbz)⟩
end Fdb
end Go.Proofs.Ytnnpmbjicpndeaa
