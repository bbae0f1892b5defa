/-
  The walk of FdbApart.
-/
import Derived.Test.YtnnpmbjicpndeaaFdbUpd
namespace Go.Proofs.Ytnnpmbjicpndeaa
set_option linter.unusedVariables false
set_option linter.unusedSimpArgs false
open Go.RowKit Go.Maps
namespace Fdb
open Mp FdbC
theorem found_no {age : Int} {ts : List En} {k : Key} (h : hasK ts k = false) (t : Int) : found age ts k t = none := by
  unfold found
  rw [find_none h]
  split <;> rfl
theorem Upd.not {room : Int} {ts ts' : List En} {k q : Key} {port now : Int} (h : Upd room ts q port now ts') (hk : hasK ts k = false) (hne : ¬ q = k) : hasK ts' k = false := by
  unfold hasK at *
  rw [List.any_eq_false] at *
  intro y hy
  rcases h.mem hy with rfl | hy
  · rw [keyIsE]; exact hne
  · exact hk y hy
theorem mac_ne {x k : ByteArray} (h : ¬ x = k) : (x.toList == k.toList) = false := by
  rw [beq_eq_false_iff_ne]
  exact fun e => h (toList_inj e)
set_option maxHeartbeats 8000000 in
set_option maxRecDepth 100000 in
theorem apart_law (A : Option Addr) (n c : Nat) (l : List OpF) (v : Int) (m : ByteArray) (w : World) (ok : okK (v, m)) (hr : Reads w w.heap.size 5 A n (l.flatMap cellsOp)) (hop : ∀ o ∈ l, OkOp o) :
    Calls Try.prog 4 #[.slice A n c, .int .i64 v, .string m] w fun e w' => e = .returned (.bool true) ∧ Below w.heap.size w w' := by
  go_enter Try.func4, Try.ntmps4
  go_wp2_with fail
  refine (newO w 200 1000 (by omega) (by omega) (by omega) (by omega)).mono ?_
  rintro e w1 ⟨rfl, on1, b1⟩
  have ON := Lib.hid on1
  have B1 := Lib.hid b1
  clear b1 on1
  go_wp2
  go_loopw [9] (fun i wr => ∃ (k : Nat) (ts : List En), k ≤ n ∧ k ≤ 60 ∧ i = .int .i64 k ∧ On wr (w.heap.size + 1) w.heap.size 200 1000 ts ∧ hasK ts ⟨(v, m), ok⟩ = false ∧ Below w.heap.size w wr) (fun i _ => 60 - (intOf i).toNat)
  case atStart => exact ⟨0, [], Nat.zero_le _, Nat.zero_le _, rfl, ON.out, rfl, B1.out⟩
  case round =>
    obtain ⟨k, ts, hk, hk60, rfl, hon, hno, hbel⟩ := hrel
    have hbz := hbel.size
    obtain ⟨y1, y2⟩ := hon.lt
    have HNO := Lib.hid hno
    clear hno
    by_cases hlt : k < n ∧ k < 60
    · obtain ⟨hlt, hlt60⟩ := hlt
      have hlt' : (k : Int) < (n : Int) := by omega
      have hlt60' : (k : Int) < 60 := by omega
      obtain ⟨bb, off, x, rfl, hbb, hx, hcc⟩ := (hr.below hbel).chunk cellsOp 5 (by omega) (fun _ => rfl) hlt
      obtain ⟨d0, d1, d2, d3, d4⟩ := op_cells (o := off + k * 5) hcc
      have hxo := hop x (List.mem_of_getElem? hx)
      have hzz : ∀ y ∈ [w.heap.size], w.heap.size ≤ y := by simp
      have HBEL := Lib.hid hbel
      have hob : OpB (wr.alloc (.cells #[.int .i64 x.kind, .int .i64 x.v, .string x.m, .int .i64 x.port, .int .i64 x.now] 30)) wr.heap.size x := Blk.new wr _ _
      have honW := hon.keep ((Keep.refl [] wr).alloc (.cells #[.int .i64 x.kind, .int .i64 x.v, .string x.m, .int .i64 x.port, .int .i64 x.now] 30)) (by simp) (by simp)
      have HBW := Lib.hid (hbel.alloc hbz (.cells #[.int .i64 x.kind, .int .i64 x.v, .string x.m, .int .i64 x.port, .int .i64 x.now] 30))
      obtain ⟨o1, o2, o3, o4⟩ := hob.cells
      have ol := hob.lt
      have HOB := Lib.hid hob
      have HON := Lib.hid honW
      clear hcc hbel hx hon hob honW
      by_cases hsame : (⟨(x.v, x.m), hxo.key⟩ : Key) = ⟨(v, m), ok⟩
      · have e1 : x.v = v := congrArg (fun q : Key => q.1.1) hsame
        have e2 : x.m = m := congrArg (fun q : Key => q.1.2) hsame
        clear hsame
        subst e1; subst e2
        go_wp2
        exact ⟨⟨k + 1, ts, by omega, by omega, by go_num, HON.out, HNO.out, HBW.out⟩, by simp [intOf]; omega⟩
      · have HSAME := Lib.hid hsame
        clear hsame
        by_cases e1 : x.v = v
        · have e2 : ¬ x.m = m := fun e2 => HSAME.out (Subtype.ext (Prod.ext e1 e2))
          have e3 := mac_ne e2
          have E2 := Lib.hid e2
          have hvv : (x.v == v) = true := by rw [e1]; exact beq_self_eq_true v
          have E1 := Lib.hid e1
          clear e2 e1
          go_wp2_with fail
          generalize wr.alloc (.cells #[.int .i64 x.kind, .int .i64 x.v, .string x.m, .int .i64 x.port, .int .i64 x.now] 30) = wo at *
          have zo := HBW.out.size
          refine (lookO HON.out ⟨(v, m), ok⟩ 5).mono ?_
          rintro e w2 ⟨rfl, k2⟩
          rw [found_no HNO.out]
          simp only [tell]
          have BEL2 := Lib.hid (HBW.out.trans (k2.below zo (by simp)))
          have z2 := BEL2.out.size
          have hob2 := Lib.hid (HOB.out.keep k2 (by simp))
          obtain ⟨p1, p2, p3, p4⟩ := hob2.out.cells
          have ON2 := Lib.hid (HON.out.keep k2 (by simp) (by simp))
          clear d0 d1 d2 d3 d4 o1 o2 o3 o4 k2
          go_wp2_with fail
          refine (learnU ON2.out ⟨(x.v, x.m), hxo.key⟩ x.port 5).mono ?_
          rintro e w3 ⟨hit, rfl, k3, ts', hu, on3⟩
          have HN3 := hu.not HNO.out HSAME.out
          have BEL3 := Lib.hid (BEL2.out.trans (k3.below z2 hzz))
          have z3 := BEL3.out.size
          clear p1 p2 p3 p4 k3 hu
          go_wp2_with fail
          refine (lookO on3 ⟨(v, m), ok⟩ 5).mono ?_
          rintro e w4 ⟨rfl, k4⟩
          rw [found_no HN3]
          simp only [tell]
          have BEL4 := Lib.hid (BEL3.out.trans (k4.below z3 (by simp)))
          have ON4 := Lib.hid (on3.keep k4 (by simp) (by simp))
          clear on3 k4
          go_wp2
          exact ⟨⟨k + 1, ts', by omega, by omega, by go_num, ON4.out, HN3, BEL4.out⟩, by simp [intOf]; omega⟩
        · go_wp2_with fail
          generalize wr.alloc (.cells #[.int .i64 x.kind, .int .i64 x.v, .string x.m, .int .i64 x.port, .int .i64 x.now] 30) = wo at *
          have zo := HBW.out.size
          refine (lookO HON.out ⟨(v, m), ok⟩ 5).mono ?_
          rintro e w2 ⟨rfl, k2⟩
          rw [found_no HNO.out]
          simp only [tell]
          have BEL2 := Lib.hid (HBW.out.trans (k2.below zo (by simp)))
          have z2 := BEL2.out.size
          have hob2 := Lib.hid (HOB.out.keep k2 (by simp))
          obtain ⟨p1, p2, p3, p4⟩ := hob2.out.cells
          have ON2 := Lib.hid (HON.out.keep k2 (by simp) (by simp))
          clear d0 d1 d2 d3 d4 o1 o2 o3 o4 k2
          go_wp2_with fail
          refine (learnU ON2.out ⟨(x.v, x.m), hxo.key⟩ x.port 5).mono ?_
          rintro e w3 ⟨hit, rfl, k3, ts', hu, on3⟩
          have HN3 := hu.not HNO.out HSAME.out
          have BEL3 := Lib.hid (BEL2.out.trans (k3.below z2 hzz))
          have z3 := BEL3.out.size
          clear p1 p2 p3 p4 k3 hu
          go_wp2_with fail
          refine (lookO on3 ⟨(v, m), ok⟩ 5).mono ?_
          rintro e w4 ⟨rfl, k4⟩
          rw [found_no HN3]
          simp only [tell]
          have BEL4 := Lib.hid (BEL3.out.trans (k4.below z3 (by simp)))
          have ON4 := Lib.hid (on3.keep k4 (by simp) (by simp))
          clear on3 k4
          go_wp2
          exact ⟨⟨k + 1, ts', by omega, by omega, by go_num, ON4.out, HN3, BEL4.out⟩, by simp [intOf]; omega⟩
    · have HB := Lib.hid hbel
      clear hon hbel
      by_cases hkn : k < n
      · have e : k = 60 := by omega
        subst e
        have hlt' : ((60 : Nat) : Int) < (n : Int) := by omega
        have hlt'' : (60 : Int) < (n : Int) := by omega
        clear hlt
        go_wp2_with fail
        refine (live_ _).mono ?_
        rintro e w2 ⟨rfl, b2⟩
        go_wp2
        go_ret
        exact ⟨rfl, HB.out.trans (b2.mono hbz)⟩
      · have e : k = n := by omega
        subst e
        clear hlt
        go_wp2_with fail
        refine (live_ _).mono ?_
        rintro e w2 ⟨rfl, b2⟩
        go_wp2
        go_ret
        exact ⟨rfl, HB.out.trans (b2.mono hbz)⟩
end Fdb
end Go.Proofs.Ytnnpmbjicpndeaa
