/-
  The walk of RstpSafe.
-/
import Derived.Test.YtlfoaefilonidaaRstpAny
import Derived.Test.YtlfoaefilonidaaRstpOpen
import Derived.Deep.OwnRows
import Derived.Deep.CutBlock
namespace Go.Proofs.Ytlfoaefilonidaa
set_option linter.unusedVariables false
set_option linter.unusedSimpArgs false
open Go.RowKit
namespace Rstp
open Go.Proofs.Ytlfoaefilonidaa.Prio
theorem infoB : (Try.prog.info? 4).map (fun i => (i.zero, i.size, i.bytes)) = some (some (.bool false), 1, 1) := by kernel_rfl
theorem made_row (w : World) (n : Nat) (t : TypeId) : Row (w.alloc (.cells (madeCells #[.bool false] n) t)) w.heap.size t ((List.replicate n false).map Value.bool) := by
  refine ⟨_, Blk.new w t _, ?_⟩
  have e : (madeCells #[Value.bool false] n).toList = List.replicate n (Value.bool false) := by
    apply List.ext_getElem?
    intro i
    by_cases h : i < n
    · simp [madeCells, h, Nat.mod_one]
    · simp [madeCells, h]
  rw [e]
  simp
theorem ups_new (b : Int) (cs : List Int) : ups (newT b cs) = List.replicate cs.length false := by
  apply List.ext_getElem?
  intro i
  simp only [ups, newT, List.map_map, List.getElem?_map]
  by_cases h : i < cs.length
  · simp [h, newP]
  · simp [h]
theorem op_cells {w : World} {bb o : Nat} {x : OpR} (h : ∀ j u, (cellsOp x)[j]? = some u → w.cell? ⟨bb, o + j, none⟩ = some u) :
    w.cell? ⟨bb, o, none⟩ = some (.int .i64 x.kind) ∧ w.cell? ⟨bb, o + 1, none⟩ = some (.int .i64 x.port) ∧ w.cell? ⟨bb, o + 2, none⟩ = some (.bool x.up) ∧
    w.cell? ⟨bb, o + 3, none⟩ = some (.int .u64 x.b.v.root) ∧ w.cell? ⟨bb, o + 4, none⟩ = some (.int .i64 x.b.v.cost) ∧ w.cell? ⟨bb, o + 5, none⟩ = some (.int .u64 x.b.v.bridge) ∧ w.cell? ⟨bb, o + 6, none⟩ = some (.int .i64 x.b.v.port) ∧
    w.cell? ⟨bb, o + 7, none⟩ = some (.int .i64 x.b.age) ∧ w.cell? ⟨bb, o + 8, none⟩ = some (.bool x.b.chg) ∧ w.cell? ⟨bb, o + 9, none⟩ = some (.bool x.b.lrn) ∧ w.cell? ⟨bb, o + 10, none⟩ = some (.bool x.b.kf) ∧
    w.cell? ⟨bb, o + 11, none⟩ = some (.int .i64 x.now) :=
  ⟨h 0 _ rfl, h 1 _ rfl, h 2 _ rfl, h 3 _ rfl, h 4 _ rfl, h 5 _ rfl, h 6 _ rfl, h 7 _ rfl, h 8 _ rfl, h 9 _ rfl, h 10 _ rfl, h 11 _ rfl⟩
set_option maxRecDepth 100000 in
set_option maxHeartbeats 4000000 in
theorem safe_ (b : Int) (A1 : Option Addr) (n1 c1 : Nat) (cs : List Int) (A2 : Option Addr) (n2 c2 : Nat) (os : List OpR) (w : World)
    (hr1 : Reads w w.heap.size 1 A1 n1 (cs.map (Value.int .i64))) (hr2 : Reads w w.heap.size 12 A2 n2 (os.flatMap cellsOp)) (hop : ∀ o ∈ os, OkOp o) :
    Calls Try.prog 4 #[.int .u64 b, .slice A1 n1 c1, .slice A2 n2 c2] w fun e w' => e = .returned (.bool true) ∧ Below w.heap.size w w' := by
  obtain ⟨i0, hi, hz0, hz1, hz2⟩ := info_parts infoB
  have hlen : cs.length = n1 := by have := hr1.1; simpa using this
  cases hm : mayT cs
  · go_enter Try.func4, Try.ntmps4
    go_wp2_with fail
    refine (new_no b A1 n1 c1 cs _ hr1 hm).mono ?_
    rintro e w1 ⟨rfl, hb1⟩
    go_wp2_with fail
    refine (live_ _).mono ?_
    rintro e w2 ⟨rfl, hb2⟩
    go_wp2_with fail
    go_ret
    exact ⟨rfl, hb1.trans (hb2.mono hb1.size)⟩
  · obtain ⟨hl1, hl2, _⟩ := mayT_iff.1 hm
    go_enter Try.func4, Try.ntmps4
    go_wp2_with fail
    refine (new_yes b A1 n1 c1 cs _ hr1 hm).mono ?_
    rintro e w1 ⟨g, gp, cap, rfl, hat1, hg, hgp, hb1⟩
    have hsz1 := hb1.size
    have hlt1 := hat1.lt
    have hbytes : i0.bytes * n1 ≤ 281474976710656 := by rw [hz2]; omega
    have hn1 : n1 ≤ 9223372036854775807 := by omega
    have HB1 := Lib.hid hb1
    have HAT1 := Lib.hid hat1
    have HL := Lib.hid hlen
    have HM := Lib.hid hm
    clear hb1 hat1 hlen hm
    go_wp2_with (at_make; refine wpList_make_row _ rfl (.tmp 31) (.tmp 31) 44 rfl 4 i0 (.bool false) Try.underlying44 hi hz0 hz1 rfl .i64 .i64 n1 rfl rfl hbytes hn1 ?_)
    go_loopw [10] (fun i wr => ∃ (k : Nat) (t : Tr), k ≤ n2 ∧ k ≤ 60 ∧ i = .int .i64 k ∧ At wr g gp cap t ∧ Wf t ∧ Safe t ∧ t.ps.length = n1 ∧ Row wr w1.heap.size 4 ((ups t).map Value.bool) ∧ Below w.heap.size w wr) (fun i _ => 60 - (intOf i).toNat)
    case atStart =>
      refine ⟨0, newT b cs, Nat.zero_le _, Nat.zero_le _, rfl, HAT1.out.alloc _, Wf.new b HM.out, Safe.new b cs, ?_, ?_, HB1.out.alloc hsz1 _⟩
      · rw [← HL.out]; simp [newT]
      · rw [ups_new, HL.out]
        exact made_row w1 n1 _
    case round =>
      obtain ⟨k, t, hk, hk60, rfl, hat, hwf, hsf, htl, hrow, hbel⟩ := hrel
      have hlr := hrow.lt
      by_cases hlt : k < n2 ∧ k < 60
      · obtain ⟨hlt, hlt60⟩ := hlt
        have hlt' : (k : Int) < (n2 : Int) := by omega
        have hlt60' : (k : Int) < 60 := by omega
        obtain ⟨bb, off, x, rfl, hbb, hx, hcc⟩ := (hr2.below hbel).chunk cellsOp 12 (by omega) (fun _ => rfl) hlt
        obtain ⟨d0, d1, d2, d3, d4, d5, d6, d7, d8, d9, d10, d11⟩ := op_cells (o := off + k * 12) hcc
        have hxo := hop x (List.mem_of_getElem? hx)
        have HAT := Lib.hid hat
        have HROW := Lib.hid hrow
        have HBEL := Lib.hid hbel
        have HTL := Lib.hid htl
        have hszb := hbel.size
        have hglt := hat.lt
        clear hcc hat hrow hbel htl hx
        by_cases hnow : x.now < 0 ∨ (¬ x.now < 0 ∧ 1099511627776 < x.now)
        · rcases hnow with h1 | ⟨h1, h2⟩
          all_goals
            go_wp2
            go_roundw
            case rel => exact ⟨k + 1, t, by omega, by omega, by go_num, HAT.out.alloc _, hwf, hsf, HTL.out, HROW.out.alloc _, HBEL.out.alloc hszb _⟩
            case measure => simp [intOf]; omega
        · have h1 : ¬ x.now < 0 := by omega
          have h2 : ¬ 1099511627776 < x.now := by omega
          clear hnow
          go_upto_block 2 with fail
          obtain ⟨kd, prt, up, bp, nw⟩ := x
          simp only at h1 h2 d0 d1 d2 d3 d4 d5 d6 d7 d8 d9 d10 d11
          have hn1' : ¬ nw < 0 := h1
          have hgn : w1.heap.size ∉ [g, gp] := by simp; omega
          have hxn : wr.heap.size ∉ [g, gp] := by simp; omega
          have HGN := Lib.hid hgn
          have HXN := Lib.hid hxn
          clear hgn hxn d0 d1 d2 d3 d4 d5 d6 d7 d8 d9 d10 d11
          have hok : ∀ i : Int, okT t i nw = true ↔ 0 ≤ i ∧ i < n1 := fun i => by rw [okT_iff, HTL.out]; omega
          have HOK := Lib.hid hok
          clear hok
          go_cut [] (fun wx => ∃ t', At wx g gp cap t' ∧ Wf t' ∧ Safe t' ∧ t'.ps.length = n1 ∧ Row wx w1.heap.size 4 ((ups t').map Value.bool) ∧ Below w.heap.size w wx)
          case first =>
            by_cases hk0 : kd = 0
            · subst hk0
              go_wp2_with fail
              refine (link_any _ g gp cap t prt up nw (HAT.out.alloc _) hwf).mono ?_
              rintro e w3 ⟨rfl, hat3, hk3⟩
              have hb3 := hk3.blk (Blk.new wr 46 (cellsOp ⟨0, prt, up, bp, nw⟩).toArray) HXN.out
              have hrow3 := (HROW.out.alloc (.cells (cellsOp ⟨0, prt, up, bp, nw⟩).toArray 46)).keep hk3 HGN.out
              have e1 : w3.cell? ⟨wr.heap.size, 1, none⟩ = some (.int .i64 prt) := hb3.cell 1
              have e2 : w3.cell? ⟨wr.heap.size, 2, none⟩ = some (.bool up) := hb3.cell 2
              have hb := keep2_below (HBEL.out.alloc hszb _) hk3 hg hgp
              have hlo := len_opLink t prt up nw
              have hwl := hwf.opLink prt up nw
              have hsl := hsf.opLink hwf prt up nw
              have H3 := Lib.hid (And.intro hat3 (And.intro hwl (And.intro hsl (And.intro (hlo.trans HTL.out) hb))))
              have HROW3 := Lib.hid hrow3
              clear hat3 hk3 hb3 hb hlo hwl hsl
              by_cases hp0 : prt < 0
              · have E := Lib.hid (opLink_no (t := t) (up := up) (i := prt) (now := nw) (by
                  cases h : okT t prt nw
                  · rfl
                  · have := (HOK.out prt).1 h; omega))
                clear hrow3
                go_wp2_with fail
                go_meet
                exact ⟨_, H3.out.1, H3.out.2.1, H3.out.2.2.1, H3.out.2.2.2.1, by rw [E.out]; exact HROW3.out, H3.out.2.2.2.2⟩
              · by_cases hp1 : (n1 : Int) ≤ prt
                · have E := Lib.hid (opLink_no (t := t) (up := up) (i := prt) (now := nw) (by
                    cases h : okT t prt nw
                    · rfl
                    · have := (HOK.out prt).1 h; omega))
                  have hp0' : 0 ≤ prt := by omega
                  have hp1' : ¬ prt < (n1 : Int) := by omega
                  clear hrow3 hp0
                  go_wp2_with fail
                  go_meet
                  exact ⟨_, H3.out.1, H3.out.2.1, H3.out.2.2.1, H3.out.2.2.2.1, by rw [E.out]; exact HROW3.out, H3.out.2.2.2.2⟩
                · obtain ⟨q, rfl⟩ := Int.eq_ofNat_of_zero_le (show 0 ≤ prt by omega)
                  have hq : q < n1 := by omega
                  have hq' : (q : Int) < (n1 : Int) := by omega
                  have hoq : okT t q nw = true := (HOK.out q).2 (by omega)
                  obtain ⟨pq, hpq⟩ : ∃ p, t.ps[q]? = some p := ⟨_, List.getElem?_eq_getElem (by have := HTL.out; omega)⟩
                  have E := Lib.hid (show (ups t).set q up = ups (opLink t q up nw) by rw [opLink_yes hoq hpq, ups_link])
                  have hcq : w3.cell? ⟨w1.heap.size, q, none⟩ = some (.bool pq.up) := hrow3.cell (by simp [ups, hpq])
                  have hfq := hrow3.frozen q
                  clear hrow3 hp0 hp1 hoq hpq
                  go_wp2_with fail
                  go_meet
                  refine ⟨_, ?_, H3.out.2.1, H3.out.2.2.1, H3.out.2.2.2.1, ?_, H3.out.2.2.2.2.setCell (by simp; omega) _⟩
                  · have hl3 := H3.out.1.lt
                    exact ⟨H3.out.1.blk.far (by simp; omega) _, H3.out.1.row.far (by simp; omega) _, H3.out.1.ne⟩
                  · have := HROW3.out.set_ q (.bool up)
                    rw [← List.map_set, E.out] at this
                    exact this
            · have hk0' : (kd == 0) = false := by simp [hk0]
              by_cases hk1 : kd = 1
              · subst hk1
                go_wp2_with fail
                refine (hear_any _ g gp cap t prt bp nw (HAT.out.alloc _) hwf ⟨hxo.a0, hxo.a1⟩).mono ?_
                rintro e w3 ⟨rfl, hat3, hk3⟩
                have hrow3 := (HROW.out.alloc (.cells (cellsOp ⟨1, prt, up, bp, nw⟩).toArray 46)).keep hk3 HGN.out
                have hb := keep2_below (HBEL.out.alloc hszb _) hk3 hg hgp
                go_wp2_with fail
                go_meet
                exact ⟨_, hat3, hwf.opHear prt bp nw ⟨hxo.a0, hxo.a1⟩, hsf.opHear hwf prt bp nw ⟨hxo.a0, hxo.a1⟩, (len_opHear t prt bp nw).trans HTL.out, by rw [ups_opHear]; exact hrow3, hb⟩
              · have hk1' : (kd == 1) = false := by simp [hk1]
                go_wp2_with fail
                refine (tick_any _ g gp cap t nw (HAT.out.alloc _) hwf).mono ?_
                rintro e w3 ⟨A, c, rfl, _, _, hat3, hk3⟩
                have hrow3 := (HROW.out.alloc (.cells (cellsOp ⟨kd, prt, up, bp, nw⟩).toArray 46)).keep hk3 HGN.out
                have hb := keep2_below (HBEL.out.alloc hszb _) hk3 hg hgp
                go_wp2_with fail
                go_meet
                exact ⟨_, hat3, hwf.opTick nw, hsf.opTick hwf nw, (len_opTick t nw).trans HTL.out, by rw [ups_opTick]; exact hrow3, hb⟩
          case rest =>
            obtain ⟨t', hat, hwf', hsf', htl', hrow, hbel⟩ := hcut
            have HSF := Lib.hid hsf'
            have HROW2 := Lib.hid hrow
            have HTL2 := Lib.hid htl'
            have HBEL2 := Lib.hid hbel
            clear hsf' hrow htl' hbel hop hr1 hr2
            go_wp2_with fail
            go_loopw [12, 13] (fun r p wy => ∃ (j : Nat) (m : Int), j ≤ n1 ∧ p = .int .i64 j ∧ r = .int .i64 m ∧ (m = 0 ∨ (m = 1 ∧ t'.root < j)) ∧ ∃ nn, wy = wc.drewN nn) (fun _ p _ => n1 - (intOf p).toNat)
            case atStart => exact ⟨0, 0, Nat.zero_le _, rfl, rfl, .inl rfl, 0, rfl⟩
            case round =>
              obtain ⟨j, m, hj, rfl, rfl, hm, nn, rfl⟩ := hrel
              by_cases hjl : j < n1
              · have hjl' : (j : Int) < (n1 : Int) := by omega
                obtain ⟨p, hp⟩ : ∃ p, t'.ps[j]? = some p := ⟨_, List.getElem?_eq_getElem (by have := HTL2.out; omega)⟩
                have hcj : wc.cell? ⟨w1.heap.size, j, none⟩ = some (.bool p.up) := HROW2.out.cell (by simp [ups, hp])
                have hone := HSF.out.one j p hp
                have hfwd := HSF.out.fwd j p hp
                have hdown := HSF.out.down j p hp
                have hways : (p.role = 1 ∧ p.up = true ∧ (p.fwd = true → learnsP t'.now p = true)) ∨ (p.role = 2 ∧ p.up = true ∧ (p.fwd = true → learnsP t'.now p = true)) ∨ (p.role ≠ 1 ∧ p.role ≠ 2 ∧ p.fwd = false ∧ p.up = true) ∨ (p.role = 0 ∧ p.fwd = false ∧ p.up = false) := by
                  cases hu : p.up
                  · have h0 := hdown hu
                    refine .inr (.inr (.inr ⟨h0, ?_, rfl⟩))
                    cases hf : p.fwd
                    · rfl
                    · rcases (hfwd hf).1 with h | h <;> omega
                  · by_cases r1 : p.role = 1
                    · exact .inl ⟨r1, rfl, fun hf => (hfwd hf).2⟩
                    · by_cases r2 : p.role = 2
                      · exact .inr (.inl ⟨r2, rfl, fun hf => (hfwd hf).2⟩)
                      · refine .inr (.inr (.inl ⟨r1, r2, ?_, rfl⟩))
                        cases hf : p.fwd
                        · rfl
                        · rcases (hfwd hf).1 with h | h <;> omega
                have HP := Lib.hid hp
                have HONE := Lib.hid hone
                have HM := Lib.hid hm
                clear hp hone hfwd hdown hm
                rcases hways with ⟨hr, hu, hf⟩ | ⟨hr, hu, hf⟩ | ⟨hr1, hr2, hf, hu⟩ | ⟨hr, hf, hu⟩
                · have HMZ := Lib.hid (show m = 0 by rcases HM.out with h | ⟨_, h⟩; exact h; have := HONE.out hr; omega)
                  have HRT := Lib.hid (show t'.root < ((j + 1 : Nat) : Int) by have := HONE.out hr; omega)
                  rw [hu] at hcj
                  have HF := Lib.hid hf
                  have HR := Lib.hid hr
                  clear hf hr hu
                  go_wp2_with fail
                  refine (role_in _ g gp cap t' j p (hat.drewN nn) hwf'.l1 HP.out).mono ?_
                  rw [HR.out]
                  rintro e w4 ⟨rfl, rfl⟩
                  go_wp2_with fail
                  refine (fwd_in _ g gp cap t' j p (hat.drewN nn) hwf'.l1 HP.out).mono ?_
                  cases hf : p.fwd
                  · rintro e w4 ⟨rfl, rfl⟩
                    have hmx : m = 0 := HMZ.out
                    subst hmx
                    go_wp2
                    go_roundw
                    case rel => exact ⟨j + 1, 1, by omega, by go_num, by kernel_rfl, .inr ⟨rfl, HRT.out⟩, nn, rfl⟩
                    case measure => simp [intOf]; omega
                  · rintro e w4 ⟨rfl, rfl⟩
                    have hmx : m = 0 := HMZ.out
                    subst hmx
                    have HLF := Lib.hid (HF.out hf)
                    go_wp2_with fail
                    refine (learns_in _ g gp cap t' j p (hat.drewN nn) hwf' HP.out).mono ?_
                    rw [HLF.out]
                    rintro e w4 ⟨rfl, n4, rfl⟩
                    go_wp2
                    go_roundw
                    case rel => exact ⟨j + 1, 1, by omega, by go_num, by kernel_rfl, .inr ⟨rfl, HRT.out⟩, _, rfl⟩
                    case measure => simp [intOf]; omega
                · have HM2 := Lib.hid (show m = 0 ∨ (m = 1 ∧ t'.root < ((j + 1 : Nat) : Int)) by rcases HM.out with h | ⟨h, h2⟩; exact .inl h; exact .inr ⟨h, by omega⟩)
                  rw [hu] at hcj
                  have HF := Lib.hid hf
                  have HR := Lib.hid hr
                  clear hf hr hu
                  go_wp2_with fail
                  refine (role_in _ g gp cap t' j p (hat.drewN nn) hwf'.l1 HP.out).mono ?_
                  rw [HR.out]
                  rintro e w4 ⟨rfl, rfl⟩
                  go_wp2_with fail
                  refine (fwd_in _ g gp cap t' j p (hat.drewN nn) hwf'.l1 HP.out).mono ?_
                  cases hf : p.fwd
                  · rintro e w4 ⟨rfl, rfl⟩
                    go_wp2
                    go_roundw
                    case rel => exact ⟨j + 1, m, by omega, by go_num, rfl, HM2.out, nn, rfl⟩
                    case measure => simp [intOf]; omega
                  · rintro e w4 ⟨rfl, rfl⟩
                    have HLF := Lib.hid (HF.out hf)
                    go_wp2_with fail
                    refine (learns_in _ g gp cap t' j p (hat.drewN nn) hwf' HP.out).mono ?_
                    rw [HLF.out]
                    rintro e w4 ⟨rfl, n4, rfl⟩
                    go_wp2
                    go_roundw
                    case rel => exact ⟨j + 1, m, by omega, by go_num, rfl, HM2.out, _, rfl⟩
                    case measure => simp [intOf]; omega
                · have HM2 := Lib.hid (show m = 0 ∨ (m = 1 ∧ t'.root < ((j + 1 : Nat) : Int)) by rcases HM.out with h | ⟨h, h2⟩; exact .inl h; exact .inr ⟨h, by omega⟩)
                  rw [hu] at hcj
                  have hr1' : (p.role == 1) = false := by simp [hr1]
                  have HF := Lib.hid hf
                  clear hf hu hr1 hr2
                  go_wp2_with fail
                  refine (role_in _ g gp cap t' j p (hat.drewN nn) hwf'.l1 HP.out).mono ?_
                  rintro e w4 ⟨rfl, rfl⟩
                  go_wp2_with fail
                  refine (fwd_in _ g gp cap t' j p (hat.drewN nn) hwf'.l1 HP.out).mono ?_
                  rw [HF.out]
                  rintro e w4 ⟨rfl, rfl⟩
                  go_wp2
                  go_roundw
                  case rel => exact ⟨j + 1, m, by omega, by go_num, rfl, HM2.out, nn, rfl⟩
                  case measure => simp [intOf]; omega
                · have HM2 := Lib.hid (show m = 0 ∨ (m = 1 ∧ t'.root < ((j + 1 : Nat) : Int)) by rcases HM.out with h | ⟨h, h2⟩; exact .inl h; exact .inr ⟨h, by omega⟩)
                  rw [hu] at hcj
                  have HF := Lib.hid hf
                  have HR := Lib.hid hr
                  clear hf hu hr
                  go_wp2_with fail
                  refine (role_in _ g gp cap t' j p (hat.drewN nn) hwf'.l1 HP.out).mono ?_
                  rw [HR.out]
                  rintro e w4 ⟨rfl, rfl⟩
                  go_wp2_with fail
                  refine (fwd_in _ g gp cap t' j p (hat.drewN nn) hwf'.l1 HP.out).mono ?_
                  rw [HF.out]
                  rintro e w4 ⟨rfl, rfl⟩
                  go_wp2
                  go_roundw
                  case rel => exact ⟨j + 1, m, by omega, by go_num, rfl, HM2.out, nn, rfl⟩
                  case measure => simp [intOf]; omega
              · have hm1 : ¬ 1 < m := by omega
                have hjn : ¬ (j : Int) < (n1 : Int) := by omega
                clear hm
                go_wp2
                go_roundw
                case rel => exact ⟨k + 1, t', by omega, by omega, by go_num, hat.drewN nn, hwf', HSF.out, HTL2.out, HROW2.out, below_drewN HBEL2.out nn⟩
                case measure => simp [intOf]; omega
      · have HB9 := Lib.hid hbel
        clear hat hwf hsf htl hrow hbel hop hr1 hr2
        by_cases h2 : k < n2
        · have h2' : (k : Int) < (n2 : Int) := by omega
          have h3' : ¬ (k : Int) < 60 := by omega
          go_wp2_with fail
          refine (live_ _).mono ?_
          rintro e w2 ⟨rfl, hb2⟩
          go_wp2_with fail
          go_ret
          exact ⟨rfl, HB9.out.trans (hb2.mono HB9.out.size)⟩
        · have h2' : ¬ (k : Int) < (n2 : Int) := by omega
          go_wp2_with fail
          refine (live_ _).mono ?_
          rintro e w2 ⟨rfl, hb2⟩
          go_wp2_with fail
          go_ret
          exact ⟨rfl, HB9.out.trans (hb2.mono HB9.out.size)⟩
end Rstp
end Go.Proofs.Ytlfoaefilonidaa
