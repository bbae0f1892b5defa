/-
  fdb: the walk of take at the closures of Expire and of Flush; of Expire and Flush themselves.
-/
import Derived.Test.YtnnpmbjicpndeaaFdbOps
namespace Go.Proofs.Ytnnpmbjicpndeaa
set_option linter.unusedVariables false
set_option linter.unusedSimpArgs false
open Go.RowKit Go.Maps
namespace Fdb
open Mp FdbC
theorem Rg.drew {w : World} {P : Program} {K : TypeId} {b r : Nat} {ts lf : List En} (h : Rg E P K w b r ts lf) : Rg E P K w.drew b r ts lf := h
theorem keep_yes {ts : List En} (hd : Apart E ts) {gone : En → Bool} {x : En} (hx : x ∈ ts) (hg : gone x = true) : (strike ts x.1).filter (fun y => !gone y) = ts.filter fun y => !gone y := by
  unfold strike
  rw [List.filter_filter]
  refine List.filter_congr fun y hy => ?_
  by_cases hk : y.1 = x.1
  · have := only_key (E := E) ts hd hy hx hk
    subst this
    simp [hg]
  · have : keyIs E x.1 y = false := by
      rw [Bool.eq_false_iff]
      exact fun h => hk ((keyIsE _ _).1 h)
    simp [this]
theorem grown_of {a b : World} (h : Below a.heap.size a b) : a.grownBy b none := ⟨h.os, h.tape, h.output, h.size, fun k hk _ => h.block k hk⟩
theorem put_none (a : Act) (v : Value) : a.put none v = a := rfl
theorem keyEn (v : Int) (m : ByteArray) (ok : okK (v, m)) (p a : Int) : kv (E.key (⟨(v, m), ok⟩, p, a)) = .agg #[.int .i64 v, .string m] := rfl
theorem valEn (v : Int) (m : ByteArray) (ok : okK (v, m)) (p a : Int) : E.val (⟨(v, m), ok⟩, p, a) = .agg #[.int .i64 v, .string m, .int .i64 p, .int .i64 a] := rfl
theorem keep_all {ts : List En} {gone : En → Bool} (h : ∀ x ∈ ts, gone x = false) : ts.filter (fun y => !gone y) = ts := List.filter_eq_self.2 fun y hy => by rw [h y hy]; rfl
set_option maxHeartbeats 4000000 in
set_option maxRecDepth 20000 in
theorem takeE (w : World) (g b p1 p2 : Nat) (room age : Int) (ts : List En) (h : At w g b room age ts) (hd : Apart E ts) (hn : ts.length ≤ 5000) (gone : En → Bool)
    (hcl : ∀ W, Keep [b] w W → ∀ x ∈ ts, Calls Try.prog 28 #[valE (er x), .pointer (some ⟨p1, 0, none⟩), .pointer (some ⟨p2, 0, none⟩)] W fun e w' => e = .returned (.bool (gone x)) ∧ Srt.Gr W w') :
    Calls Try.prog 27 #[.pointer (some ⟨g, 0, none⟩), .func (.func 28) #[] #[.pointer (some ⟨p1, 0, none⟩), .pointer (some ⟨p2, 0, none⟩)]] w fun e w' => e = .returned (.int .i64 ((ts.length : Int) - (ts.filter fun x => !gone x).length)) ∧ Keep [b] w w' ∧ Has E Try.prog 52 w' b (ts.filter fun x => !gone x) := by
  have hm := h.map
  have hb := h.lt.2
  have hg := h.lt.1
  have HA := Lib.hid h
  have c2 : w.cell? ⟨g, 2, none⟩ = some (.map (some b)) := h.blk.cell 2
  have hrun : ∀ ty, (Builtin.len_ #[46] ty #[.map (some b)]).run Try.prog w = .ok (.int .i64 ts.length) w := fun ty => hm.len Try.underlying46 ty
  clear h
  go_enter Try.func27, Try.ntmps27
  go_wp2_with (first
    | (at_range; refine wpList_rng _ rfl _ _ rfl 52 54 law Try.underlying46 sameE b ts hd rfl hm ?_; intro w0 hrg0 hg0 hs0)
    | go_in)
  clear hrun
  go_frame
  go_loopw [] (fun wr => ∃ cur lf : List En, Rg E Try.prog 52 wr b w.heap.size cur lf ∧ (cur.filter fun x => !gone x) = (ts.filter fun x => !gone x) ∧ (∀ x ∈ cur, x ∉ lf → gone x = false) ∧ (∀ x ∈ cur, x ∈ ts) ∧ Apart E cur ∧ Keep [b] w wr)
    (fun wr => wr.rangeLeft b w.heap.size)
  case atStart => exact ⟨ts, ts, hrg0, rfl, fun _ h1 h2 => absurd h1 h2, fun _ h => h, hd, (Keep.of_grown (xs := []) hg0 (by simp)).mono (by simp)⟩
  case round =>
    obtain ⟨cur, lf, hrg, hfil, hno, hsub, hdc, hkeep⟩ := hrel
    have hr0 := hrg.lt
    have hkz := hkeep.size
    have hblk := Keep.blk hkeep HA.out.blk (by simpa using HA.out.ne)
    have c2w : wr.cell? ⟨g, 2, none⟩ = some (.map (some b)) := hblk.cell 2
    have HF := Lib.hid hfil
    have HN := Lib.hid hno
    have HS := Lib.hid hsub
    have HK := Lib.hid hkeep
    have HB := Lib.hid hblk
    have HR := Lib.hid hrg
    clear hfil hno hsub hkeep hblk
    go_wp2_with (first
      | (at_next; refine wpList_nxt _ rfl _ rfl 52 law sameE kv invK kvK b w.heap.size cur lf hdc rfl hrg ?_ ?_)
      | go_in)
    · intro hl0
      subst hl0
      have hall := keep_all (gone := gone) (ts := cur) (fun x hx => HN.out x hx (by simp))
      rw [HF.out] at hall
      have hlen : cur.length ≤ ts.length := by rw [← hall]; exact List.length_filter_le _ _
      have HALL := Lib.hid hall
      have hhas := hrg.has
      have hrun : ∀ ty, (Builtin.len_ #[46] ty #[.map (some b)]).run Try.prog wr = .ok (.int .i64 cur.length) wr := fun ty => hhas.len Try.underlying46 ty
      have hw : IntKind.i64.wrap ((ts.length : Int) - (cur.length : Int)) = (ts.length : Int) - (cur.length : Int) := IntWalk.i64_in _ (by omega)
      clear hall hrg
      go_wp2
      go_ret
      rw [HALL.out]
      exact ⟨rfl, HK.out, hhas⟩
    · intro v0 m0 ok0 p0 a0 l w1 hperm hx hrg1 hlt1 hg1 hsz1 hen
      have hk1 : Keep [b] w w1 := HK.out.then (Keep.of_grown (xs := [w.heap.size]) hg1 (by simp)) (by simp)
      have hblk1 := HB.out.grown hg1 (by simp; omega)
      have hcl1 := fun o o' => hcl _ ((hk1.alloc o).alloc o') _ (HS.out _ hx)
      have HX := Lib.hid hx
      have HL := Lib.hid hlt1
      have HP := Lib.hid hperm
      have HK1 := Lib.hid hk1
      have HB1 := Lib.hid hblk1
      have hw1 : w.heap.size < w1.heap.size := by omega
      have HG := Lib.hid hrg1
      clear hcl hx hlt1 hperm hk1 hblk1 hrg hrg1 hsz1
      simp only [keyEn, valEn] at hen ⊢
      cases hgx : gone (⟨(v0, m0), ok0⟩, p0, a0) with
      | true =>
        have hcl2 := fun o o' => hcl1 o o'
        simp only [valE, er, hgx] at hcl2
        clear hcl1
        go_wp2_with (first
          | (go_at_call 28; refine (hcl2 _ _).mono ?_; rintro e w3 ⟨rfl, hg3⟩)
          | go_in)
        have hgr3 := grown_of hg3.below
        have hblk3 := (((HB1.out.alloc _).alloc _).grown hgr3 (by simp))
        have hkb := ((Blk.new w1 52 #[.int .i64 v0, .string m0]).alloc (.cells #[.int .i64 v0, .string m0, .int .i64 p0, .int .i64 a0] 54)).grown hgr3 (by simp)
        have c3 : w3.cell? ⟨g, 2, none⟩ = some (.map (some b)) := hblk3.cell 2
        have d0 : w3.cell? ⟨w1.heap.size, 0, none⟩ = some (.int .i64 v0) := hkb.cell 0
        have d1 : w3.cell? ⟨w1.heap.size, 1, none⟩ = some (.string m0) := hkb.cell 1
        have hrg3 : Rg E Try.prog 52 w3 b w.heap.size cur l := ((HG.out.alloc _).alloc _).kept hgr3 (by simp) (by simp)
        have hleft3 := ((HG.out.alloc (.cells #[.int .i64 v0, .string m0] 52)).alloc (.cells #[.int .i64 v0, .string m0, .int .i64 p0, .int .i64 a0] 54)).left_kept hgr3 (by simp) (by simp)
        rw [(HG.out.alloc (.cells #[.int .i64 v0, .string m0] 52)).left_alloc, HG.out.left_alloc] at hleft3
        have hk3 : Keep [b] w w3 := (((HK1.out.alloc _).alloc _).then (Keep.of_grown (xs := []) hgr3 (by simp)) (by simp))
        have HK3 := Lib.hid hk3
        have HL3 := Lib.hid hleft3
        clear hblk3 hkb hgr3 hcl2 hg3 hk3 hleft3
        refine region_tail 5 (by kernel_rfl) (by kernel_rfl) ?_
        simp only [List.take_succ_cons, List.take_zero, List.drop_succ_cons, List.drop_zero]
        refine SW.un ?_
        (refine SW.want (by kernel_rfl) (fun K hK => ?_); have HK := Lib.hid hK; clear hK; go_simp; refine SW.on HK ?_; clear HK K)
        (refine SW.want (by kernel_rfl) (fun K hK => ?_); have HK := Lib.hid hK; clear hK; go_simp; refine SW.on HK ?_; clear HK K)
        (refine SW.want (by kernel_rfl) (fun K hK => ?_); have HK := Lib.hid hK; clear hK; go_simp; refine SW.on HK ?_; clear HK K)
        (refine SW.want (by kernel_rfl) (fun K hK => ?_); have HK := Lib.hid hK; clear hK; go_simp; refine SW.on HK ?_; clear HK K)
        (refine SW.want (by kernel_rfl) (fun K hK => ?_); have HK := Lib.hid hK; clear hK; go_simp; refine SW.on HK ?_; clear HK K)
        refine SW.nil ?_
        go_wp2_with (first
          | (at_delete; refine wpList_delR _ rfl _ _ _ _ rfl 54 law Try.underlying46 sameE b w.heap.size cur l rfl (Rg.drew hrg3) _ ⟨(v0, m0), ok0⟩ rfl (keyOf ⟨(v0, m0), ok0⟩) ?_; intro w4 hrg4 hleft4 hgr4)
          | go_in)
        simp only [put_none]
        go_roundw
        case rel =>
          refine ⟨strike cur ⟨(v0, m0), ok0⟩, strike l ⟨(v0, m0), ok0⟩, hrg4, ?_, ?_, ?_, strike_apart hdc _, ?_⟩
          · exact (keep_yes hdc HX.out hgx).trans HF.out
          · intro x hx hnl
            have hx' := List.mem_filter.1 hx
            refine HN.out x hx'.1 fun hlf => hnl ?_
            rcases List.mem_cons.1 (HP.out.mem_iff.1 hlf) with h | h
            · subst h
              have := hx'.2
              simp [keyIs, keyE] at this
            · exact List.mem_filter.2 ⟨h, hx'.2⟩
          · exact fun x hx => HS.out x (List.mem_filter.1 hx).1
          · exact HK3.out.drew.trans (Keep.of_grown hgr4 (by simp))
        case measure =>
          refine Nat.lt_of_le_of_lt hleft4 ?_
          show w3.rangeLeft b w.heap.size < _
          rw [HL3.out]
          exact HL.out
      | false =>
        have hcl2 := fun o o' => hcl1 o o'
        simp only [valE, er, hgx] at hcl2
        clear hcl1
        go_wp2_with (first
          | (go_at_call 28; refine (hcl2 _ _).mono ?_; rintro e w3 ⟨rfl, hg3⟩)
          | go_in)
        have hgr3 := grown_of hg3.below
        go_roundw
        case rel =>
          refine ⟨cur, l, ((HG.out.alloc _).alloc _).kept hgr3 (by simp) (by simp), HF.out, ?_, HS.out, hdc, (((HK1.out.alloc _).alloc _).then (Keep.of_grown (xs := []) hgr3 (by simp)) (by simp))⟩
          intro x hx hnl
          by_cases hxe : x = (⟨(v0, m0), ok0⟩, p0, a0)
          · rw [hxe]; exact hgx
          · refine HN.out x hx fun hlf => ?_
            rcases List.mem_cons.1 (HP.out.mem_iff.1 hlf) with h | h
            · exact hxe h
            · exact hnl h
        case measure =>
          rw [((HG.out.alloc _).alloc _).left_kept hgr3 (by simp) (by simp), (HG.out.alloc _).left_alloc, HG.out.left_alloc]
          exact HL.out
set_option maxHeartbeats 4000000 in
set_option maxRecDepth 20000 in
theorem takeF (w : World) (g b p1 : Nat) (room age : Int) (ts : List En) (h : At w g b room age ts) (hd : Apart E ts) (hn : ts.length ≤ 5000) (gone : En → Bool)
    (hcl : ∀ W, Keep [b] w W → ∀ x ∈ ts, Calls Try.prog 29 #[valE (er x), .pointer (some ⟨p1, 0, none⟩)] W fun e w' => e = .returned (.bool (gone x)) ∧ Srt.Gr W w') :
    Calls Try.prog 27 #[.pointer (some ⟨g, 0, none⟩), .func (.func 29) #[] #[.pointer (some ⟨p1, 0, none⟩)]] w fun e w' => e = .returned (.int .i64 ((ts.length : Int) - (ts.filter fun x => !gone x).length)) ∧ Keep [b] w w' ∧ Has E Try.prog 52 w' b (ts.filter fun x => !gone x) := by
  have hm := h.map
  have hb := h.lt.2
  have hg := h.lt.1
  have HA := Lib.hid h
  have c2 : w.cell? ⟨g, 2, none⟩ = some (.map (some b)) := h.blk.cell 2
  have hrun : ∀ ty, (Builtin.len_ #[46] ty #[.map (some b)]).run Try.prog w = .ok (.int .i64 ts.length) w := fun ty => hm.len Try.underlying46 ty
  clear h
  go_enter Try.func27, Try.ntmps27
  go_wp2_with (first
    | (at_range; refine wpList_rng _ rfl _ _ rfl 52 54 law Try.underlying46 sameE b ts hd rfl hm ?_; intro w0 hrg0 hg0 hs0)
    | go_in)
  clear hrun
  go_frame
  go_loopw [] (fun wr => ∃ cur lf : List En, Rg E Try.prog 52 wr b w.heap.size cur lf ∧ (cur.filter fun x => !gone x) = (ts.filter fun x => !gone x) ∧ (∀ x ∈ cur, x ∉ lf → gone x = false) ∧ (∀ x ∈ cur, x ∈ ts) ∧ Apart E cur ∧ Keep [b] w wr)
    (fun wr => wr.rangeLeft b w.heap.size)
  case atStart => exact ⟨ts, ts, hrg0, rfl, fun _ h1 h2 => absurd h1 h2, fun _ h => h, hd, (Keep.of_grown (xs := []) hg0 (by simp)).mono (by simp)⟩
  case round =>
    obtain ⟨cur, lf, hrg, hfil, hno, hsub, hdc, hkeep⟩ := hrel
    have hr0 := hrg.lt
    have hkz := hkeep.size
    have hblk := Keep.blk hkeep HA.out.blk (by simpa using HA.out.ne)
    have c2w : wr.cell? ⟨g, 2, none⟩ = some (.map (some b)) := hblk.cell 2
    have HF := Lib.hid hfil
    have HN := Lib.hid hno
    have HS := Lib.hid hsub
    have HK := Lib.hid hkeep
    have HB := Lib.hid hblk
    have HR := Lib.hid hrg
    clear hfil hno hsub hkeep hblk
    go_wp2_with (first
      | (at_next; refine wpList_nxt _ rfl _ rfl 52 law sameE kv invK kvK b w.heap.size cur lf hdc rfl hrg ?_ ?_)
      | go_in)
    · intro hl0
      subst hl0
      have hall := keep_all (gone := gone) (ts := cur) (fun x hx => HN.out x hx (by simp))
      rw [HF.out] at hall
      have hlen : cur.length ≤ ts.length := by rw [← hall]; exact List.length_filter_le _ _
      have HALL := Lib.hid hall
      have hhas := hrg.has
      have hrun : ∀ ty, (Builtin.len_ #[46] ty #[.map (some b)]).run Try.prog wr = .ok (.int .i64 cur.length) wr := fun ty => hhas.len Try.underlying46 ty
      have hw : IntKind.i64.wrap ((ts.length : Int) - (cur.length : Int)) = (ts.length : Int) - (cur.length : Int) := IntWalk.i64_in _ (by omega)
      clear hall hrg
      go_wp2
      go_ret
      rw [HALL.out]
      exact ⟨rfl, HK.out, hhas⟩
    · intro v0 m0 ok0 p0 a0 l w1 hperm hx hrg1 hlt1 hg1 hsz1 hen
      have hk1 : Keep [b] w w1 := HK.out.then (Keep.of_grown (xs := [w.heap.size]) hg1 (by simp)) (by simp)
      have hblk1 := HB.out.grown hg1 (by simp; omega)
      have hcl1 := fun o o' => hcl _ ((hk1.alloc o).alloc o') _ (HS.out _ hx)
      have HX := Lib.hid hx
      have HL := Lib.hid hlt1
      have HP := Lib.hid hperm
      have HK1 := Lib.hid hk1
      have HB1 := Lib.hid hblk1
      have hw1 : w.heap.size < w1.heap.size := by omega
      have HG := Lib.hid hrg1
      clear hcl hx hlt1 hperm hk1 hblk1 hrg hrg1 hsz1
      simp only [keyEn, valEn] at hen ⊢
      cases hgx : gone (⟨(v0, m0), ok0⟩, p0, a0) with
      | true =>
        have hcl2 := fun o o' => hcl1 o o'
        simp only [valE, er, hgx] at hcl2
        clear hcl1
        go_wp2_with (first
          | (go_at_call 29; refine (hcl2 _ _).mono ?_; rintro e w3 ⟨rfl, hg3⟩)
          | go_in)
        have hgr3 := grown_of hg3.below
        have hblk3 := (((HB1.out.alloc _).alloc _).grown hgr3 (by simp))
        have hkb := ((Blk.new w1 52 #[.int .i64 v0, .string m0]).alloc (.cells #[.int .i64 v0, .string m0, .int .i64 p0, .int .i64 a0] 54)).grown hgr3 (by simp)
        have c3 : w3.cell? ⟨g, 2, none⟩ = some (.map (some b)) := hblk3.cell 2
        have d0 : w3.cell? ⟨w1.heap.size, 0, none⟩ = some (.int .i64 v0) := hkb.cell 0
        have d1 : w3.cell? ⟨w1.heap.size, 1, none⟩ = some (.string m0) := hkb.cell 1
        have hrg3 : Rg E Try.prog 52 w3 b w.heap.size cur l := ((HG.out.alloc _).alloc _).kept hgr3 (by simp) (by simp)
        have hleft3 := ((HG.out.alloc (.cells #[.int .i64 v0, .string m0] 52)).alloc (.cells #[.int .i64 v0, .string m0, .int .i64 p0, .int .i64 a0] 54)).left_kept hgr3 (by simp) (by simp)
        rw [(HG.out.alloc (.cells #[.int .i64 v0, .string m0] 52)).left_alloc, HG.out.left_alloc] at hleft3
        have hk3 : Keep [b] w w3 := (((HK1.out.alloc _).alloc _).then (Keep.of_grown (xs := []) hgr3 (by simp)) (by simp))
        have HK3 := Lib.hid hk3
        have HL3 := Lib.hid hleft3
        clear hblk3 hkb hgr3 hcl2 hg3 hk3 hleft3
        refine region_tail 5 (by kernel_rfl) (by kernel_rfl) ?_
        simp only [List.take_succ_cons, List.take_zero, List.drop_succ_cons, List.drop_zero]
        refine SW.un ?_
        (refine SW.want (by kernel_rfl) (fun K hK => ?_); have HK := Lib.hid hK; clear hK; go_simp; refine SW.on HK ?_; clear HK K)
        (refine SW.want (by kernel_rfl) (fun K hK => ?_); have HK := Lib.hid hK; clear hK; go_simp; refine SW.on HK ?_; clear HK K)
        (refine SW.want (by kernel_rfl) (fun K hK => ?_); have HK := Lib.hid hK; clear hK; go_simp; refine SW.on HK ?_; clear HK K)
        (refine SW.want (by kernel_rfl) (fun K hK => ?_); have HK := Lib.hid hK; clear hK; go_simp; refine SW.on HK ?_; clear HK K)
        (refine SW.want (by kernel_rfl) (fun K hK => ?_); have HK := Lib.hid hK; clear hK; go_simp; refine SW.on HK ?_; clear HK K)
        refine SW.nil ?_
        go_wp2_with (first
          | (at_delete; refine wpList_delR _ rfl _ _ _ _ rfl 54 law Try.underlying46 sameE b w.heap.size cur l rfl (Rg.drew hrg3) _ ⟨(v0, m0), ok0⟩ rfl (keyOf ⟨(v0, m0), ok0⟩) ?_; intro w4 hrg4 hleft4 hgr4)
          | go_in)
        simp only [put_none]
        go_roundw
        case rel =>
          refine ⟨strike cur ⟨(v0, m0), ok0⟩, strike l ⟨(v0, m0), ok0⟩, hrg4, ?_, ?_, ?_, strike_apart hdc _, ?_⟩
          · exact (keep_yes hdc HX.out hgx).trans HF.out
          · intro x hx hnl
            have hx' := List.mem_filter.1 hx
            refine HN.out x hx'.1 fun hlf => hnl ?_
            rcases List.mem_cons.1 (HP.out.mem_iff.1 hlf) with h | h
            · subst h
              have := hx'.2
              simp [keyIs, keyE] at this
            · exact List.mem_filter.2 ⟨h, hx'.2⟩
          · exact fun x hx => HS.out x (List.mem_filter.1 hx).1
          · exact HK3.out.drew.trans (Keep.of_grown hgr4 (by simp))
        case measure =>
          refine Nat.lt_of_le_of_lt hleft4 ?_
          show w3.rangeLeft b w.heap.size < _
          rw [HL3.out]
          exact HL.out
      | false =>
        have hcl2 := fun o o' => hcl1 o o'
        simp only [valE, er, hgx] at hcl2
        clear hcl1
        go_wp2_with (first
          | (go_at_call 29; refine (hcl2 _ _).mono ?_; rintro e w3 ⟨rfl, hg3⟩)
          | go_in)
        have hgr3 := grown_of hg3.below
        go_roundw
        case rel =>
          refine ⟨cur, l, ((HG.out.alloc _).alloc _).kept hgr3 (by simp) (by simp), HF.out, ?_, HS.out, hdc, (((HK1.out.alloc _).alloc _).then (Keep.of_grown (xs := []) hgr3 (by simp)) (by simp))⟩
          intro x hx hnl
          by_cases hxe : x = (⟨(v0, m0), ok0⟩, p0, a0)
          · rw [hxe]; exact hgx
          · refine HN.out x hx fun hlf => ?_
            rcases List.mem_cons.1 (HP.out.mem_iff.1 hlf) with h | h
            · exact hxe h
            · exact hnl h
        case measure =>
          rw [((HG.out.alloc _).alloc _).left_kept hgr3 (by simp) (by simp), (HG.out.alloc _).left_alloc, HG.out.left_alloc]
          exact HL.out
def aged (age now : Int) (x : En) : Bool := decide (x.2.2 + age ≤ now)
def onPort (port : Int) (x : En) : Bool := decide (x.2.1 = port)
set_option maxRecDepth 20000 in
theorem closE (W : World) (g b p1 p2 : Nat) (room age now : Int) (hb : Blk W g 48 #[.int .i64 room, .int .i64 age, .map (some b)]) (h1 : Blk W p1 23 #[.pointer (some ⟨g, 0, none⟩)]) (h2 : Blk W p2 3 #[.int .i64 now]) (x : En) (hx : 0 ≤ x.2.2 ∧ x.2.2 ≤ 1099511627776) (ha : 0 ≤ age ∧ age ≤ 1000000) :
    Calls Try.prog 28 #[valE (er x), .pointer (some ⟨p1, 0, none⟩), .pointer (some ⟨p2, 0, none⟩)] W fun e w' => e = .returned (.bool (aged age now x)) ∧ Srt.Gr W w' := by
  have c1 : W.cell? ⟨p1, 0, none⟩ = some (.pointer (some ⟨g, 0, none⟩)) := h1.cell 0
  have c2 : W.cell? ⟨p2, 0, none⟩ = some (.int .i64 now) := h2.cell 0
  have l1 := h1.lt
  have l2 := h2.lt
  have ho := fun o => old_ (W.alloc o) g room age (.map (some b)) (hb.alloc o) x now hx ha
  have HX := Lib.hid (show aged age now x = decide (x.2.2 + age ≤ now) from rfl)
  obtain ⟨⟨⟨v, mc⟩, ok⟩, p, at_⟩ := x
  simp only [valE, er] at ho ⊢
  go_enter Try.func28, Try.ntmps28
  go_wp2_with (first
    | (go_at_call 20; refine (ho _).mono ?_; rintro e w2 ⟨rfl, hg2⟩)
    | go_in)
  go_ret
  exact ⟨by rw [HX.out]; rfl, ((Srt.Gr.refl W).alloc _).trans hg2⟩
set_option maxRecDepth 20000 in
theorem closF (W : World) (p1 : Nat) (port : Int) (h1 : Blk W p1 3 #[.int .i64 port]) (x : En) :
    Calls Try.prog 29 #[valE (er x), .pointer (some ⟨p1, 0, none⟩)] W fun e w' => e = .returned (.bool (onPort port x)) ∧ Srt.Gr W w' := by
  have c1 : W.cell? ⟨p1, 0, none⟩ = some (.int .i64 port) := h1.cell 0
  have l1 := h1.lt
  have HX := Lib.hid (show onPort port x = (x.2.1 == port) by unfold onPort; rw [Bool.eq_iff_iff, decide_eq_true_iff, beq_iff_eq])
  obtain ⟨⟨⟨v, mc⟩, ok⟩, p, at_⟩ := x
  simp only [valE, er]
  go_enter Try.func29, Try.ntmps29
  go_wp2
  go_ret
  exact ⟨by rw [HX.out]; rfl, (Srt.Gr.refl W).alloc _⟩
def gone (ts : List En) (p : En → Bool) : List En := ts.filter fun x => !p x
theorem expire_bad (w : World) (g : Nat) (now : Int) (hn : ¬ (0 ≤ now ∧ now ≤ 1099511627776)) :
    Calls Try.prog 15 #[.pointer (some ⟨g, 0, none⟩), .int .i64 now] w fun e w' => e = .returned (.int .i64 0) ∧ Keep [] w w' := by
  have hb : decide (0 ≤ now ∧ now ≤ 1099511627776) = false := decide_eq_false hn
  go_enter Try.func15, Try.ntmps15
  go_wp2_with (first
    | (go_at_call 18; refine (within_ _ _ _ _).mono ?_; rintro e w1 ⟨rfl, rfl⟩; rw [hb])
    | go_in)
  go_ret
  exact ⟨rfl, ((Keep.refl [] w).alloc _).alloc _⟩
theorem expire_ok (w : World) (g b : Nat) (room age : Int) (ts : List En) (h : At w g b room age ts) (hd : Apart E ts) (hn : ts.length ≤ 5000) (hg : ∀ x ∈ ts, 0 ≤ x.2.2 ∧ x.2.2 ≤ 1099511627776) (ha : 0 ≤ age ∧ age ≤ 1000000) (now : Int) (ht : 0 ≤ now ∧ now ≤ 1099511627776) :
    Calls Try.prog 15 #[.pointer (some ⟨g, 0, none⟩), .int .i64 now] w fun e w' => e = .returned (.int .i64 ((ts.length : Int) - (gone ts (aged age now)).length)) ∧ Keep [b] w w' ∧ At w' g b room age (gone ts (aged age now)) := by
  have hb : decide (0 ≤ now ∧ now ≤ 1099511627776) = true := decide_eq_true ht
  obtain ⟨g1, g2⟩ := h.lt
  have hcl : ∀ W, Keep [b] ((w.alloc (.cells #[.pointer (some ⟨g, 0, none⟩)] 23)).alloc (.cells #[.int .i64 now] 3)) W → ∀ x ∈ ts, Calls Try.prog 28 #[valE (er x), .pointer (some ⟨w.heap.size, 0, none⟩), .pointer (some ⟨w.heap.size + 1, 0, none⟩)] W fun e w' => e = .returned (.bool (aged age now x)) ∧ Srt.Gr W w' := by
    intro W hW x hx
    have e1 : Blk ((w.alloc (.cells #[.pointer (some ⟨g, 0, none⟩)] 23)).alloc (.cells #[.int .i64 now] 3)) (w.heap.size + 1) 3 #[.int .i64 now] := by
      have := Blk.new (w.alloc (.cells #[.pointer (some ⟨g, 0, none⟩)] 23)) 3 #[.int .i64 now]
      simpa using this
    exact closE W g b _ _ room age now (Keep.blk hW ((h.blk.alloc _).alloc _) (by simpa using h.ne)) (Keep.blk hW ((Blk.new w _ _).alloc _) (by simp; omega)) (Keep.blk hW e1 (by simp; omega)) x (hg x hx) ha
  go_enter Try.func15, Try.ntmps15
  go_wp2_with (first
    | (go_at_call 18; refine (within_ _ _ _ _).mono ?_; rintro e w1 ⟨rfl, rfl⟩; rw [hb])
    | (go_at_call 27; refine (takeE _ g b w.heap.size (w.heap.size + 1) room age ts ((h.keep (((Keep.refl [] w).alloc (.cells #[.pointer (some ⟨g, 0, none⟩)] 23)).alloc (.cells #[.int .i64 now] 3)) (by simp) (by simp))) hd hn (aged age now) hcl).mono ?_; rintro e w2 ⟨rfl, hk2, hm2⟩)
    | go_in)
  go_ret
  have hk : Keep [b] w w2 := (((Keep.refl [b] w).alloc _).alloc _).trans hk2
  exact ⟨rfl, hk, ⟨Keep.blk hk h.blk (by simpa using h.ne), hm2, h.ne⟩⟩
theorem flush_ok (w : World) (g b : Nat) (room age : Int) (ts : List En) (h : At w g b room age ts) (hd : Apart E ts) (hn : ts.length ≤ 5000) (port : Int) :
    Calls Try.prog 16 #[.pointer (some ⟨g, 0, none⟩), .int .i64 port] w fun e w' => e = .returned (.int .i64 ((ts.length : Int) - (gone ts (onPort port)).length)) ∧ Keep [b] w w' ∧ At w' g b room age (gone ts (onPort port)) := by
  obtain ⟨g1, g2⟩ := h.lt
  have hcl : ∀ W, Keep [b] (w.alloc (.cells #[.int .i64 port] 3)) W → ∀ x ∈ ts, Calls Try.prog 29 #[valE (er x), .pointer (some ⟨w.heap.size, 0, none⟩)] W fun e w' => e = .returned (.bool (onPort port x)) ∧ Srt.Gr W w' := by
    intro W hW x hx
    exact closF W _ port (Keep.blk hW (Blk.new w _ _) (by simp; omega)) x
  go_enter Try.func16, Try.ntmps16
  go_wp2_with (first
    | (go_at_call 27; refine (takeF _ g b w.heap.size room age ts ((h.keep ((Keep.refl [] w).alloc (.cells #[.int .i64 port] 3)) (by simp) (by simp))) hd hn (onPort port) hcl).mono ?_; rintro e w2 ⟨rfl, hk2, hm2⟩)
    | go_in)
  go_ret
  have hk : Keep [b] w w2 := ((Keep.refl [b] w).alloc _).trans hk2
  exact ⟨rfl, hk, ⟨Keep.blk hk h.blk (by simpa using h.ne), hm2, h.ne⟩⟩
end Fdb
end Go.Proofs.Ytnnpmbjicpndeaa
