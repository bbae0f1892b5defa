/-
  The walk of Due of querier.Asks.
-/
import Derived.Test.YtdpppljobikjhaaDoorAskDueM
import Derived.Deep.LoopGhost
namespace Go.Proofs.YtdpppljobikjhaaDoor
set_option linter.unusedVariables false
set_option linter.unusedSimpArgs false
open Go.RowKit Go.Maps
namespace Ask
open Whl Mp
/-- a question that was told, and where its sources lie -/
abbrev QS := Qn × Nat
def cQ (x : QS) : List Value := [.int .i64 x.1.v, .string x.1.g, .slice (some ⟨x.2, 0, none⟩) x.1.ss.length x.1.ss.length]
theorem lenQ (x : QS) : (cQ x).length = 3 := rfl
theorem oneQ (x : QS) : ∀ u ∈ cQ x, u.oneCell' = true := by
  intro u hu
  simp [cQ] at hu
  rcases hu with rfl | rfl | rfl <;> rfl
def Sq (w : World) (B : Nat) (x : QS) : Prop := B ≤ x.2 ∧ Blk w x.2 22 (x.1.ss.map Value.string).toArray
theorem Sq.keep {ys : List Nat} {w w' : World} {B : Nat} {x : QS} (h : Sq w B x) (hk : Keep ys w w') (hy : ∀ y ∈ ys, y < B ∨ w.heap.size ≤ y) : Sq w' B x := by
  have hl := h.2.lt
  have hb := h.1
  exact ⟨h.1, Keep.blk hk h.2 (fun hm => by have := hy _ hm; omega)⟩
theorem infoQ : (Tryd.prog.info? 52).map (fun i => (i.zero, i.size, i.bytes)) = some (some (.agg #[.int .i64 0, .string ByteArray.empty, .slice none 0 0]), 3, 48) := by kernel_rfl
theorem own_keep {ys : List Nat} {w w' : World} {base n : Nat} {e : TypeId} {size : Nat} {v : Value} {xs : List Value} (h : w.ownsRow base e size v n xs) (hk : Keep ys w w') (hy : ∀ y ∈ ys, y < base) : w'.ownsRow base e size v n xs := by
  obtain ⟨h1, h2⟩ := h
  refine ⟨h1, ?_⟩
  rcases h2 with h2 | ⟨g, cap, cur, rfl, hg, hh, hr⟩
  · exact .inl h2
  · exact .inr ⟨g, cap, cur, rfl, hg, (hk.block g (Array.getElem?_eq_some_iff.1 hh).1 (fun hm => by have := hy g hm; omega)).trans hh, hr⟩
theorem own_apart {w : World} {base base' n n' : Nat} {e e' : TypeId} {size size' : Nat} {v v' : Value} {xs xs' : List Value} (h : w.ownsRow base e size v n xs) (h' : w.ownsRow base' e' size' v' n' xs') (hne : e ≠ e') : v.ownBlock = none ∨ v.ownBlock ≠ v'.ownBlock := by
  rcases h.2 with ⟨rfl, _⟩ | ⟨g, cap, cur, rfl, _, hh, _⟩
  · left; rfl
  · right
    rcases h'.2 with ⟨rfl, _⟩ | ⟨g', cap', cur', rfl, _, hh', _⟩
    · simp [Value.ownBlock]
    · intro he
      have : g = g' := by simpa [Value.ownBlock] using he
      subst this
      rw [hh] at hh'
      injection hh' with hh'
      injection hh' with _ ht
      exact hne ht
def From (ws L : List Pw) : Prop := ∀ y ∈ L, ∃ z ∈ ws, y.key = z.key ∧ y.sl = z.sl ∧ y.q = z.q
/-- what stands behind some tellings -/
structure Mid (w wr : World) (g gw bw bm : Nat) (count gap turn tu : Int) (ws : List Pw) (now : Int) (v : Value) (out : List QS) (ts L : List Pw) (tr : Int) : Prop where
  path : Path gap now (out.map (·.1)) (ws.map doc) (L.map doc)
  on : WhlI.On wr gw bw 200 tr (ts.map tim)
  map : Has E Tryd.prog 3 wr bm L
  apart : Apart E L
  sub : ∀ x ∈ ts, x ∈ L
  frm : From ws L
  ok : ∀ x ∈ L, OkW x
  len : L.length ≤ ws.length
  tr0 : tu ≤ tr
  tr1 : tr ≤ tu + out.length
  own : wr.ownsRow w.heap.size 52 3 v out.length (out.flatMap cQ)
  src : ∀ x ∈ out, Sq wr w.heap.size x
  keep : Keep [gw, bw, bm] w wr
section
variable {w wr w' : World} {g gw bw bm : Nat} {count gap turn tu : Int} {ws : List Pw} {now : Int} {v : Value} {out : List QS} {ts L : List Pw} {tr : Int}
theorem Mid.at_ (h : Mid w wr g gw bw bm count gap turn tu ws now v out ts L tr) (h0 : At w g gw bw bm count gap turn tu ws ws) : At wr g gw bw bm count gap turn tr ts L := h0.told h.keep h.map h.on h.sub h.apart h.frm
/-- only memory was made, or old blocks were written that are not meant here -/
theorem Mid.still (h : Mid w wr g gw bw bm count gap turn tu ws now v out ts L tr) (h0 : At w g gw bw bm count gap turn tu ws ws) (hk : Keep [] wr w') : Mid w w' g gw bw bm count gap turn tu ws now v out ts L tr :=
  ⟨h.path, h.on.keep hk (by simp) (by simp), h.map.block (hk.block bm h.map.lt (by simp)), h.apart, h.sub, h.frm, h.ok, h.len, h.tr0, h.tr1, own_keep h.own hk (by simp), fun x hx => (h.src x hx).keep hk (by simp), h.keep.trans (hk.mono (by simp))⟩
theorem Mid.small (h : Mid w wr g gw bw bm count gap turn tu ws now v out ts L tr) (hok : ∀ x ∈ ws, OkW x) (hl : ws.length ≤ 200) : out.length ≤ 1400 ∧ load (L.map doc) + out.length = load (ws.map doc) := by
  have h1 := (h.path.load (left_doc hok)).1
  have h2 := load_le hok
  rw [List.length_map] at h1
  exact ⟨by omega, h1⟩
end
/-- behind one telling more -/
theorem Mid.next {w wr w3 w4 : World} {g gw bw bm : Nat} {count gap turn tu : Int} {ws : List Pw} {now : Int} {v v4 : Value} {out : List QS} {A1 A3 B : List Pw} {x : Pw} {m tr : Int} {s : Nat} {o : Obj}
    (h : Mid w wr g gw bw bm count gap turn tu ws now v out (late m (A1 ++ x :: A3) ++ B) ((A1 ++ x :: A3) ++ B) tr) (h0 : At w g gw bw bm count gap turn tu ws ws) (hgap : 1 ≤ gap ∧ gap ≤ 1000) (hm : 0 ≤ m ∧ m ≤ 100000) (hxat : x.at_ = m) (hnow : m ≤ now)
    (hA : ∀ y ∈ A1 ++ x :: A3, m ≤ y.at_) (hB : ∀ y ∈ B, m < y.at_) (hA1 : ∀ y ∈ A1, m < y.at_)
    (ht : Told wr w3 g gw bw bm count gap turn tr (late m (A1 ++ x :: A3) ++ B) ((A1 ++ x :: A3) ++ B) x m s) (hg4 : (w3.alloc o).grownBy w4 v.ownBlock) (hown4 : w4.ownsRow w.heap.size 52 3 v4 (out.length + 1) (out.flatMap cQ ++ cQ (x.q, s))) :
    ∃ B' tr', Mid w w4 g gw bw bm count gap turn tu ws now v4 (out ++ [(x.q, s)]) (late m (A1 ++ A3) ++ B') ((A1 ++ A3) ++ B') tr' ∧ ∀ y ∈ B', m < y.at_ := by
  obtain ⟨hs0, hs1, hk3, hcase⟩ := ht
  obtain ⟨hwl, hbl⟩ := h0.on.lt
  have hml := h0.bk.map.lt
  have hwz := h.keep.size
  have hw3z := hk3.size
  have hown3 := own_keep h.own hk3 (by simp; omega)
  have hys : ∀ y ∈ v.ownBlock.toList, w.heap.size ≤ y := fun y hy => own_from hown3 y (by simpa using hy)
  have k34 : Keep v.ownBlock.toList w3 w4 := ((Keep.refl _ w3).alloc o).trans (Keep.of_grown hg4 (fun q hq => by rw [hq]; simp))
  have hin : ∀ y ∈ (A1 ++ A3) ++ B, y ∈ (A1 ++ x :: A3) ++ B := by
    intro y hy
    simp only [List.mem_append, List.mem_cons] at hy ⊢
    rcases hy with (hy | hy) | hy
    · exact Or.inl (Or.inl hy)
    · exact Or.inl (Or.inr (Or.inr hy))
    · exact Or.inr hy
  have hxin : x ∈ (A1 ++ x :: A3) ++ B := by simp
  have hbest := step_best hA hB hA1 (show x.at_ ≤ m by omega)
  have hpath := h.path.snoc hbest.1 hbest.2 (show x.at_ ≤ now by omega)
  rw [step_next (tu := tr), hxat] at hpath
  have hsrc : ∀ y ∈ out ++ [(x.q, s)], Sq w4 w.heap.size y := by
    intro y hy
    have h3 : Sq w3 w.heap.size y := by
      rcases List.mem_append.1 hy with hy | hy
      · exact (h.src y hy).keep hk3 (by simp; omega)
      · simp at hy
        subst hy
        exact ⟨by show w.heap.size ≤ s; omega, hs1⟩
    exact ⟨h3.1, (h3.2.alloc o).grown hg4 (fun e => own_blk_ne (hown3.alloc o) (h3.2.alloc o) (by decide) e.symm)⟩
  have hkeep : Keep [gw, bw, bm] w w4 := (h.keep.trans hk3).then k34 (fun y hy => Or.inr (hys y hy))
  have hown5 : w4.ownsRow w.heap.size 52 3 v4 (out ++ [(x.q, s)]).length ((out ++ [(x.q, s)]).flatMap cQ) := by
    rw [List.length_append, List.flatMap_append]
    simpa using hown4
  have hon4 : ∀ {tr' : Int} {ts : List (Ti Int)}, WhlI.On w3 gw bw 200 tr' ts → WhlI.On w4 gw bw 200 tr' ts := fun h1 => h1.keep k34 (fun hm => by have := hys _ hm; omega) (fun hm => by have := hys _ hm; omega)
  have hmap4 : ∀ {l : List Pw}, Has E Tryd.prog 3 w3 bm l → Has E Tryd.prog 3 w4 bm l := fun h1 => h1.block (k34.block bm h1.lt (fun hm => by have := hys _ hm; omega))
  have hmp : (out ++ [(x.q, s)]).map (·.1) = out.map (·.1) ++ [(doc x).q] := by rw [List.map_append]; rfl
  rw [← hmp] at hpath
  have hstr := strike_mid h.apart
  rcases hcase with ⟨h1, ha⟩ | ⟨h1, ha⟩
  · rw [if_pos h1] at hpath
    have hbk := ha.bk
    rw [hstr] at hbk
    have hon := ha.on
    have hsub := ha.sub
    rw [late_drop (show x.at_ ≤ m by omega)] at hon hsub
    rw [hstr] at hsub
    rw [List.append_assoc] at hon hsub hbk
    rw [List.append_assoc] at hsub
    have hcs : ∀ y ∈ (A1 ++ A3) ++ (B ++ [again gap tr m x]), y ∈ (A1 ++ x :: A3) ++ B ∨ y = again gap tr m x := by
      intro y hy
      rw [← List.append_assoc] at hy
      rcases List.mem_append.1 hy with hy | hy
      · exact Or.inl (hin y hy)
      · simp at hy
        exact Or.inr hy
    refine ⟨B ++ [again gap tr m x], tr + 1, ⟨hpath, hon4 hon, hmap4 hbk.map, hbk.apart, hsub, fun y hy => ?_, fun y hy => ?_, ?_, by have := h.tr0; omega, by have := h.tr1; simp only [List.length_append, List.length_singleton]; omega, hown5, hsrc, hkeep⟩, fun y hy => ?_⟩
    · rcases hcs y hy with h2 | rfl
      · exact h.frm y h2
      · exact h.frm x hxin
    · rcases hcs y hy with h2 | rfl
      · exact h.ok y h2
      · exact (h.ok x hxin).again h1 ⟨by omega, hgap.2⟩ hm
    · have := h.len
      simp only [List.length_append, List.length_cons, List.length_nil] at this ⊢
      omega
    · rcases List.mem_append.1 hy with hy | hy
      · exact hB y hy
      · simp at hy
        subst hy
        show m < m + gap
        omega
  · rw [if_neg h1] at hpath
    have hbk := ha.bk
    rw [hstr] at hbk
    have hon := ha.on
    have hsub := ha.sub
    rw [late_drop (show x.at_ ≤ m by omega)] at hon hsub
    rw [hstr] at hsub
    refine ⟨B, tr, ⟨hpath, hon4 hon, hmap4 hbk.map, hbk.apart, hsub, fun y hy => h.frm y (hin y hy), fun y hy => h.ok y (hin y hy), ?_, h.tr0, by have := h.tr1; simp only [List.length_append, List.length_singleton]; omega, hown5, hsrc, hkeep⟩, hB⟩
    have := h.len
    simp only [List.length_append, List.length_cons] at this ⊢
    omega
def DueDone (w w' : World) (g gw bw bm : Nat) (count gap turn tu : Int) (ws : List Pw) (now : Int) (v : Value) : Prop :=
  ∃ out L tr, Mid w w' g gw bw bm count gap turn tu ws now v out L L tr ∧ Quiet now (L.map doc)
set_option maxHeartbeats 8000000 in
set_option maxRecDepth 20000 in
theorem due_ (w : World) (g gw bw bm : Nat) (count gap turn tu : Int) (ws : List Pw) (h : At w g gw bw bm count gap turn tu ws ws) (hok : ∀ x ∈ ws, OkW x) (hgap : 1 ≤ gap ∧ gap ≤ 1000) (ht1 : turn ≤ 1000000) (hu0 : 0 ≤ tu) (hu1 : tu ≤ 900000) (hl : ws.length ≤ 200) (now : Int) (hnow : now ≤ 100000) :
    Calls Tryd.prog 16 #[.pointer (some ⟨g, 0, none⟩), .int .i64 now] w fun e w' => ∃ v, e = .returned v ∧ DueDone w w' g gw bw bm count gap turn tu ws now v := by
  have HA := Lib.hid h
  have HOK := Lib.hid hok
  obtain ⟨i0, hi, hz0, hz1, hz2⟩ := info_parts infoQ
  obtain ⟨hwl, hbl⟩ := h.on.lt
  have hml := h.bk.map.lt
  have hgl := h.bk.blk.lt
  have lw := h.bk.lw
  have lb := h.bk.lb
  have lm := h.bk.lm
  clear hok
  go_enter Tryd.func16, Tryd.ntmps16
  go_wp2
  go_loopg [5] (load (ws.map doc)) (fun k v wr => ∃ out L tr, Mid w wr g gw bw bm count gap turn tu ws now v out L L tr ∧ load (L.map doc) = k)
  case atStart => exact ⟨[], ws, tu, ⟨rfl, HA.out.on, HA.out.bk.map, HA.out.bk.apart, fun _ h => h, fun y hy => ⟨y, hy, rfl, rfl, rfl⟩, HOK.out, Nat.le_refl _, Int.le_refl _, by simp, ⟨by simp, .inl ⟨rfl, rfl⟩⟩, by simp, Keep.refl _ _⟩, rfl⟩
  case round =>
    obtain ⟨out, L, tr, hmid, hload⟩ := hrel
    have HM := Lib.hid hmid
    have HLD := Lib.hid hload
    have hat := hmid.at_ HA.out
    obtain ⟨hsm, _⟩ := hmid.small HOK.out hl
    have hll := hmid.len
    have ht0 := hmid.tr0
    have ht1' := hmid.tr1
    have hwz := hmid.keep.size
    have e3 : wr.cell? ⟨g, 3, none⟩ = some (.pointer (some ⟨gw, 0, none⟩)) := hat.bk.blk.cell 3
    have hgr := hat.bk.blk.lt
    have hnx := WhlI.nextO hat.on (by simp; omega)
    clear hmid hload hat h
    go_wp2_with fail
    refine hnx.mono ?_
    rintro e w1 ⟨⟨m, is, hnv, rfl⟩, b1⟩
    have hm1 := HM.out.still HA.out (Keep.of_below b1 [])
    have HM1 := Lib.hid hm1
    have z1 := b1.size
    clear hnx e3 b1
    rcases hnv with ⟨hnil, rfl, rfl⟩ | ⟨hnx, rfl⟩
    · have hLn : L = [] := by simpa using hnil
      have HL := Lib.hid hLn
      clear hnil hLn hm1
      go_wp2
      go_ret
      refine ⟨_, rfl, out, L, tr, HM1.out, ?_⟩
      rw [HL.out]
      exact fun x hx => absurd hx (by simp)
    · by_cases hmn : m ≤ now
      · have hmin : ∀ x ∈ L, m ≤ x.at_ := fun x hx => hnx.2 (tim x) (List.mem_map.2 ⟨x, hx, rfl⟩)
        have hm0 : 0 ≤ m ∧ dueL m L ≠ [] := by
          obtain ⟨y, hy, hy2⟩ := hnx.1
          obtain ⟨z, hz, rfl⟩ := List.mem_map.1 hy
          have e : z.at_ = m := hy2
          refine ⟨by have := (HM1.out.ok z hz).2.2.1; omega, fun h0 => ?_⟩
          have := due_none h0 z hz
          omega
        obtain ⟨hm0, hdne⟩ := hm0
        have HMIN := Lib.hid hmin
        have HDNE := Lib.hid hdne
        have hat1 := HM1.out.at_ HA.out
        have e3 : w1.cell? ⟨g, 3, none⟩ = some (.pointer (some ⟨gw, 0, none⟩)) := hat1.bk.blk.cell 3
        have hgr1 := hat1.bk.blk.lt
        have hdu := WhlI.dueO hat1.on (by simp; omega) m
        have hgood := Lib.hid hat1.on.good
        clear hnx hm1 hmin hdne hat1
        go_wp2_with fail
        refine hdu.mono ?_
        rintro e w2 ⟨l, v2, hd, rfl, hown2, k2, on2⟩
        obtain rfl := due_tim hgood.out HMIN.out hd
        rw [late_tim] at on2
        have z2 := k2.size
        rw [List.length_map, List.map_map] at hown2
        have hown2' : w2.ownsRow w1.heap.size 3 1 v2 (dueL m L).length ((dueL m L).map fun x => Value.int .i64 x.key) := hown2
        obtain ⟨A2, c2, rfl, _⟩ := own_form hown2'
        have hdl : (dueL m L).length ≤ 200 := by have := List.length_filter_le (fun x : Pw => decide (x.at_ ≤ m)) L; unfold dueL; omega
        have hstart : Mid w w2 g gw bw bm count gap turn tu ws now u5 out (late m L ++ []) (L ++ []) tr := by
          have hk : Keep [gw, bw, bm] w1 w2 := k2.mono (by simp)
          have hm := HM1.out
          rw [List.append_nil, List.append_nil]
          exact ⟨hm.path, on2, hm.map.block (k2.block bm hm.map.lt (by simp; exact HA.out.bk.n2)), hm.apart, fun x hx => (List.mem_filter.1 hx).1, hm.frm, hm.ok, hm.len, hm.tr0, hm.tr1, own_keep hm.own k2 (by simp; omega), fun x hx => (hm.src x hx).keep k2 (by simp; omega), hm.keep.trans hk⟩
        have HSTART := Lib.hid hstart
        have HOWN2 := Lib.hid hown2'
        clear hdu hd hown2 hown2' k2 on2 e3 hstart
        generalize hD : dueL m L = D at *
        have HD := Lib.hid hD
        clear hD
        go_wp2
        go_loopw [5, 35] (fun v i wr => ∃ (j : Nat) (A B : List Pw) (out' : List QS) (tr' : Int), j ≤ D.length ∧ i = .int .i64 j ∧ D.drop j = dueL m A ∧ (∀ x ∈ A, m ≤ x.at_) ∧ (∀ x ∈ B, m < x.at_) ∧ out'.length = out.length + j ∧
          Mid w wr g gw bw bm count gap turn tu ws now v out' (late m A ++ B) (A ++ B) tr' ∧ wr.ownsRow w1.heap.size 3 1 (.slice A2 D.length c2) D.length (D.map fun x => Value.int .i64 x.key)) (fun _ i _ => D.length - (intOf i).toNat)
        case atStart => exact ⟨0, L, [], out, tr, Nat.zero_le _, rfl, by rw [List.drop_zero]; exact HD.out.symm, HMIN.out, by simp, rfl, HSTART.out, HOWN2.out⟩
        case round =>
          obtain ⟨j, A, B, out', tr', hj, rfl, hdrop, hA, hB, hol, hmid, hrow⟩ := hrel
          have hat := hmid.at_ HA.out
          obtain ⟨hsm', hld'⟩ := hmid.small HOK.out hl
          have HM3 := Lib.hid hmid
          have HA3 := Lib.hid hA
          have HB3 := Lib.hid hB
          have HDR := Lib.hid hdrop
          have HROW := Lib.hid hrow
          have HLD' := Lib.hid hld'
          have hll' := hmid.len
          have hwz2 := hmid.keep.size
          have htr0 := hmid.tr0
          have htr1 := hmid.tr1
          by_cases hlt : j < D.length
          · have hlt' : (j : Int) < (D.length : Int) := by omega
            have hdr2 := hdrop
            rw [List.drop_eq_getElem_cons hlt] at hdr2
            generalize hx : D[j] = x at hdr2
            obtain ⟨A1, A3, rfl, hA1, hA3, hxm⟩ := due_split hdr2.symm
            have hxin : x ∈ (A1 ++ x :: A3) ++ B := by simp
            have hxat : x.at_ = m := by have := hA x (by simp); omega
            have hxok := hmid.ok x hxin
            obtain ⟨gk, ck, hvk, _, _, _, hrk⟩ := Row.of_own hrow (by omega)
            cases hvk
            have d0 : wr.cell? ⟨gk, j, none⟩ = some (.int .i64 x.key) := hrk.cell (by rw [List.getElem?_map, List.getElem?_eq_getElem hlt, hx]; rfl)
            have hlate := late_drop (A1 := A1) (A2 := A3) hxm
            have hno : ∀ y ∈ late m (A1 ++ x :: A3) ++ B, y.key ≠ x.key := by
              intro y hy e
              rcases List.mem_append.1 hy with hy1 | hy1
              · have h2 := List.mem_filter.1 hy1
                have h4 := of_decide_eq_true h2.2
                have h3 := apart_ne hmid.apart (List.mem_append_left B h2.1) hxin e
                rw [h3] at h4
                omega
              · have h4 := hB y hy1
                have h3 := apart_ne hmid.apart (List.mem_append_right _ hy1) hxin e
                rw [h3] at h4
                omega
            have hlen1 : (late m (A1 ++ x :: A3) ++ B).length < 200 := by
              rw [hlate]
              have := List.length_filter_le (fun y : Pw => decide (m < y.at_)) (A1 ++ A3)
              have h2 := hmid.len
              simp only [List.length_append, List.length_cons] at this h2 ⊢
              unfold late
              omega
            have htold := told_ wr g gw bw bm count gap turn tr' _ _ hat x hxin hno m hm0 (by omega) (by omega) hgap.2 ht1 (by omega) (by omega) (by omega) hlen1 hxok.1.1 hxok.1.2 hxok.2.1
            have q3 : out'.length + 1 ≤ maxLen := by unfold maxLen; omega
            have q4 : (out'.length + 1) * 48 ≤ 140737488355328 := by omega
            have HDN := Lib.hid (show D.drop (j + 1) = dueL m (A1 ++ A3) by
              rw [due_drop hA1, hA3])
            have HA1 := Lib.hid hA1
            have HXAT := Lib.hid hxat
            have HOL := Lib.hid hol
            clear hdrop hdr2 hx hA hB hA1 hA3 hxat hol hlate hno hlen1 hrk hrow hmid hat hld'
            go_wp2_with (first
              | (go_at_call 29; refine htold.mono ?_; rintro e w3 ⟨s, rfl, ht3⟩; have k3 := ht3.2.2.1; have z3 := k3.size; have HOWN3 := Lib.hid (own_keep HM3.out.own k3 (by simp; omega)); have HROW3 := Lib.hid (own_keep HROW.out k3 (by simp; omega)); have HT3 := Lib.hid ht3; clear k3 ht3)
              | (at_builtin; refine wpList_append_own _ rfl (.tmp 39) (.tmp 44) 54 rfl w.heap.size 52 i0 _ 3 48 Tryd.underlying54 hi hz0 hz1 hz2 rfl (by omega) u5 out'.length _ rfl (HOWN3.out.alloc _) ⟨w3.heap.size, 0, none⟩ 1 1 (cQ (x.q, s)) rfl rfl (new_cells' _ (cQ (x.q, s)) 52 _ (by simp)) (oneQ _) q3 q4 (by simp; omega) ?_; intro v4 w4 hown4 hg4 _)
              | go_in)
            obtain ⟨B', tr4, hmid4, hB4⟩ := HM3.out.next HA.out hgap ⟨hm0, by omega⟩ HXAT.out hmn HA3.out HB3.out HA1.out HT3.out hg4 hown4
            have hrow4 := (HROW3.out.alloc (.cells (cQ (x.q, s)).toArray 52)).kept hg4 (own_apart (HROW3.out.alloc (.cells (cQ (x.q, s)).toArray 52)) (HOWN3.out.alloc (.cells (cQ (x.q, s)).toArray 52)) (by decide))
            refine ⟨⟨j + 1, A1 ++ A3, B', out' ++ [(x.q, s)], tr4, by omega, by go_num, HDN.out, fun y hy => HA3.out y (by simp only [List.mem_append, List.mem_cons] at hy ⊢; rcases hy with h | h; exact Or.inl h; exact Or.inr (Or.inr h)), hB4, by have := HOL.out; simp only [List.length_append, List.length_singleton]; omega, hmid4, hrow4⟩, by simp [intOf]; omega⟩
          · have ej : j = D.length := by omega
            have hnone : dueL m A = [] := by rw [← hdrop]; exact List.drop_of_length_le (by omega)
            have hlt' : ¬ (j : Int) < (D.length : Int) := by omega
            have hmid9 := hmid
            rw [late_all (due_none hnone)] at hmid9
            have HM9 := Lib.hid hmid9
            have hdl2 : 0 < D.length := by
              rcases Nat.eq_zero_or_pos D.length with h0 | h0
              · exact absurd (List.eq_nil_of_length_eq_zero h0) HDNE.out
              · exact h0
            have hld9 : load ((A ++ B).map doc) < gk := by
              have h1 := (HM.out.small HOK.out hl).2
              have h2 := HLD.out
              omega
            clear hdrop hnone hmid hmid9 hrow hol hat hld' ej hA hB
            go_wp2
            go_roundg (load ((A ++ B).map doc))
            case measure => exact hld9
            case rel => exact ⟨out', A ++ B, tr', HM9.out, rfl⟩
      · have HNX := Lib.hid hnx
        clear hnx hm1
        go_wp2
        go_ret
        refine ⟨_, rfl, out, L, tr, HM1.out, fun x hx => ?_⟩
        obtain ⟨z, hz, rfl⟩ := List.mem_map.1 hx
        have h2 := HNX.out.2 (tim z) (List.mem_map.2 ⟨z, hz, rfl⟩)
        have h3 : m ≤ z.at_ := h2
        show now < z.at_
        omega
end Ask
end Go.Proofs.YtdpppljobikjhaaDoor
