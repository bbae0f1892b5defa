/-
  The walk of the program's Rest.
-/
import Derived.Test.YtdgbemafhhhceaaTreePSettle
import Derived.Test.YtdgbemafhhhceaaTreeRRest
namespace Go.Proofs.Ytdgbemafhhhceaa
set_option linter.unusedVariables false
set_option linter.unusedSimpArgs false
open Go.RowKit
open Go.Proofs.Ytdgbemafhhhceaa.Prio
namespace Tree
theorem row_own {w : World} {base g n cap size : Nat} {t : TypeId} {xs : List Value} (h : w.ownsRow base t size (.slice (some ⟨g, 0, none⟩) n cap) n xs) : Row w g t xs := by
  obtain ⟨hl, ⟨h0, _⟩ | ⟨g', cap', cur, hv, _, hg, _, _, _, hx⟩⟩ := h
  · cases h0
  · cases hv
    exact ⟨cur, hg, by rw [hl]; exact hx⟩
theorem made2 (n : Nat) : (madeCells (Value.agg #[.int .i64 0, .int .i64 0]).cells (n * 2)).toList = (List.replicate n ((0 : Int), (0 : Int))).flatMap cells2 := by
  have e0 : (madeCells (Value.agg #[.int .i64 0, .int .i64 0]).cells (n * 2)).toList = List.replicate (n * 2) (Value.int .i64 0) := by
    apply List.ext_getElem?
    intro i
    simp only [madeCells, Array.toList_map, Array.toList_range, List.getElem?_map, List.getElem?_replicate]
    by_cases hi : i < n * 2
    · rw [List.getElem?_range hi, if_pos hi]
      have e3 : i % (Value.agg #[.int .i64 0, .int .i64 0]).cells.size < 2 := Nat.mod_lt _ (by decide)
      simp only [Option.map_some]
      generalize i % (Value.agg #[.int .i64 0, .int .i64 0]).cells.size = r at *
      rcases (show r = 0 ∨ r = 1 by omega) with rfl | rfl <;> rfl
    · rw [List.getElem?_eq_none (by simp; omega), if_neg hi]
      rfl
  rw [e0]
  induction n with
  | zero => rfl
  | succ n ih =>
    have hh : ∀ m, List.replicate (m * 2) (Value.int .i64 0) = (List.replicate m ((0 : Int), (0 : Int))).flatMap cells2 := by
      intro m
      induction m with
      | zero => rfl
      | succ m ih2 => rw [show (m + 1) * 2 = m * 2 + 1 + 1 by omega, List.replicate_succ, List.replicate_succ, ih2, List.replicate_succ, List.flatMap_cons]; rfl
    exact hh _
/-- the side of a link that a side of the list is -/
theorem side_link : ∀ (ls : List Lk) (k : Nat), k ≤ ls.length → ∀ s ∈ sidesTo ls k, ∃ i l, i < k ∧ ls[i]? = some l ∧ s.link = (i : Int) ∧ (s.first = true → s.at_ = l.a ∧ s.port = l.pa) ∧ (s.first = false → s.at_ = l.b ∧ s.port = l.pb)
  | _, 0, _, s, h => by simp [sidesTo] at h
  | ls, k + 1, hk, s, h => by
    have hl : ls[k]? = some ls[k] := List.getElem?_eq_getElem (by omega)
    rw [sidesTo_step hl] at h
    rcases List.mem_append.1 h with h | h
    · obtain ⟨i, l, h1, h2⟩ := side_link ls k (by omega) s h
      exact ⟨i, l, by omega, h2⟩
    · simp [sd2] at h
      rcases h with rfl | rfl
      · exact ⟨k, _, by omega, hl, rfl, fun _ => ⟨rfl, rfl⟩, fun h => by cases h⟩
      · exact ⟨k, _, by omega, hl, rfl, (fun h => by cases h), fun _ => ⟨rfl, rfl⟩⟩
theorem side_mem : ∀ (ls : List Lk) (k : Nat), k ≤ ls.length → ∀ (i : Nat) l, i < k → ls[i]? = some l → (⟨l.a, l.pa, l.b, l.pb, l.cost, i, true⟩ : Sd) ∈ sidesTo ls k ∧ (⟨l.b, l.pb, l.a, l.pa, l.cost, i, false⟩ : Sd) ∈ sidesTo ls k
  | _, 0, _, i, l, h, _ => by omega
  | ls, k + 1, hk, i, l, h, hl => by
    have hlk : ls[k]? = some ls[k] := List.getElem?_eq_getElem (by omega)
    rw [sidesTo_step hlk]
    by_cases hi : i < k
    · obtain ⟨h1, h2⟩ := side_mem ls k (by omega) i l hi hl
      exact ⟨List.mem_append_left _ h1, List.mem_append_left _ h2⟩
    · have e : i = k := by omega
      subst e
      rw [hlk] at hl
      cases hl
      exact ⟨List.mem_append_right _ (by simp [sd2]), List.mem_append_right _ (by simp [sd2])⟩
/-- the sides of the list L have been written -/
structure RW (ids : List Int) (ls : List Lk) (L : List Sd) (out : List (Int × Int)) : Prop where
  len : out.length = ls.length
  at_ : ∀ (i : Nat) l p, ls[i]? = some l → out[i]? = some p → (∀ s ∈ L, s.link = (i : Int) → s.first = true → p.1 = (pairOf ids ls l).1) ∧ (∀ s ∈ L, s.link = (i : Int) → s.first = false → p.2 = (pairOf ids ls l).2)
section
variable {ids : List Int} {ls : List Lk} {L : List Sd} {out : List (Int × Int)}
theorem RW.start (ids : List Int) (ls : List Lk) : RW ids ls [] (List.replicate ls.length (0, 0)) := ⟨by simp, fun _ _ _ _ _ => ⟨by simp, by simp⟩⟩
theorem RW.first (h : RW ids ls L out) {s : Sd} (hf : s.first = true) {i : Nat} (hi : s.link = (i : Int)) {l : Lk} (hl : ls[i]? = some l) {p : Int × Int} (hp : out[i]? = some p) {r : Int} (hr : r = (pairOf ids ls l).1) : RW ids ls (L ++ [s]) (out.set i (r, p.2)) := by
  refine ⟨by simp [h.len], fun j l' q hl' hq => ?_⟩
  by_cases hj : j = i
  · subst hj
    rw [hl] at hl'
    cases hl'
    rw [set_at _ hp] at hq
    cases hq
    refine ⟨fun _ _ _ _ => hr, fun t ht h1 h2 => ?_⟩
    rcases List.mem_append.1 ht with ht | ht
    · exact (h.at_ j l p hl hp).2 t ht h1 h2
    · simp at ht
      subst ht
      rw [hf] at h2
      cases h2
  · rw [List.getElem?_set_ne (Ne.symm hj)] at hq
    obtain ⟨h1, h2⟩ := h.at_ j l' q hl' hq
    have hx : ∀ t ∈ L ++ [s], t.link = (j : Int) → t ∈ L := fun t ht e => by
      rcases List.mem_append.1 ht with ht | ht
      · exact ht
      · simp at ht
        subst ht
        rw [hi] at e
        omega
    exact ⟨fun t ht e f => h1 t (hx t ht e) e f, fun t ht e f => h2 t (hx t ht e) e f⟩
theorem RW.second (h : RW ids ls L out) {s : Sd} (hf : s.first = false) {i : Nat} (hi : s.link = (i : Int)) {l : Lk} (hl : ls[i]? = some l) {p : Int × Int} (hp : out[i]? = some p) {r : Int} (hr : r = (pairOf ids ls l).2) : RW ids ls (L ++ [s]) (out.set i (p.1, r)) := by
  refine ⟨by simp [h.len], fun j l' q hl' hq => ?_⟩
  by_cases hj : j = i
  · subst hj
    rw [hl] at hl'
    cases hl'
    rw [set_at _ hp] at hq
    cases hq
    refine ⟨fun t ht h1 h2 => ?_, fun _ _ _ _ => hr⟩
    rcases List.mem_append.1 ht with ht | ht
    · exact (h.at_ j l p hl hp).1 t ht h1 h2
    · simp at ht
      subst ht
      rw [hf] at h2
      cases h2
  · rw [List.getElem?_set_ne (Ne.symm hj)] at hq
    obtain ⟨h1, h2⟩ := h.at_ j l' q hl' hq
    have hx : ∀ t ∈ L ++ [s], t.link = (j : Int) → t ∈ L := fun t ht e => by
      rcases List.mem_append.1 ht with ht | ht
      · exact ht
      · simp at ht
        subst ht
        rw [hi] at e
        omega
    exact ⟨fun t ht e f => h1 t (hx t ht e) e f, fun t ht e f => h2 t (hx t ht e) e f⟩
theorem RW.all (h : RW ids ls L out) (hL : ∀ s ∈ sidesOf ls, s ∈ L) : out = restOf ids ls := by
  apply List.ext_getElem?
  intro i
  unfold restOf
  rw [List.getElem?_map]
  by_cases hi : i < ls.length
  · obtain ⟨l, hl⟩ : ∃ l, ls[i]? = some l := ⟨_, List.getElem?_eq_getElem hi⟩
    obtain ⟨p, hp⟩ : ∃ p, out[i]? = some p := ⟨_, List.getElem?_eq_getElem (by rw [h.len]; exact hi)⟩
    obtain ⟨m1, m2⟩ := side_mem ls ls.length (Nat.le_refl _) i l hi hl
    obtain ⟨h1, h2⟩ := h.at_ i l p hl hp
    have e1 := h1 _ (hL _ m1) rfl rfl
    have e2 := h2 _ (hL _ m2) rfl rfl
    rw [hl, hp]
    simp only [Option.map_some]
    rw [← Prod.eta p, e1, e2]
  · rw [List.getElem?_eq_none (by rw [h.len]; omega), List.getElem?_eq_none (by omega)]
    rfl
end
theorem rest_bad (A1 : Option Addr) (n c1 : Nat) (ids : List Int) (A2 : Option Addr) (m c2 : Nat) (ls : List Lk) (w : World) (h1 : Reads w w.heap.size 1 A1 n (ids.map (Value.int .u64))) (h2 : Reads w w.heap.size 5 A2 m (ls.flatMap cellsL)) (hwf : ∀ x ∈ ids, (Lit.int .u64 x).wf = true) (hno : ¬ May ids ls) :
    Calls Try.prog 13 #[.slice A1 n c1, .slice A2 m c2] w fun e w' => e = .returned (.tuple #[.slice none 0 0, .int .i64 3]) ∧ Below w.heap.size w w' := by
  have HC := Lib.hid (pcheck_ A1 n c1 ids A2 m c2 ls w h1 h2 hwf)
  rw [chk_no hno] at HC
  clear h1 h2 hwf hno
  go_enter Try.func13, Try.ntmps13
  go_wp2_with fail
  refine HC.out.mono ?_
  rintro e w1 ⟨rfl, b1⟩
  go_wp2
  go_ret2
  exact ⟨rfl, b1⟩
/-- all sides of the bridges before one, and of that one's the first j -/
def doneTo (bs : List Br) (k : Nat) : List Sd := (bs.take k).flatMap (·.sd)
theorem doneTo_step {bs : List Br} {k : Nat} {b : Br} (h : bs[k]? = some b) : doneTo bs (k + 1) = doneTo bs k ++ b.sd := by
  obtain ⟨hk, e⟩ := List.getElem?_eq_some_iff.1 h
  unfold doneTo
  rw [List.take_succ_eq_append_getElem hk, List.flatMap_append, e]
  simp
theorem done_all {ids : List Int} {vs : List Vec} {ls : List Lk} {bs : List Br} (h : Bs ids vs (sidesOf ls) bs) (hm : May ids ls) : ∀ s ∈ sidesOf ls, s ∈ doneTo bs bs.length := by
  intro s hs
  obtain ⟨hok, _, _⟩ := side_ok hm hs
  have ha0 : 0 ≤ s.at_ := hok.a0
  have ha1 : s.at_ < ids.length := hok.a1
  obtain ⟨a, ha⟩ : ∃ a : Nat, s.at_ = a := ⟨s.at_.toNat, by omega⟩
  obtain ⟨b, hb⟩ : ∃ b, bs[a]? = some b := ⟨_, List.getElem?_eq_getElem (by rw [h.len]; omega)⟩
  unfold doneTo
  rw [List.take_length]
  refine List.mem_flatMap.2 ⟨b, List.mem_of_getElem? hb, (h.sd a b hb).mem_iff.2 (List.mem_filter.2 ⟨hs, decide_eq_true ha⟩)⟩
/-- only one block was written, and blocks were made -/
def OnlyG (g : Nat) (w w' : World) : Prop := Keep [g] w w'
theorem OnlyG.refl (g : Nat) (w : World) : OnlyG g w w := Keep.refl [g] w
theorem take_snoc' {α : Type} {l : List α} {k : Nat} {x : α} (h : l[k]? = some x) : l.take (k + 1) = l.take k ++ [x] := by
  obtain ⟨hk, e⟩ := List.getElem?_eq_some_iff.1 h
  rw [List.take_succ_eq_append_getElem hk, e]
theorem row2_at {w : World} {g : Nat} {t : TypeId} {xs : List (Int × Int)} (h : Row w g t (xs.flatMap cells2)) {k : Nat} {p : Int × Int} (hp : xs[k]? = some p) : w.cell? ⟨g, k * 2, none⟩ = some (.int .i64 p.1) ∧ w.cell? ⟨g, k * 2 + 1, none⟩ = some (.int .i64 p.2) := ⟨h.at_ len2 hp (j := 0) (by omega) rfl, h.at_ len2 hp (by omega) rfl⟩
theorem net_far {w : World} {base N g : Nat} {bs : List Br} {T : TypeId} {ys : List Value} (h : NetAt w base N bs) (hr : Row w g T ys) (h1 : 69 ≠ T) (h2 : 64 ≠ T) (j : Nat) (u : Value) : NetAt (w.setCell ⟨g, j, none⟩ u) base N bs := by
  have hne : N ≠ g := by
    intro e
    subst e
    obtain ⟨c1, k1, _⟩ := h.row
    obtain ⟨c2, k2, _⟩ := hr
    exact Blk.ne_ (t := 64) (cs := c1) (t' := T) (cs' := c2) k1 k2 h2 rfl
  exact ⟨h.row.far (p := ⟨g, j, none⟩) hne u, h.lo, fun i b hb => ownsRow_setCell_other (h.own i b hb) (a := ⟨g, j, none⟩) (row_ne (h.own i b hb) hr h1) u, h.apart⟩
set_option maxHeartbeats 16000000 in
set_option maxRecDepth 100000 in
theorem rest_lo (A1 : Option Addr) (n c1 : Nat) (ids : List Int) (A2 : Option Addr) (m c2 : Nat) (ls : List Lk) (w : World) (h1 : Reads w w.heap.size 1 A1 n (ids.map (Value.int .u64))) (h2 : Reads w w.heap.size 5 A2 m (ls.flatMap cellsL)) (hwf : ∀ x ∈ ids, (Lit.int .u64 x).wf = true) (hmay : May ids ls) :
    Calls Try.prog 13 #[.slice A1 n c1, .slice A2 m c2] w fun e w' => (∃ A' c', e = .returned (.tuple #[.slice A' m c', .int .i64 0]) ∧ Reads w' w'.heap.size 2 A' m ((restOf ids ls).flatMap cells2) ∧ ∀ ad, A' = some ad → w.heap.size ≤ ad.block) ∧ Below w.heap.size w w' := by
  obtain ⟨i0, hi, hz0, hz1, hz2⟩ := info_parts info2
  have hl1 := len_ids h1
  have hl2 := len_of h2
  have hn : n ≤ 12 := by have := hmay.n2; omega
  have hm : m ≤ 40 := by have := hmay.l; omega
  have HM := Lib.hid hmay
  have HL1 := Lib.hid hl1
  have HL2 := Lib.hid hl2
  have HC := Lib.hid (pcheck_ A1 n c1 ids A2 m c2 ls w h1 h2 hwf)
  rw [chk_yes hmay] at HC
  have b2 : i0.bytes * m ≤ 281474976710656 := by rw [hz2]; omega
  clear hmay hl1 hl2 hwf
  go_enter Try.func13, Try.ntmps13
  go_wp2_with fail
  refine HC.out.mono ?_
  rintro e w1 ⟨rfl, b1⟩
  have z1 := b1.size
  have k1 := (h1.below b1).more z1
  have k2 := (h2.below b1).more z1
  have HB1 := Lib.hid b1
  clear h1 h2 b1
  go_wp2_with fail
  refine (read_ A1 n c1 ids A2 m c2 ls w1 k1 k2 HM.out).mono ?_
  rintro e w2 ⟨⟨N, cap, bs0, rfl, hnet0, hbs0⟩, b2'⟩
  have z2 := b2'.size
  have HB2 := Lib.hid (HB1.out.trans (b2'.mono z1))
  have hlo := hnet0.lo
  clear k1 k2 b2'
  go_wp2_with fail
  refine (settle_ w2 w1.heap.size N n cap ids ls bs0 hnet0 HM.out hbs0 HL1.out).mono ?_
  rintro e w3 ⟨rfl, bs, hnet, hbs, b3⟩
  have HNET := Lib.hid hnet
  have HBS := Lib.hid hbs
  have HB3 := Lib.hid (HB2.out.trans (b3.mono z1))
  have hz3 : w.heap.size ≤ w3.heap.size := HB3.out.size
  have hbl : bs.length = n := by rw [hbs.len, HL1.out]
  clear hnet0 hbs0 hnet hbs b3
  · go_wp2_with (at_make; refine wpList_make_full _ rfl (.tmp 27) (.tmp 27) 30 rfl w3.heap.size 38 i0 _ 2 Try.underlying30 hi hz0 hz1 .i64 .i64 _ _ m rfl rfl rfl rfl b2 (by unfold maxLen; omega) (Nat.le_refl _) ?_; intro w4 hown hg4; rw [made2] at hown; have HROW := Lib.hid (row_own hown); have HG4 := Lib.hid (below_of_grown' hg4); have hz4 := hg4.size; clear hown hg4)
    have HR4 := HROW
    have HN4 := Lib.hid (HNET.out.keep HG4.out)
    have HRW0 : Hid (RW ids ls [] (List.replicate m (0, 0))) := Lib.hid (by rw [← HL2.out]; exact RW.start ids ls)
    clear HROW
    go_loopw [31] (fun i wr => ∃ (k : Nat) (out : List (Int × Int)), k ≤ n ∧ i = .int .i64 k ∧ NetAt wr w1.heap.size N bs ∧ RW ids ls (doneTo bs k) out ∧ Row wr w3.heap.size 38 (out.flatMap cells2) ∧ Below w3.heap.size w3 wr) (fun i _ => n - (intOf i).toNat)
    case atStart => exact ⟨0, _, Nat.zero_le _, rfl, HN4.out, by unfold doneTo; simpa using HRW0.out, HR4.out, HG4.out⟩
    case round =>
      clear HR4 HN4 HRW0 HG4
      obtain ⟨k, out, hk, rfl, hnet, hrw, hrow, hbel⟩ := hrel
      have HNET4 := Lib.hid hnet
      have HRW := Lib.hid hrw
      have HROW := Lib.hid hrow
      have HB4 := Lib.hid hbel
      have hgl := hrow.lt
      by_cases hlt : k < n
      · have hlt' : (k : Int) < (n : Int) := by omega
        obtain ⟨b, hb⟩ : ∃ b, bs[k]? = some b := ⟨_, List.getElem?_eq_getElem (by omega)⟩
        obtain ⟨hsd, hsl⟩ := HBS.out.ok HM.out hb
        rw [HL1.out] at hsd
        obtain ⟨bi, bv, bd, bb⟩ := b
        obtain ⟨As, cs, hv, _⟩ := own_form (hnet.own k _ hb)
        obtain rfl : bv = .slice As bd.length cs := hv
        obtain ⟨x0, x1, x2, x3, x4, x5⟩ := br_cells hnet hb
        simp only at x0 x1 x2 x3 x4 x5
        have HRB : Hid (rolesB ids ls k = rolesOf bi (heardS (bs.map (·.id)) (bs.map (·.best)) bd)) := Lib.hid (by
          have e1 := heard_same HM.out (atRest ids ls) (HBS.out.sd k _ hb)
          have e2 : ids[k]? = some bi := by rw [← HBS.out.ids, List.getElem?_map, hb]; rfl
          unfold rolesB
          rw [HBS.out.ids, HBS.out.best, Int.toNat_natCast, getD_of e2, ← e1])
        have HNETa := Lib.hid (hnet.alloc (.cells #[.int .u64 bi, .slice As bd.length cs, .int .u64 bb.root, .int .i64 bb.cost, .int .u64 bb.bridge, .int .i64 bb.port] 64))
        have HROWa := Lib.hid (hrow.alloc (.cells #[.int .u64 bi, .slice As bd.length cs, .int .u64 bb.root, .int .i64 bb.cost, .int .u64 bb.bridge, .int .i64 bb.port] 64))
        have HBa := Lib.hid (hbel.alloc hbel.size (.cells #[.int .u64 bi, .slice As bd.length cs, .int .u64 bb.root, .int .i64 bb.cost, .int .u64 bb.bridge, .int .i64 bb.port] 64))
        have HBXa := Lib.hid (Blk.new wr 64 #[.int .u64 bi, .slice As bd.length cs, .int .u64 bb.root, .int .i64 bb.cost, .int .u64 bb.bridge, .int .i64 bb.port])
        have hza : wr.heap.size < (wr.alloc (.cells #[.int .u64 bi, .slice As bd.length cs, .int .u64 bb.root, .int .i64 bb.cost, .int .u64 bb.bridge, .int .i64 bb.port] 64)).heap.size := by simp
        have HSD := Lib.hid hsd
        have HBK := Lib.hid hb
        have hsl2 : bd.length ≤ 200 := hsl
        clear hnet hb hrow hbel hsd hsl hrw
        go_upto_region 10 with (fail)
        clear x0 x1 x2 x3 x4 x5
        generalize wr.alloc (.cells #[.int .u64 bi, .slice As bd.length cs, .int .u64 bb.root, .int .i64 bb.cost, .int .u64 bb.bridge, .int .i64 bb.port] 64) = W at *
        have HC := Lib.hid (hears_ W.drew w1.heap.size N n cap bs HNETa.out.drew hbl k _ HBK.out HSD.out hsl2 bi bb)
        have HRC : Hid (∀ (W : World) (A6 : Option Addr) (c6 : Nat), Reads W W.heap.size 6 A6 16 ((heardS (bs.map (·.id)) (bs.map (·.best)) bd).flatMap cellsH) → Calls Try.prog 25 #[.int .u64 bi, .slice A6 16 c6] W fun e w' => (∃ A' c', e = .returned (.slice A' 16 c') ∧ Reads w' w'.heap.size 1 A' 16 ((rolesB ids ls k).map (Value.int .i64)) ∧ ∀ ad, A' = some ad → W.heap.size ≤ ad.block) ∧ Below W.heap.size W w') := Lib.hid (fun W A6 c6 hR => by
          rw [HRB.out]
          exact roles_lo bi A6 16 c6 _ W (by omega) hR)
        have n0 : W.cell? ⟨wr.heap.size, 0, none⟩ = some (.int .u64 bi) := HBXa.out.cell 0
        have n1 : W.cell? ⟨wr.heap.size, 1, none⟩ = some (.slice As bd.length cs) := HBXa.out.cell 1
        have n2 : W.cell? ⟨wr.heap.size, 2, none⟩ = some (.int .u64 bb.root) := HBXa.out.cell 2
        have n3 : W.cell? ⟨wr.heap.size, 3, none⟩ = some (.int .i64 bb.cost) := HBXa.out.cell 3
        have n4 : W.cell? ⟨wr.heap.size, 4, none⟩ = some (.int .u64 bb.bridge) := HBXa.out.cell 4
        have n5 : W.cell? ⟨wr.heap.size, 5, none⟩ = some (.int .i64 bb.port) := HBXa.out.cell 5
        go_region_held3 (fun w' => w'.cell? ⟨wr.heap.size, 0, none⟩ = some (.int .u64 bi) ∧ w'.cell? ⟨wr.heap.size, 1, none⟩ = some (.slice As bd.length cs) ∧ w'.cell? ⟨wr.heap.size, 2, none⟩ = some (.int .u64 bb.root) ∧ w'.cell? ⟨wr.heap.size, 3, none⟩ = some (.int .i64 bb.cost) ∧ w'.cell? ⟨wr.heap.size, 4, none⟩ = some (.int .u64 bb.bridge) ∧ w'.cell? ⟨wr.heap.size, 5, none⟩ = some (.int .i64 bb.port))
          (first
            | go_keep
            | (simp [m0, m1, m2, m3, m4, m5]; done)
            | (simp [l0, l1, l2, l3, l4, l5]; done))
          (first
            | (go_at_call 26; (with_reducible refine HC.out.mono ?_); rintro e' w5 ⟨⟨A6, c6, rfl, hR6⟩, hb3⟩; have z3 : W.heap.size ≤ w5.heap.size := hb3.size; have m0 : w5.cell? ⟨wr.heap.size, 0, none⟩ = some (.int .u64 bi) := ((bcell hb3).1 _ _ (by simpa using hza)).trans n0; have m1 : w5.cell? ⟨wr.heap.size, 1, none⟩ = some (.slice As bd.length cs) := ((bcell hb3).1 _ _ (by simpa using hza)).trans n1; have m2 : w5.cell? ⟨wr.heap.size, 2, none⟩ = some (.int .u64 bb.root) := ((bcell hb3).1 _ _ (by simpa using hza)).trans n2; have m3 : w5.cell? ⟨wr.heap.size, 3, none⟩ = some (.int .i64 bb.cost) := ((bcell hb3).1 _ _ (by simpa using hza)).trans n3; have m4 : w5.cell? ⟨wr.heap.size, 4, none⟩ = some (.int .u64 bb.bridge) := ((bcell hb3).1 _ _ (by simpa using hza)).trans n4; have m5 : w5.cell? ⟨wr.heap.size, 5, none⟩ = some (.int .i64 bb.port) := ((bcell hb3).1 _ _ (by simpa using hza)).trans n5; have HD := Lib.hid (HRC.out w5 A6 c6 hR6); have HW3 := Lib.hid hb3; clear hR6 hb3)
            | (go_at_call 25; (with_reducible refine HD.out.mono ?_); rintro e' w6 ⟨⟨A7, c7, rfl, hR7, hF7⟩, hb4⟩; have HF7 := Lib.hid hF7; clear hF7; have l0 : w6.cell? ⟨wr.heap.size, 0, none⟩ = some (.int .u64 bi) := ((bcell hb4).1 _ _ (by omega)).trans m0; have l1 : w6.cell? ⟨wr.heap.size, 1, none⟩ = some (.slice As bd.length cs) := ((bcell hb4).1 _ _ (by omega)).trans m1; have l2 : w6.cell? ⟨wr.heap.size, 2, none⟩ = some (.int .u64 bb.root) := ((bcell hb4).1 _ _ (by omega)).trans m2; have l3 : w6.cell? ⟨wr.heap.size, 3, none⟩ = some (.int .i64 bb.cost) := ((bcell hb4).1 _ _ (by omega)).trans m3; have l4 : w6.cell? ⟨wr.heap.size, 4, none⟩ = some (.int .u64 bb.bridge) := ((bcell hb4).1 _ _ (by omega)).trans m4; have l5 : w6.cell? ⟨wr.heap.size, 5, none⟩ = some (.int .i64 bb.port) := ((bcell hb4).1 _ _ (by omega)).trans m5; have HW4 := Lib.hid ((Below.refl W.heap.size W).drew.trans (HW3.out.trans (hb4.mono z3))); have HR7 := Lib.hid hR7; clear hR7 hb4))
        have hz6 := HW4.out.size
        have hz5 := HW3.out.size
        have HROW6 := Lib.hid (HROWa.out.below HW4.out (by omega))
        have HNET6 := Lib.hid (HNETa.out.keep HW4.out)
        have HB6 := Lib.hid (HBa.out.trans (HW4.out.mono (by omega)))
        have hB6z : w3.heap.size ≤ w6.heap.size := HB6.out.size
        have hgl6 := HROW6.out.lt
        clear n0 n1 n2 n3 n4 n5 m0 m1 m2 m3 m4 m5 HC HD
        go_wp2
        go_loopw [44] (fun i wk => ∃ (j : Nat) (out : List (Int × Int)), j ≤ bd.length ∧ i = .int .i64 j ∧ NetAt wk w1.heap.size N bs ∧ RW ids ls (doneTo bs k ++ bd.take j) out ∧ Row wk w3.heap.size 38 (out.flatMap cells2) ∧ OnlyG w3.heap.size w6 wk) (fun i _ => bd.length - (intOf i).toNat)
        case atStart => exact ⟨0, out, Nat.zero_le _, rfl, HNET6.out, by simpa using HRW.out, HROW6.out, OnlyG.refl _ _⟩
        case round =>
          obtain ⟨j, out2, hj, rfl, hnet, hrw, hrow, hbel⟩ := hrel
          have HNET7 := Lib.hid hnet
          have HRW7 := Lib.hid hrw
          have HROW7 := Lib.hid hrow
          have HB7 := Lib.hid hbel
          by_cases hjl : j < bd.length
          · have hjl' : (j : Int) < (bd.length : Int) := by omega
            obtain ⟨gs, sv, hA, hgs, hs, t0, t1, t2, t3, t4, t5, t6⟩ := side_cells (hnet.own k _ HBK.out) hjl
            cases hA
            have hsm := List.mem_of_getElem? hs
            obtain ⟨⟨hp0, hp1⟩, _, _⟩ := HSD.out sv hsm
            have hsat := List.mem_filter.1 ((HBS.out.sd k _ HBK.out).mem_iff.1 hsm)
            obtain ⟨t, l, htm, hlt2, hlink, hf1, hf2⟩ := side_link ls ls.length (Nat.le_refl _) sv hsat.1
            have HTK := Lib.hid (take_snoc' hs)
            obtain ⟨sat, sport, sfat, sfar, scost, slink, sfirst⟩ := sv
            simp only at t0 t1 t2 t3 t4 t5 t6 hp0 hp1 hlink hf1 hf2
            have hsatk : sat = (k : Int) := of_decide_eq_true hsat.2
            obtain ⟨p, rfl⟩ : ∃ p : Nat, sport = p := ⟨sport.toNat, by omega⟩
            subst hlink
            have hpl : p < 16 := by omega
            have hpl' : (p : Int) < 16 := by omega
            have htl : t < m := by rw [HL2.out] at htm; exact htm
            have htl' : (t : Int) < (m : Int) := by omega
            obtain ⟨ba, oa, x, rfl, hba, hx, hxc⟩ := readI HR7.out hpl
            have hba2 : w3.heap.size < ba := by have h := HF7.out _ rfl; simp only at h; omega
            have hgetx : (rolesB ids ls k).getD p 0 = x := getD_of hx
            have HX0 : Hid (sfirst = true → x = (pairOf ids ls l).1) := Lib.hid (fun h => by
              obtain ⟨e1, e2⟩ := hf1 h
              unfold pairOf
              rw [← e1, ← e2, hsatk, Int.toNat_natCast, hgetx])
            have HX1 : Hid (sfirst = false → x = (pairOf ids ls l).2) := Lib.hid (fun h => by
              obtain ⟨e1, e2⟩ := hf2 h
              unfold pairOf
              rw [← e1, ← e2, hsatk, Int.toNat_natCast, hgetx])
            obtain ⟨q, hq⟩ : ∃ q, out2[t]? = some q := ⟨_, List.getElem?_eq_getElem (by rw [hrw.len, HL2.out]; exact htl)⟩
            have HQ := Lib.hid hq
            have HLT := Lib.hid hlt2
            have HRWc := Lib.hid hrw
            have HXC := Lib.hid hxc
            clear hs hsm hsat hf1 hf2 hgetx hq hlt2 hx hxc hsatk hp0 hp1 htm
            cases sfirst with
            | true =>
              have y0 : wr.cell? ⟨gs, j * 7 + 6, none⟩ = some (.bool true) := t6
              have HNETb := Lib.hid (hnet.alloc (.cells #[.int .i64 sat, .int .i64 p, .int .i64 sfat, .int .i64 sfar, .int .i64 scost, .int .i64 t, .bool true] 69))
              have HROWb := Lib.hid (hrow.alloc (.cells #[.int .i64 sat, .int .i64 p, .int .i64 sfat, .int .i64 sfar, .int .i64 scost, .int .i64 t, .bool true] 69))
              have HBb := Lib.hid (Keep.alloc hbel (.cells #[.int .i64 sat, .int .i64 p, .int .i64 sfat, .int .i64 sfar, .int .i64 scost, .int .i64 t, .bool true] 69))
              have HSBb := Lib.hid (Blk.new wr 69 #[.int .i64 sat, .int .i64 p, .int .i64 sfat, .int .i64 sfar, .int .i64 scost, .int .i64 t, .bool true])
              clear hnet hrow hbel hrw t6
              go_upto_region 14 with (fail)
              clear t0 t1 t2 t3 t4 t5 y0
              generalize wr.alloc (.cells #[.int .i64 sat, .int .i64 p, .int .i64 sfat, .int .i64 sfar, .int .i64 scost, .int .i64 t, .bool true] 69) = Wb at *
              have s1 : Wb.cell? ⟨wr.heap.size, 1, none⟩ = some (.int .i64 p) := HSBb.out.cell 1
              have s5 : Wb.cell? ⟨wr.heap.size, 5, none⟩ = some (.int .i64 t) := HSBb.out.cell 5
              have s6 : Wb.cell? ⟨wr.heap.size, 6, none⟩ = some (.bool true) := HSBb.out.cell 6
              have hxc : Wb.cell? ⟨ba, oa + p, none⟩ = some (.int .i64 x) := (HBb.out.cells ba (oa + p) hba (by simp; omega)).trans HXC.out
              obtain ⟨r0, r1⟩ := row2_at HROWb.out HQ.out
              have r2 := HROWb.out.frozen (t * 2)
              have r3 := HROWb.out.frozen (t * 2 + 1)
              go_wp2
              refine region_tail 12 (by kernel_rfl) (by kernel_rfl) ?_
              simp only [List.take_succ_cons, List.take_zero, List.drop_succ_cons, List.drop_zero]
              refine SW.un ?_
              (refine SW.want (by kernel_rfl) (fun K hK => ?_); have HK := Lib.hid hK; clear hK; go_simp; refine SW.on HK ?_; clear HK K)
              (refine SW.want (by kernel_rfl) (fun K hK => ?_); have HK := Lib.hid hK; clear hK; go_simp; refine SW.on HK ?_; clear HK K)
              (refine SW.want (by kernel_rfl) (fun K hK => ?_); have HK := Lib.hid hK; clear hK; go_simp; refine SW.on HK ?_; clear HK K)
              (refine SW.want (by kernel_rfl) (fun K hK => ?_); have HK := Lib.hid hK; clear hK; go_simp; refine SW.on HK ?_; clear HK K)
              (refine SW.want (by kernel_rfl) (fun K hK => ?_); have HK := Lib.hid hK; clear hK; go_simp; refine SW.on HK ?_; clear HK K)
              (refine SW.want (by kernel_rfl) (fun K hK => ?_); have HK := Lib.hid hK; clear hK; go_simp; refine SW.on HK ?_; clear HK K)
              (refine SW.want (by kernel_rfl) (fun K hK => ?_); have HK := Lib.hid hK; clear hK; go_simp; refine SW.on HK ?_; clear HK K)
              (refine SW.want (by kernel_rfl) (fun K hK => ?_); have HK := Lib.hid hK; clear hK; go_simp; refine SW.on HK ?_; clear HK K)
              (refine SW.want (by kernel_rfl) (fun K hK => ?_); have HK := Lib.hid hK; clear hK; go_simp; refine SW.on HK ?_; clear HK K)
              (refine SW.want (by kernel_rfl) (fun K hK => ?_); have HK := Lib.hid hK; clear hK; go_simp; refine SW.on HK ?_; clear HK K)
              (refine SW.want (by kernel_rfl) (fun K hK => ?_); have HK := Lib.hid hK; clear hK; go_simp; refine SW.on HK ?_; clear HK K)
              (refine SW.want (by kernel_rfl) (fun K hK => ?_); have HK := Lib.hid hK; clear hK; go_simp; refine SW.on HK ?_; clear HK K)
              refine SW.nil ?_
              go_wp2
              have hP := (Row.put len2 HROWb.out HQ.out (x, q.2) 0 (.int .i64 x) (by omega) rfl).drew
              have hW := HRWc.out.first (s := ⟨sat, p, sfat, sfar, scost, t, true⟩) rfl rfl HLT.out HQ.out (HX0.out (by first | rfl | trivial))
              have hNet := (net_far HNETb.out HROWb.out (by decide) (by decide) (t * 2) (.int .i64 x)).drew
              refine ⟨⟨j + 1, _, by omega, by go_num, hNet, by rw [HTK.out, ← List.append_assoc]; exact hW, hP, ?_⟩, by simp [intOf]; omega⟩
              exact (HBb.out.set_ (p := ⟨w3.heap.size, t * 2, none⟩) (.inl (by simp)) _).drew
            | false =>
              have y0 : wr.cell? ⟨gs, j * 7 + 6, none⟩ = some (.bool false) := t6
              have HNETb := Lib.hid (hnet.alloc (.cells #[.int .i64 sat, .int .i64 p, .int .i64 sfat, .int .i64 sfar, .int .i64 scost, .int .i64 t, .bool false] 69))
              have HROWb := Lib.hid (hrow.alloc (.cells #[.int .i64 sat, .int .i64 p, .int .i64 sfat, .int .i64 sfar, .int .i64 scost, .int .i64 t, .bool false] 69))
              have HBb := Lib.hid (Keep.alloc hbel (.cells #[.int .i64 sat, .int .i64 p, .int .i64 sfat, .int .i64 sfar, .int .i64 scost, .int .i64 t, .bool false] 69))
              have HSBb := Lib.hid (Blk.new wr 69 #[.int .i64 sat, .int .i64 p, .int .i64 sfat, .int .i64 sfar, .int .i64 scost, .int .i64 t, .bool false])
              clear hnet hrow hbel hrw t6
              go_upto_region 14 with (fail)
              clear t0 t1 t2 t3 t4 t5 y0
              generalize wr.alloc (.cells #[.int .i64 sat, .int .i64 p, .int .i64 sfat, .int .i64 sfar, .int .i64 scost, .int .i64 t, .bool false] 69) = Wb at *
              have s1 : Wb.cell? ⟨wr.heap.size, 1, none⟩ = some (.int .i64 p) := HSBb.out.cell 1
              have s5 : Wb.cell? ⟨wr.heap.size, 5, none⟩ = some (.int .i64 t) := HSBb.out.cell 5
              have s6 : Wb.cell? ⟨wr.heap.size, 6, none⟩ = some (.bool false) := HSBb.out.cell 6
              have hxc : Wb.cell? ⟨ba, oa + p, none⟩ = some (.int .i64 x) := (HBb.out.cells ba (oa + p) hba (by simp; omega)).trans HXC.out
              obtain ⟨r0, r1⟩ := row2_at HROWb.out HQ.out
              have r2 := HROWb.out.frozen (t * 2)
              have r3 := HROWb.out.frozen (t * 2 + 1)
              go_wp2
              refine region_tail 12 (by kernel_rfl) (by kernel_rfl) ?_
              simp only [List.take_succ_cons, List.take_zero, List.drop_succ_cons, List.drop_zero]
              refine SW.un ?_
              (refine SW.want (by kernel_rfl) (fun K hK => ?_); have HK := Lib.hid hK; clear hK; go_simp; refine SW.on HK ?_; clear HK K)
              (refine SW.want (by kernel_rfl) (fun K hK => ?_); have HK := Lib.hid hK; clear hK; go_simp; refine SW.on HK ?_; clear HK K)
              (refine SW.want (by kernel_rfl) (fun K hK => ?_); have HK := Lib.hid hK; clear hK; go_simp; refine SW.on HK ?_; clear HK K)
              (refine SW.want (by kernel_rfl) (fun K hK => ?_); have HK := Lib.hid hK; clear hK; go_simp; refine SW.on HK ?_; clear HK K)
              (refine SW.want (by kernel_rfl) (fun K hK => ?_); have HK := Lib.hid hK; clear hK; go_simp; refine SW.on HK ?_; clear HK K)
              (refine SW.want (by kernel_rfl) (fun K hK => ?_); have HK := Lib.hid hK; clear hK; go_simp; refine SW.on HK ?_; clear HK K)
              (refine SW.want (by kernel_rfl) (fun K hK => ?_); have HK := Lib.hid hK; clear hK; go_simp; refine SW.on HK ?_; clear HK K)
              (refine SW.want (by kernel_rfl) (fun K hK => ?_); have HK := Lib.hid hK; clear hK; go_simp; refine SW.on HK ?_; clear HK K)
              (refine SW.want (by kernel_rfl) (fun K hK => ?_); have HK := Lib.hid hK; clear hK; go_simp; refine SW.on HK ?_; clear HK K)
              (refine SW.want (by kernel_rfl) (fun K hK => ?_); have HK := Lib.hid hK; clear hK; go_simp; refine SW.on HK ?_; clear HK K)
              (refine SW.want (by kernel_rfl) (fun K hK => ?_); have HK := Lib.hid hK; clear hK; go_simp; refine SW.on HK ?_; clear HK K)
              (refine SW.want (by kernel_rfl) (fun K hK => ?_); have HK := Lib.hid hK; clear hK; go_simp; refine SW.on HK ?_; clear HK K)
              refine SW.nil ?_
              go_wp2
              have hP := (Row.put len2 HROWb.out HQ.out (q.1, x) 1 (.int .i64 x) (by omega) rfl).drew
              have hW := HRWc.out.second (s := ⟨sat, p, sfat, sfar, scost, t, false⟩) rfl rfl HLT.out HQ.out (HX1.out (by first | rfl | trivial))
              have hNet := (net_far HNETb.out HROWb.out (by decide) (by decide) (t * 2 + 1) (.int .i64 x)).drew
              refine ⟨⟨j + 1, _, by omega, by go_num, hNet, by rw [HTK.out, ← List.append_assoc]; exact hW, hP, ?_⟩, by simp [intOf]; omega⟩
              exact (HBb.out.set_ (p := ⟨w3.heap.size, t * 2 + 1, none⟩) (.inl (by simp)) _).drew
          · have e : j = bd.length := by omega
            have HRW8 : Hid (RW ids ls (doneTo bs (k + 1)) out2) := Lib.hid (by
              have h9 := hrw
              rw [e, List.take_length] at h9
              rw [doneTo_step HBK.out]
              exact h9)
            have HB8 : Hid (Below w3.heap.size w3 wr) := Lib.hid (HB6.out.trans (hbel.below hB6z (by simp)))
            clear hnet hrw hrow hbel
            go_wp2
            exact ⟨⟨k + 1, out2, by omega, by go_num, HNET7.out, HRW8.out, HROW7.out, HB8.out⟩, by simp [intOf]; omega⟩
      · have e : k = n := by omega
        have HOUT : Hid (out = restOf ids ls) := Lib.hid (by
          have h9 := hrw
          rw [e, ← hbl] at h9
          exact h9.all (done_all HBS.out HM.out))
        clear hnet hrw hrow hbel
        go_wp2
        go_ret2
        refine ⟨⟨_, _, rfl, ?_, fun ad he => ?_⟩, HB3.out.trans (HB4.out.mono hz3)⟩
        · have h9 := HROW.out
          rw [HOUT.out] at h9
          exact h9.reads (by rw [flat_len cells2 2 len2]; unfold restOf; rw [List.length_map, HL2.out]) hgl
        · injection he with he
          rw [← he]
          exact hz3
theorem rest_ok (A1 : Option Addr) (n c1 : Nat) (ids : List Int) (A2 : Option Addr) (m c2 : Nat) (ls : List Lk) (w : World) (h1 : Reads w w.heap.size 1 A1 n (ids.map (Value.int .u64))) (h2 : Reads w w.heap.size 5 A2 m (ls.flatMap cellsL)) (hwf : ∀ x ∈ ids, (Lit.int .u64 x).wf = true) (hmay : May ids ls) :
    Calls Try.prog 13 #[.slice A1 n c1, .slice A2 m c2] w fun e w' => (∃ A' c', e = .returned (.tuple #[.slice A' m c', .int .i64 0]) ∧ Reads w' w'.heap.size 2 A' m ((restOf ids ls).flatMap cells2)) ∧ Below w.heap.size w w' := by
  refine (rest_lo A1 n c1 ids A2 m c2 ls w h1 h2 hwf hmay).mono ?_
  rintro e w' ⟨⟨A', c', h3, h4, _⟩, h5⟩
  exact ⟨⟨A', c', h3, h4⟩, h5⟩
end Tree
end Go.Proofs.Ytdgbemafhhhceaa
