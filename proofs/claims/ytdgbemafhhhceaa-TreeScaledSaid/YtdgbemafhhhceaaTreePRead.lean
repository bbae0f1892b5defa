/-
  The walk of the program's read: bridges with their sides, out of ids and links.
-/
import Derived.Test.YtdgbemafhhhceaaTreeNet
import Derived.Deep.RegionHeld3
import Derived.Deep.RegionLaw
import Derived.Deep.DeepCutAuto
namespace Go.Proofs.Ytdgbemafhhhceaa
set_option linter.unusedVariables false
set_option linter.unusedSimpArgs false
open Go.RowKit
open Go.Proofs.Ytdgbemafhhhceaa.Prio
namespace Tree
def br0 (id : Int) : Br := ⟨id, .slice none 0 0, [], own id⟩
theorem oneB0 (x : Int) : ∀ u ∈ cB (br0 x), u.oneCell' = true := by
  intro u hu
  simp [cB, br0] at hu
  rcases hu with rfl | rfl | rfl | rfl | rfl | rfl <;> rfl
def sidesAt (sides : List Sd) (i : Nat) : List Sd := sides.filter fun s => decide (s.at_ = (i : Int))
structure Bs (ids : List Int) (vs : List Vec) (sides : List Sd) (bs : List Br) : Prop where
  ids : bs.map (·.id) = ids
  best : bs.map (·.best) = vs
  sd : ∀ (i : Nat) b, bs[i]? = some b → b.sd.Perm (sidesAt sides i)
section
variable {ids : List Int} {vs : List Vec} {sides : List Sd} {bs : List Br}
theorem Bs.len (h : Bs ids vs sides bs) : bs.length = ids.length := by have := congrArg List.length h.ids; simpa using this
theorem map_set_same {α β : Type} (f : α → β) {l : List α} {a : Nat} {x y : α} (hx : l[a]? = some x) (h : f y = f x) : (l.set a y).map f = l.map f := by
  apply List.ext_getElem?
  intro i
  rw [List.getElem?_map, List.getElem?_map]
  by_cases hi : i = a
  · subst hi
    rw [set_at _ hx, hx]
    simp [h]
  · rw [List.getElem?_set_ne (Ne.symm hi)]
theorem Bs.small (h : Bs ids vs sides bs) {a : Nat} {b : Br} (ha : bs[a]? = some b) : b.sd.length ≤ sides.length := by
  have h1 := (h.sd a b ha).length_eq
  have h2 := List.length_filter_le (fun s : Sd => decide (s.at_ = (a : Int))) sides
  unfold sidesAt at h1
  omega
theorem sidesTo_len (ls : List Lk) : ∀ k, k ≤ ls.length → (sidesTo ls k).length = 2 * k
  | 0, _ => rfl
  | k + 1, h => by
    have hk : ls[k]? = some ls[k] := List.getElem?_eq_getElem (by omega)
    rw [sidesTo_step hk, List.length_append, sidesTo_len ls k (by omega)]
    show 2 * k + 2 = 2 * (k + 1)
    omega
theorem Bs.push (h : Bs ids vs sides bs) {a : Nat} {b : Br} (ha : bs[a]? = some b) {s : Sd} (hs : s.at_ = (a : Int)) (v : Value) : Bs ids vs (sides ++ [s]) (bs.set a { b with sv := v, sd := b.sd ++ [s] }) := by
  refine ⟨(map_set_same (y := { b with sv := v, sd := b.sd ++ [s] }) _ ha rfl).trans h.ids, (map_set_same (y := { b with sv := v, sd := b.sd ++ [s] }) _ ha rfl).trans h.best, fun i c hc => ?_⟩
  unfold sidesAt
  rw [List.filter_append]
  by_cases hi : i = a
  · subst hi
    rw [set_at _ ha] at hc
    cases hc
    have e : [s].filter (fun s => decide (s.at_ = (i : Int))) = [s] := by simp [hs]
    rw [e]
    exact (h.sd i b ha).append_right [s]
  · rw [List.getElem?_set_ne (Ne.symm hi)] at hc
    have e : [s].filter (fun s => decide (s.at_ = (i : Int))) = [] := by simp [hs]; omega
    rw [e, List.append_nil]
    exact h.sd i c hc
theorem Bs.sorted (h : Bs ids vs sides bs) {a : Nat} {b : Br} (ha : bs[a]? = some b) {l : List Sd} (hl : l.Perm b.sd) : Bs ids vs sides (bs.set a { b with sd := l }) := by
  refine ⟨(map_set_same (y := { b with sd := l }) _ ha rfl).trans h.ids, (map_set_same (y := { b with sd := l }) _ ha rfl).trans h.best, fun i c hc => ?_⟩
  by_cases hi : i = a
  · subst hi
    rw [set_at _ ha] at hc
    cases hc
    exact hl.trans (h.sd i b ha)
  · rw [List.getElem?_set_ne (Ne.symm hi)] at hc
    exact h.sd i c hc
end
theorem Bs.start (ids : List Int) : Bs ids (ids.map own) [] (ids.map br0) := by
  refine ⟨by rw [List.map_map]; exact List.map_id ids, by rw [List.map_map]; rfl, fun i b hb => ?_⟩
  rw [List.getElem?_map] at hb
  obtain ⟨x, _, rfl⟩ := Option.map_eq_some_iff.1 hb
  exact List.Perm.refl _
theorem net_start {w : World} {N0 N n cap : Nat} {ids : List Int} (h : w.ownsRow N0 64 6 (.slice (some ⟨N, 0, none⟩) n cap) n ((ids.map br0).flatMap cB)) (hn : 0 < n) : NetAt w N0 N (ids.map br0) := by
  obtain ⟨g, cap', hv, hlo, _, _, hr⟩ := Row.of_own h hn
  cases hv
  refine ⟨hr, hlo, fun i b hb => ?_, fun i j x y _ hx _ => ?_⟩
  · rw [List.getElem?_map] at hb
    obtain ⟨x, _, rfl⟩ := Option.map_eq_some_iff.1 hb
    exact ⟨by simp [br0], .inl ⟨rfl, rfl⟩⟩
  · rw [List.getElem?_map] at hx
    obtain ⟨x, _, rfl⟩ := Option.map_eq_some_iff.1 hx
    exact .inl rfl
theorem br0_take {ids : List Int} {k : Nat} {x : Int} (h : ids[k]? = some x) : ((ids.take (k + 1)).map br0).flatMap cB = ((ids.take k).map br0).flatMap cB ++ cB (br0 x) := by
  obtain ⟨hk, e⟩ := List.getElem?_eq_some_iff.1 h
  rw [List.take_succ_eq_append_getElem hk, e]
  simp
/-- what stands behind one side more -/
def PostR (w wx : World) (N : Nat) (ids : List Int) (sides : List Sd) (gl ga : Nat) (l : Lk) : Prop :=
  ∃ bs, NetAt wx w.heap.size N bs ∧ Bs ids (ids.map own) sides bs ∧ Blk wx gl 45 (cellsL l).toArray ∧ Blk wx ga 55 #[.int .i64 l.a, .int .i64 l.pa, .int .i64 l.b, .int .i64 l.pb] ∧ Below w.heap.size w wx
set_option maxHeartbeats 16000000 in
set_option maxRecDepth 100000 in
theorem read_ (A1 : Option Addr) (n c1 : Nat) (ids : List Int) (A2 : Option Addr) (m c2 : Nat) (ls : List Lk) (w : World) (h1 : Reads w w.heap.size 1 A1 n (ids.map (Value.int .u64))) (h2 : Reads w w.heap.size 5 A2 m (ls.flatMap cellsL)) (hmay : May ids ls) :
    Calls Try.prog 23 #[.slice A1 n c1, .slice A2 m c2] w fun e w' => (∃ N cap bs, e = .returned (.slice (some ⟨N, 0, none⟩) n cap) ∧ NetAt w' w.heap.size N bs ∧ Bs ids (ids.map own) (sidesOf ls) bs) ∧ Below w.heap.size w w' := by
  obtain ⟨i0, hi, hz0, hz1, hz2⟩ := info_parts infoB
  obtain ⟨i1, hj_, hy0, hy1, hy2⟩ := info_parts infoS
  have hl1 := len_ids h1
  have hl2 := len_of h2
  have hn : n ≤ 12 := by have := hmay.n2; omega
  have hn1 : 1 ≤ n := by have := hmay.n1; omega
  have hm : m ≤ 40 := by have := hmay.l; omega
  have HM := Lib.hid hmay
  have HL1 := Lib.hid hl1
  have HL2 := Lib.hid hl2
  clear hmay hl1 hl2
  go_enter Try.func23, Try.ntmps23
  go_wp2
  go_loopw [5, 17] (fun v i wr => ∃ k : Nat, k ≤ n ∧ i = .int .i64 k ∧ wr.ownsRow w.heap.size 64 6 v k (((ids.take k).map br0).flatMap cB) ∧ Below w.heap.size w wr) (fun _ i _ => n - (intOf i).toNat)
  case atStart => exact ⟨0, Nat.zero_le _, rfl, ⟨by simp, .inl ⟨rfl, by simp⟩⟩, Below.refl _ _⟩
  case round =>
    obtain ⟨k, hk, rfl, hown, hbel⟩ := hrel
    have hbz := hbel.size
    by_cases hlt : k < n
    · have hlt' : (k : Int) < (n : Int) := by omega
      obtain ⟨b1, o1, x, rfl, hb1, hx, c0⟩ := read1 (h1.below hbel) hlt
      have HT := Lib.hid (br0_take hx)
      have HO := Lib.hid hown
      have HB := Lib.hid hbel
      have q3 : k + 1 ≤ maxLen := by unfold maxLen; omega
      have q4 : (k + 1) * 64 ≤ 140737488355328 := by omega
      clear hx hown hbel
      go_wp2_with (first
        | (go_at_call 31; refine (own_ x _).mono ?_; rintro e w1 ⟨rfl, b1'⟩; have z1 := b1'.size; have HO1 := Lib.hid (own_below HO.out b1'); have HB1 := Lib.hid (HB.out.trans (b1'.mono hbz)); clear b1')
        | (at_builtin; refine wpList_append_own _ rfl (.tmp 21) (.tmp 26) 58 rfl w.heap.size 64 i0 _ 6 64 Try.underlying58 hi hz0 hz1 hz2 rfl (by omega) u5 k _ rfl (HO1.out.alloc _) ⟨w1.heap.size, 0, none⟩ 1 1 (cB (br0 x)) rfl rfl (new_cells' _ (cB (br0 x)) 64 _ rfl) (oneB0 _) q3 q4 (by simp; omega) ?_; intro v4 w4 hown4 hg4 _)
        | go_in)
      go_roundw
      case rel => exact ⟨k + 1, by omega, by go_num, by rw [HT.out]; exact hown4, (HB1.out.alloc HB1.out.size _).grown hg4 (by simp; omega) (own_from HO1.out)⟩
      case measure => simp [intOf]; omega
    · have hke : k = n := by omega
      have hown' : wr.ownsRow w.heap.size 64 6 u5 n ((ids.map br0).flatMap cB) := by have := hown; rw [hke, ← HL1.out, List.take_length, HL1.out] at this; exact this
      have HB := Lib.hid hbel
      subst hke
      obtain ⟨N, cap, hvN, _, _, _, _⟩ := Row.of_own hown' hn1
      subst hvN
      have HN := Lib.hid (net_start hown' hn1)
      clear hown hown' hbel
      obtain ⟨wA, rfl⟩ : ∃ wA : World, wA = wr := ⟨_, rfl⟩
      go_wp2
      go_loopw [31] (fun i wk => ∃ (q : Nat) (bs : List Br), q ≤ m ∧ i = .int .i64 q ∧ NetAt wk w.heap.size N bs ∧ Bs ids (ids.map own) (sidesTo ls q) bs ∧ Below w.heap.size w wk) (fun i _ => m - (intOf i).toNat)
      case atStart => exact ⟨0, _, Nat.zero_le _, rfl, HN.out, Bs.start ids, HB.out⟩
      case round =>
        clear HN HB
        obtain ⟨q, bs, hq, rfl, hnet, hbs, hbel⟩ := hrel
        have HNET := Lib.hid hnet
        have HBS := Lib.hid hbs
        have HB := Lib.hid hbel
        have hbz := hbel.size
        by_cases hlt : q < m
        · have hlt' : (q : Int) < (m : Int) := by omega
          obtain ⟨b2, o2, l, rfl, hb2, hx, d0, d1, d2, d3, d4⟩ := read5 (h2.below hbel) hlt
          have HX := Lib.hid hx
          have HLK := Lib.hid (HM.out.link (List.mem_of_getElem? hx))
          obtain ⟨wo, rfl⟩ : ∃ wo : World, wo = wr := ⟨_, rfl⟩
          have HB4 := Lib.hid (hbel.alloc hbz (.cells #[.int .i64 l.a, .int .i64 l.pa, .int .i64 l.b, .int .i64 l.pb, .int .i64 l.cost] 45))
          have HNET4 := Lib.hid (hnet.alloc (.cells #[.int .i64 l.a, .int .i64 l.pa, .int .i64 l.b, .int .i64 l.pb, .int .i64 l.cost] 45))
          have hw4 : wo.heap.size < (wo.alloc (.cells #[.int .i64 l.a, .int .i64 l.pa, .int .i64 l.b, .int .i64 l.pb, .int .i64 l.cost] 45)).heap.size := by simp
          have HBX4 : Hid (Blk (wo.alloc (.cells #[.int .i64 l.a, .int .i64 l.pa, .int .i64 l.b, .int .i64 l.pb, .int .i64 l.cost] 45)) wo.heap.size 45 (cellsL l).toArray) := Lib.hid (Blk.new wo _ _)
          have hNz := hnet.lt
          clear hx hnet hbs hbel
          go_upto_region 10 with (fail)
          clear d0 d1 d2 d3 d4
          generalize wo.alloc (.cells #[.int .i64 l.a, .int .i64 l.pa, .int .i64 l.b, .int .i64 l.pb, .int .i64 l.cost] 45) = W4 at *
          have e0 : W4.cell? ⟨wo.heap.size, 0, none⟩ = some (.int .i64 l.a) := HBX4.out.cell 0
          have e1 : W4.cell? ⟨wo.heap.size, 1, none⟩ = some (.int .i64 l.pa) := HBX4.out.cell 1
          have e2 : W4.cell? ⟨wo.heap.size, 2, none⟩ = some (.int .i64 l.b) := HBX4.out.cell 2
          have e3 : W4.cell? ⟨wo.heap.size, 3, none⟩ = some (.int .i64 l.pb) := HBX4.out.cell 3
          have e4 : W4.cell? ⟨wo.heap.size, 4, none⟩ = some (.int .i64 l.cost) := HBX4.out.cell 4
          go_wp2_with fail
          refine (lends_ l _).mono ?_
          rintro e w5 ⟨rfl, b5⟩
          have z5 := b5.size
          have HB6 := Lib.hid ((HB4.out.trans (b5.mono HB4.out.size)).alloc (by have := HB4.out.size; omega) (.cells #[.int .i64 l.a, .int .i64 l.pa, .int .i64 l.b, .int .i64 l.pb] 55))
          have HNET6 := Lib.hid ((HNET4.out.keep b5).alloc (.cells #[.int .i64 l.a, .int .i64 l.pa, .int .i64 l.b, .int .i64 l.pb] 55))
          have HBX6 := Lib.hid ((HBX4.out.below b5 hw4).alloc (.cells #[.int .i64 l.a, .int .i64 l.pa, .int .i64 l.b, .int .i64 l.pb] 55))
          have HAX6 := Lib.hid (Blk.new w5 55 #[.int .i64 l.a, .int .i64 l.pa, .int .i64 l.b, .int .i64 l.pb])
          have hw5 : wo.heap.size < w5.heap.size := by omega
          clear b5 e0 e1 e2 e3 e4
          go_upto_region 11 with (fail)
          generalize w5.alloc (.cells #[.int .i64 l.a, .int .i64 l.pa, .int .i64 l.b, .int .i64 l.pb] 55) = W6 at *
          go_wp2
          go_loopw [38] (fun i wk => ∃ (j : Nat) (bs : List Br), j ≤ 2 ∧ i = .int .i64 j ∧ NetAt wk w.heap.size N bs ∧ Bs ids (ids.map own) (sidesTo ls q ++ (sd2 q l).take j) bs ∧ Blk wk wo.heap.size 45 (cellsL l).toArray ∧ Blk wk w5.heap.size 55 #[.int .i64 l.a, .int .i64 l.pa, .int .i64 l.b, .int .i64 l.pb] ∧ Below w.heap.size w wk) (fun i _ => 2 - (intOf i).toNat)
          case atStart => exact ⟨0, bs, by omega, rfl, HNET6.out, by simpa using HBS.out, HBX6.out, HAX6.out, HB6.out⟩
          case round =>
            clear HNET HBS HB HB4 HNET4 HBX4 HB6 HNET6 HBX6 HAX6
            obtain ⟨j, bs, hj, rfl, hnet, hbs, hbx, hax, hbel⟩ := hrel
            have HNET := Lib.hid hnet
            have HBS := Lib.hid hbs
            have HBX := Lib.hid hbx
            have HAX := Lib.hid hax
            have HB := Lib.hid hbel
            by_cases hjl : j < 2
            · have hjl' : (j : Int) < 2 := by omega
              obtain ⟨la, lpa, lb, lpb, ea, epa, eb, epb, hla, hlb, hlpa, hlpb, _, _⟩ := HLK.out
              obtain ⟨a, p, fa, fp, fst, j', hs, hal, hj', hf, x0, x1, x2, x3⟩ : ∃ (a : Nat) (p fa fp : Int) (fst : Bool) (j' : Nat), (sd2 q l)[j]? = some ⟨a, p, fa, fp, l.cost, q, fst⟩ ∧ a < k ∧ (1 : Int) - j = j' ∧ ((j : Int) == 0) = fst ∧ wr.cell? ⟨w5.heap.size, j * 2, none⟩ = some (.int .i64 a) ∧ wr.cell? ⟨w5.heap.size, j * 2 + 1, none⟩ = some (.int .i64 p) ∧ wr.cell? ⟨w5.heap.size, j' * 2, none⟩ = some (.int .i64 fa) ∧ wr.cell? ⟨w5.heap.size, j' * 2 + 1, none⟩ = some (.int .i64 fp) := by
                have y0 := HAX.out.cell 0
                have y1 := HAX.out.cell 1
                have y2 := HAX.out.cell 2
                have y3 := HAX.out.cell 3
                simp only [List.getElem?_toArray, List.getElem?_cons_zero, List.getElem?_cons_succ] at y0 y1 y2 y3
                rcases (show j = 0 ∨ j = 1 by omega) with rfl | rfl
                · exact ⟨la, l.pa, l.b, l.pb, true, 1, by simp [sd2, ea], by rw [HL1.out] at hla; exact hla, by decide, by decide, by rw [← ea]; exact y0, y1, y2, y3⟩
                · exact ⟨lb, l.pb, l.a, l.pa, false, 0, by simp [sd2, eb], by rw [HL1.out] at hlb; exact hlb, by decide, by decide, by rw [← eb]; exact y2, y3, y0, y1⟩
              have hal' : (a : Int) < (k : Int) := by omega
              have hj0 : (0 : Int) ≤ (j' : Int) := by omega
              have hj2 : (j' : Int) < 2 := by omega
              have hw1 : IntKind.i64.wrap (1 - (j : Int)) = (j' : Int) := by rw [hj']; exact IntWalk.i64_in _ (by omega)
              have x4 : wr.cell? ⟨wo.heap.size, 4, none⟩ = some (.int .i64 l.cost) := HBX.out.cell 4
              have hbl : bs.length = k := by rw [hbs.len, HL1.out]
              obtain ⟨b, hb⟩ : ∃ b, bs[a]? = some b := ⟨_, List.getElem?_eq_getElem (by omega)⟩
              have x5 : wr.cell? ⟨N, a * 6 + 1, none⟩ = some b.sv := hnet.row.at_ lenB hb (by omega) rfl
              have hown := hnet.own a b hb
              have hsl := Bs.small hbs hb
              rw [List.length_append, sidesTo_len ls q (by rw [HL2.out]; omega), List.length_take] at hsl
              have hsl2 : b.sd.length ≤ 200 := by omega
              have q3 : b.sd.length + 1 ≤ maxLen := by unfold maxLen; omega
              have q4 : (b.sd.length + 1) * 56 ≤ 140737488355328 := Nat.le_trans (Nat.mul_le_mul_right 56 (show b.sd.length + 1 ≤ 300 by omega)) (by decide)
              have hne1 : b.sv.ownBlock ≠ some w5.heap.size := own_blk_ne hown hax (by decide)
              have hne2 : b.sv.ownBlock ≠ some wo.heap.size := own_blk_ne hown hbx (by decide)
              have hne3 : b.sv.ownBlock ≠ some N := row_ne hown hnet.row (by decide)
              have hfr : wr.frozen? ⟨N, a * 6 + 1, none⟩ = false := hnet.row.frozen _
              have hNl := hnet.lt
              have hXl := hbx.lt
              have hAl := hax.lt
              have hsz := hbel.size
              have HS := Lib.hid hs
              have HBA := Lib.hid hb
              have HC8 : Hid (∀ o : Obj, (wr.alloc o).cell? ⟨N, a * 6 + 1, none⟩ = some b.sv ∧ (wr.alloc o).frozen? ⟨N, a * 6 + 1, none⟩ = false) := Lib.hid (fun o => ⟨(((Below.refl wr.heap.size wr).alloc (Nat.le_refl _) o).cell (p := ⟨N, a * 6 + 1, none⟩) hNl).trans x5, (((Below.refl wr.heap.size wr).alloc (Nat.le_refl _) o).frozen (p := ⟨N, a * 6 + 1, none⟩) hNl).trans hfr⟩)
              have HFIN : Hid (∀ (gg cap2 : Nat) (w7 : World), w7.ownsRow w.heap.size 69 7 (.slice (some ⟨gg, 0, none⟩) (b.sd.length + 1) cap2) (b.sd.length + 1) (b.sd.flatMap cS ++ cS ⟨a, p, fa, fp, l.cost, q, fst⟩) → ((wr.alloc (.cells #[.int .i64 a, .int .i64 p, .int .i64 fa, .int .i64 fp, .int .i64 l.cost, .int .i64 q, .bool fst] 69)).drew).grownBy w7 b.sv.ownBlock → (b.sv.ownBlock = some gg ∨ gg = wr.heap.size + 1) →
                  PostR w (w7.setCell ⟨N, a * 6 + 1, none⟩ (.slice (some ⟨gg, 0, none⟩) (b.sd.length + 1) cap2)) N ids (sidesTo ls q ++ (sd2 q l).take (j + 1)) wo.heap.size w5.heap.size l) := Lib.hid (fun gg cap2 w7 h7 g7 c7 => by
                have hz8 : ((wr.alloc (.cells #[.int .i64 a, .int .i64 p, .int .i64 fa, .int .i64 fp, .int .i64 l.cost, .int .i64 q, .bool fst] 69)).drew).heap.size = wr.heap.size + 1 := by show (wr.alloc _).heap.size = _; simp
                have n8 := ((hnet.alloc (.cells #[.int .i64 a, .int .i64 p, .int .i64 fa, .int .i64 fp, .int .i64 l.cost, .int .i64 q, .bool fst] 69)).drew).push hb g7 h7 (by
                  rcases c7 with e | e
                  · exact .inl e.symm
                  · refine .inr fun g hg => ?_
                    have : gg = g := by simpa [Value.ownBlock] using hg
                    omega)
                have e2 : (sd2 q l).take (j + 1) = (sd2 q l).take j ++ [⟨a, p, fa, fp, l.cost, q, fst⟩] := by
                  obtain ⟨h3, h4⟩ := List.getElem?_eq_some_iff.1 hs
                  rw [List.take_succ_eq_append_getElem h3, h4]
                refine ⟨_, n8, by rw [e2, ← List.append_assoc]; exact hbs.push hb rfl _, ?_, ?_, ?_⟩
                · exact ((hbx.alloc _).drew.grown g7 (Ne.symm hne2)).far (p := ⟨N, a * 6 + 1, none⟩) (by intro e; have := hnet.row; obtain ⟨cur, hc, _⟩ := this; exact Blk.ne_ hbx (t' := 64) (cs' := cur) hc (by decide) e) _
                · exact ((hax.alloc _).drew.grown g7 (Ne.symm hne1)).far (p := ⟨N, a * 6 + 1, none⟩) (by intro e; have := hnet.row; obtain ⟨cur, hc, _⟩ := this; exact Blk.ne_ hax (t' := 64) (cs' := cur) hc (by decide) e) _
                · exact ((((hbel.alloc hsz _).drew).grown g7 (by rw [hz8]; omega) (own_from hown))).setCell (by show w.heap.size ≤ N; exact hnet.lo) _)
              clear hs hb hbs hnet hbx hax hbel hsl ea epa eb epb hla hlb hlpa hlpb hj' hbl
              go_upto_region 15 with (fail)
              go_wp2
              go_region_law ((refine step_append_lies _ (by rfl) _ _ _ (by rfl) w.heap.size 69 i1 _ 7 56 Try.underlying60 hj_ hy0 hy1 hy2 rfl (by omega) _ b.sd.length _ (by rfl) ((hown.alloc _).drew) ⟨wr.heap.size, 0, none⟩ 1 1 (cS ⟨a, p, fa, fp, l.cost, q, fst⟩) (by rfl) (by rfl) (new_cells wr (cS ⟨a, p, fa, fp, l.cost, q, fst⟩) 69) (oneS ⟨a, p, fa, fp, l.cost, q, fst⟩) (by omega) q3 q4 (size_drew_alloc hsz _) (wr.heap.size + 1) (by simp) ?_; intro gg cap2 w7 hown' hgrow hat hlt2; have x57 : w7.cell? ⟨N, a * 6 + 1, none⟩ = some b.sv := (hgrow.cell_far _ (by simp; omega) (Ne.symm hne3)).trans (HC8.out _).1; have hfr7 : w7.frozen? ⟨N, a * 6 + 1, none⟩ = false := (hgrow.frozen_far _ (by simp; omega) (Ne.symm hne3)).trans (HC8.out _).2))
              all_goals
                go_wp2
                obtain ⟨bs', n9, f9, g9, k9, l9⟩ := HFIN.out _ _ _ hown' hgrow hat
                exact ⟨⟨j + 1, bs', by omega, by go_num, n9, f9, g9, k9, l9⟩, by simp [intOf]; omega⟩
            · have e : j = 2 := by omega
              clear hnet hbs hbx hax hbel
              subst e
              go_wp2
              exact ⟨⟨q + 1, bs, by omega, by go_num, HNET.out, by rw [sidesTo_step HX.out]; exact HBS.out, HB.out⟩, by simp [intOf]; omega⟩
        · have e : q = m := by omega
          have HBS2 : Hid (Bs ids (ids.map own) (sidesOf ls) bs) := Lib.hid (by unfold sidesOf; rw [HL2.out, ← e]; exact hbs)
          clear HBS hbs hnet hbel
          subst e
          clear hlt
          obtain ⟨wC, rfl⟩ : ∃ wC : World, wC = wr := ⟨_, rfl⟩
          go_wp2
          go_loopw [73] (fun i wk => ∃ (q : Nat) (bs : List Br), q ≤ k ∧ i = .int .i64 q ∧ NetAt wk w.heap.size N bs ∧ Bs ids (ids.map own) (sidesOf ls) bs ∧ Below w.heap.size w wk) (fun i _ => k - (intOf i).toNat)
          case atStart => exact ⟨0, _, Nat.zero_le _, rfl, HNET.out, HBS2.out, HB.out⟩
          case round =>
            clear HNET HBS2 HB
            obtain ⟨j, bs, hjn, rfl, hnet, hbs, hbel⟩ := hrel
            have HNET := Lib.hid hnet
            have HBS := Lib.hid hbs
            have HB := Lib.hid hbel
            have hbz := hbel.size
            by_cases hlt : j < k
            · have hlt' : (j : Int) < (k : Int) := by omega
              have hbl : bs.length = k := by rw [hbs.len, HL1.out]
              obtain ⟨b, hb⟩ : ∃ b, bs[j]? = some b := ⟨_, List.getElem?_eq_getElem (by omega)⟩
              obtain ⟨bi, bv, bd, bb⟩ := b
              obtain ⟨As, cs, hv, _⟩ := own_form (hnet.own j _ hb)
              obtain rfl : bv = .slice As bd.length cs := hv
              have x0 : wr.cell? ⟨N, j * 6, none⟩ = some (.int .u64 bi) := hnet.row.at_ lenB hb (j := 0) (by omega) rfl
              have x1 : wr.cell? ⟨N, j * 6 + 1, none⟩ = some (.slice As bd.length cs) := hnet.row.at_ lenB hb (by omega) rfl
              have x2 : wr.cell? ⟨N, j * 6 + 2, none⟩ = some (.int .u64 bb.root) := hnet.row.at_ lenB hb (by omega) rfl
              have x3 : wr.cell? ⟨N, j * 6 + 3, none⟩ = some (.int .i64 bb.cost) := hnet.row.at_ lenB hb (by omega) rfl
              have x4 : wr.cell? ⟨N, j * 6 + 4, none⟩ = some (.int .u64 bb.bridge) := hnet.row.at_ lenB hb (by omega) rfl
              have x5 : wr.cell? ⟨N, j * 6 + 5, none⟩ = some (.int .i64 bb.port) := hnet.row.at_ lenB hb (by omega) rfl
              have hsl := Bs.small hbs hb
              unfold sidesOf at hsl
              rw [sidesTo_len ls ls.length (Nat.le_refl _), HL2.out] at hsl
              have HOW := Lib.hid ((hnet.own j _ hb).alloc (.cells #[.int .u64 bi, (.slice As bd.length cs), .int .u64 bb.root, .int .i64 bb.cost, .int .u64 bb.bridge, .int .i64 bb.port] 64))
              have HNET2 := Lib.hid (hnet.alloc (.cells #[.int .u64 bi, (.slice As bd.length cs), .int .u64 bb.root, .int .i64 bb.cost, .int .u64 bb.bridge, .int .i64 bb.port] 64))
              have HB2 := Lib.hid (hbel.alloc hbz (.cells #[.int .u64 bi, (.slice As bd.length cs), .int .u64 bb.root, .int .i64 bb.cost, .int .u64 bb.bridge, .int .i64 bb.port] 64))
              have HBJ := Lib.hid hb
              have HBOX : Hid ((wr.alloc (.cells #[.int .u64 bi, (.slice As bd.length cs), .int .u64 bb.root, .int .i64 bb.cost, .int .u64 bb.bridge, .int .i64 bb.port] 64)).cell? ⟨wr.heap.size, 1, none⟩ = some (.slice As bd.length cs)) := Lib.hid ((Blk.new wr 64 #[.int .u64 bi, (.slice As bd.length cs), .int .u64 bb.root, .int .i64 bb.cost, .int .u64 bb.bridge, .int .i64 bb.port]).cell 1)
              clear hnet hbs hbel hb hbl
              go_upto_region 21 with (fail)
              clear x0 x1 x2 x3 x4 x5
              generalize wr.alloc (.cells #[.int .u64 bi, (.slice As bd.length cs), .int .u64 bb.root, .int .i64 bb.cost, .int .u64 bb.bridge, .int .i64 bb.port] 64) = W at *
              have y1 : W.cell? ⟨wr.heap.size, 1, none⟩ = some (.slice As bd.length cs) := HBOX.out
              go_wp2_with fail
              refine (sorts_ W w.heap.size bd (.slice As bd.length cs) bd.length HOW.out (by omega)).mono ?_
              rintro e w7 ⟨rfl, l, hp, hown7, hg7⟩
              have n9 := Lib.hid (HNET2.out.sorted HBJ.out hg7 hp.length_eq hown7)
              have f9 := Lib.hid (HBS.out.sorted HBJ.out hp)
              have l9 := Lib.hid (HB2.out.grown hg7 HB2.out.size (own_from HOW.out))
              clear hp hown7 hg7
              go_wp2
              exact ⟨⟨j + 1, _, by omega, by go_num, n9.out, f9.out, l9.out⟩, by simp [intOf]; omega⟩
            · have e : j = k := by omega
              clear hnet hbs hbel
              subst e
              go_wp2
              go_ret
              exact ⟨⟨_, _, _, rfl, HNET.out, HBS.out⟩, HB.out⟩
end Tree
end Go.Proofs.Ytdgbemafhhhceaa
