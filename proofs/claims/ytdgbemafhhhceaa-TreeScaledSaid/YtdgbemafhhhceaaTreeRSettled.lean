/-
  The walk of the document's settled: the rounds.
-/
import Derived.Test.YtdgbemafhhhceaaTreeRHeard
namespace Go.Proofs.Ytdgbemafhhhceaa
set_option linter.unusedVariables false
set_option linter.unusedSimpArgs false
open Go.RowKit
open Go.Proofs.Ytdgbemafhhhceaa.Prio
namespace Tree
theorem oneV (v : Vec) : ∀ u ∈ cellsV v, u.oneCell' = true := by
  intro u hu
  simp [cellsV] at hu
  rcases hu with rfl | rfl | rfl | rfl <;> rfl
theorem infoV : (Try.prog.info? 62).map (fun i => (i.zero, i.size, i.bytes)) = some (some (.agg #[.int .u64 0, .int .i64 0, .int .u64 0, .int .i64 0]), 4, 32) := by kernel_rfl
theorem own_take {ids : List Int} {k : Nat} {x : Int} (h : ids[k]? = some x) : ((ids.take (k + 1)).map own).flatMap cellsV = ((ids.take k).map own).flatMap cellsV ++ cellsV (own x) := by
  obtain ⟨hk, e⟩ := List.getElem?_eq_some_iff.1 h
  rw [List.take_succ_eq_append_getElem hk, e]
  simp
theorem vec_blk {w : World} {g : Nat} {v : Vec} (h : Blk w g 62 (cellsV v).toArray) : w.cell? ⟨g, 0, none⟩ = some (.int .u64 v.root) ∧ w.cell? ⟨g, 1, none⟩ = some (.int .i64 v.cost) ∧ w.cell? ⟨g, 2, none⟩ = some (.int .u64 v.bridge) ∧ w.cell? ⟨g, 3, none⟩ = some (.int .i64 v.port) := ⟨h.cell 0, h.cell 1, h.cell 2, h.cell 3⟩
theorem own_mono' {w : World} {base base' n : Nat} {e : TypeId} {size : Nat} {v : Value} {xs : List Value} (h : w.ownsRow base e size v n xs) (hb : base' ≤ base) : w.ownsRow base' e size v n xs := by
  obtain ⟨h1, h2⟩ := h
  refine ⟨h1, ?_⟩
  rcases h2 with h2 | ⟨g, cap, cur, hv, hg, hr⟩
  · exact .inl h2
  · exact .inr ⟨g, cap, cur, hv, by omega, hr⟩
set_option maxHeartbeats 8000000 in
set_option maxRecDepth 100000 in
theorem rsettled_ (A1 : Option Addr) (n c1 : Nat) (ids : List Int) (A2 : Option Addr) (m c2 : Nat) (es : List En) (w : World) (h1 : Reads w w.heap.size 1 A1 n (ids.map (Value.int .u64))) (h2 : Reads w w.heap.size 5 A2 m (es.flatMap cellsE))
    (hn : n ≤ 12) (hm : m ≤ 200) (hes : ∀ e ∈ es, EndOk n e ∧ 0 ≤ e.to ∧ e.to < n) :
    Calls Try.prog 28 #[.slice A1 n c1, .slice A2 m c2] w fun e w' => (∃ A' c', e = .returned (.slice A' n c') ∧ Reads w' w'.heap.size 4 A' n ((rest ids es n).flatMap cellsV)) ∧ Below w.heap.size w w' := by
  obtain ⟨i0, hi, hz0, hz1, hz2⟩ := info_parts infoV
  have HL1 := Lib.hid (len_ids h1)
  have HES := Lib.hid hes
  clear hes
  go_enter Try.func28, Try.ntmps28
  go_wp2
  go_loopw [5, 6] (fun v i wr => ∃ k : Nat, k ≤ n ∧ i = .int .i64 k ∧ wr.ownsRow w.heap.size 62 4 v k (((ids.take k).map own).flatMap cellsV) ∧ Below w.heap.size w wr) (fun _ i _ => n - (intOf i).toNat)
  case atStart => exact ⟨0, Nat.zero_le _, rfl, ⟨by simp, .inl ⟨rfl, by simp⟩⟩, Below.refl _ _⟩
  case round =>
    obtain ⟨k, hk, rfl, hown, hbel⟩ := hrel
    have hbz := hbel.size
    by_cases hlt : k < n
    · have hlt' : (k : Int) < (n : Int) := by omega
      obtain ⟨b1, o1, x, rfl, hb1, hx, c0⟩ := read1 (h1.below hbel) hlt
      have HT := Lib.hid (own_take hx)
      have HO := Lib.hid hown
      have HB := Lib.hid hbel
      have q3 : k + 1 ≤ maxLen := by unfold maxLen; omega
      have q4 : (k + 1) * 32 ≤ 140737488355328 := by omega
      clear hx hown hbel
      go_wp2_with (first
        | (go_at_call 38; refine (rown_ x _).mono ?_; rintro e w1 ⟨rfl, b1'⟩; have z1 := b1'.size; have HO1 := Lib.hid (own_below HO.out b1'); have HB1 := Lib.hid (HB.out.trans (b1'.mono hbz)); clear b1')
        | (at_builtin; refine wpList_append_own _ rfl (.tmp 18) (.tmp 24) 71 rfl w.heap.size 62 i0 _ 4 32 Try.underlying71 hi hz0 hz1 hz2 rfl (by omega) u5 k _ rfl (HO1.out.alloc _) ⟨w1.heap.size, 0, none⟩ 1 1 (cellsV (own x)) rfl rfl (new_cells' _ (cellsV (own x)) 62 _ rfl) (oneV _) q3 q4 (by simp; omega) ?_; intro v4 w4 hown4 hg4 _)
        | go_in)
      go_roundw
      case rel => exact ⟨k + 1, by omega, by go_num, by rw [HT.out]; exact hown4, (HB1.out.alloc HB1.out.size _).grown hg4 (by simp; omega) (own_from HO1.out)⟩
      case measure => simp [intOf]; omega
    · have hke : k = n := by omega
      have HO : Hid (wr.ownsRow w.heap.size 62 4 u5 n ((rest ids es 0).flatMap cellsV)) := Lib.hid (by have := hown; rw [hke, ← HL1.out, List.take_length, HL1.out] at this; exact this)
      have HB := Lib.hid hbel
      subst hke
      clear hown hbel
      go_wp2
      go_loopw [5, 7] (fun v i wr => ∃ r : Nat, r ≤ k ∧ i = .int .i64 r ∧ wr.ownsRow w.heap.size 62 4 v k ((rest ids es r).flatMap cellsV) ∧ Below w.heap.size w wr) (fun _ i _ => k - (intOf i).toNat)
      case atStart => exact ⟨0, Nat.zero_le _, rfl, HO.out, HB.out⟩
      case round =>
        clear HO HB
        obtain ⟨r, hr, rfl, hown, hbel⟩ := hrel
        have hbz := hbel.size
        have HO := Lib.hid hown
        have HB := Lib.hid hbel
        obtain ⟨A5, c5, rfl, hrd⟩ := own_form hown
        have HRD := Lib.hid hrd
        clear hown hbel hrd
        by_cases hrl : r < k
        · have hrl' : (r : Int) < (k : Int) := by omega
          obtain ⟨wo, rfl⟩ : ∃ wo : World, wo = wr := ⟨_, rfl⟩
          go_wp2
          go_loopw [8, 9] (fun v i wr => ∃ b : Nat, b ≤ k ∧ i = .int .i64 b ∧ wr.ownsRow wo.heap.size 62 4 v b ((nextTo ids (rest ids es r) es b).flatMap cellsV) ∧ Below wo.heap.size wo wr) (fun _ i _ => k - (intOf i).toNat)
          case atStart => exact ⟨0, Nat.zero_le _, rfl, ⟨by simp [nextTo], .inl ⟨rfl, by simp [nextTo]⟩⟩, Below.refl _ _⟩
          case round =>
            obtain ⟨b, hb, rfl, hown, hbel⟩ := hrel
            have hoz := hbel.size
            have HO2 := Lib.hid hown
            have HB2 := Lib.hid hbel
            by_cases hbl : b < k
            · have hbl' : (b : Int) < (k : Int) := by omega
              obtain ⟨b1, o1, x, rfl, hb1, hx, c0⟩ := read1 ((h1.below HB.out).below (hbel.mono hbz)) hbl
              have R1 := ((h1.below HB.out).below (hbel.mono hbz)).more (show w.heap.size ≤ wr.heap.size by omega)
              have R2 := ((h2.below HB.out).below (hbel.mono hbz)).more (show w.heap.size ≤ wr.heap.size by omega)
              have R3 := (HRD.out.below hbel).more hoz
              obtain ⟨st, hst⟩ : ∃ st, st = bestOf x (heardE ids (rest ids es r) es b) := ⟨_, rfl⟩
              have HNV : Hid (nextV ids (rest ids es r) es b = st.2) := Lib.hid (by unfold nextV; rw [getD_of hx, hst])
              have HC1 := Lib.hid (rheard_ (some ⟨b1, o1, none⟩) k c1 ids A2 m c2 es A5 c5 (rest ids es r) b wr.drew R1 R2 R3 hm HES.out)
              have HC2 := Lib.hid (rheard_ (some ⟨b1, o1, none⟩) k c1 ids A2 m c2 es A5 c5 (rest ids es r) b (wr.alloc (.cells #[.int .u64 0, .int .i64 0, .int .u64 0, .int .i64 0] 62)).drew ((R1.alloc (Nat.le_refl _) (.cells #[.int .u64 0, .int .i64 0, .int .u64 0, .int .i64 0] 62)).more (by simp)) ((R2.alloc (Nat.le_refl _) (.cells #[.int .u64 0, .int .i64 0, .int .u64 0, .int .i64 0] 62)).more (by simp)) ((R3.alloc (Nat.le_refl _) (.cells #[.int .u64 0, .int .i64 0, .int .u64 0, .int .i64 0] 62)).more (by simp)) hm HES.out)
              have hne1 : b1 ≠ wr.heap.size := by omega
              have HBC : Hid (∀ (W : World) (A6 : Option Addr) (c6 : Nat), Reads W W.heap.size 6 A6 16 ((heardE ids (rest ids es r) es b).flatMap cellsH) → Calls Try.prog 39 #[.int .u64 x, .slice A6 16 c6] W fun e w' => e = .returned (.tuple #[.int .i64 st.1, .agg #[.int .u64 st.2.root, .int .i64 st.2.cost, .int .u64 st.2.bridge, .int .i64 st.2.port]]) ∧ Below W.heap.size W w') := Lib.hid (fun W A6 c6 hR => by
                rw [hst]
                exact rbest_ x A6 16 c6 _ W (by omega) hR)
              clear hown hbel hx R1 R2 R3 hst
              go_upto_region 14 with fail
              go_cut [11] (fun s11 wx => ∃ g : Nat, s11 = .pointer (some ⟨g, 0, none⟩) ∧ Blk wx g 62 (cellsV st.2).toArray ∧ wr.heap.size ≤ g ∧ Below wr.heap.size wr wx)
              case first =>
                go_region_held3 (fun w' => w'.cell? ⟨b1, o1 + b, none⟩ = some (.int .u64 x))
                  (first
                    | (simp [World.cell?_alloc_some, c0]; done)
                    | (simp [World.cell?_alloc_some, kc0]; done)
                    | (simp [World.cell?_alloc_some, mc0]; done)
                    | (simp [cell_far, kc0, hne1, hne2]; done)
                    | (simp [cell_far, mc0, hne1, hne2]; done))
                  (first
                    | (go_at_call 30; (with_reducible refine HC1.out.mono ?_); rintro e' w2 ⟨⟨A6, c6, rfl, hR6⟩, hb2'⟩; have kc0 : w2.cell? ⟨b1, o1 + b, none⟩ = some (.int .u64 x) := (by rw [(bcell hb2').1 _ _ (by simp; omega)]; simp [World.cell?_alloc_some, c0]); have hz2 : wr.heap.size ≤ w2.heap.size := (by have := hb2'.size; simp at this; omega); have hne2 : b1 ≠ w2.heap.size := (by omega); have HD1 := Lib.hid (HBC.out w2 A6 c6 hR6); have HD2 := Lib.hid (HBC.out (w2.alloc (.cells #[.int .u64 0, .int .i64 0, .int .u64 0, .int .i64 0] 62)) A6 c6 ((hR6.alloc (Nat.le_refl _) _).more (by simp))); have HW2 := Lib.hid hb2'; clear hR6 hb2')
                    | (go_at_call 30; (with_reducible refine HC2.out.mono ?_); rintro e' w2 ⟨⟨A6, c6, rfl, hR6⟩, hb2'⟩; have kc0 : w2.cell? ⟨b1, o1 + b, none⟩ = some (.int .u64 x) := (by rw [(bcell hb2').1 _ _ (by simp; omega)]; simp [World.cell?_alloc_some, c0]); have hz2 : wr.heap.size ≤ w2.heap.size := (by have := hb2'.size; simp at this; omega); have hne2 : b1 ≠ w2.heap.size := (by omega); have HD1 := Lib.hid (HBC.out w2 A6 c6 hR6); have HD2 := Lib.hid (HBC.out (w2.alloc (.cells #[.int .u64 0, .int .i64 0, .int .u64 0, .int .i64 0] 62)) A6 c6 ((hR6.alloc (Nat.le_refl _) _).more (by simp))); have HZ2 := Lib.hid ((Blk.new wr 62 #[.int .u64 0, .int .i64 0, .int .u64 0, .int .i64 0]).drew.below hb2' (by simp)); have HW2 := Lib.hid hb2'; clear hR6 hb2')
                    | (go_at_call 39; (with_reducible refine HD1.out.mono ?_); rintro e' w3 ⟨rfl, hb3'⟩; have HZ3 := Lib.hid (HZ2.out.below hb3' HZ2.out.lt); have mc0 : w3.cell? ⟨b1, o1 + b, none⟩ = some (.int .u64 x) := (by rw [(bcell hb3').1 _ _ (by omega)]; exact kc0); have zc0 : w3.cell? ⟨wr.heap.size, 0, none⟩ = some (.int .u64 0) := HZ3.out.cell 0; have zf0 : w3.frozen? ⟨wr.heap.size, 0, none⟩ = false := HZ3.out.frozen 0; have zc1 : w3.cell? ⟨wr.heap.size, 1, none⟩ = some (.int .i64 0) := HZ3.out.cell 1; have zf1 : w3.frozen? ⟨wr.heap.size, 1, none⟩ = false := HZ3.out.frozen 1; have zc2 : w3.cell? ⟨wr.heap.size, 2, none⟩ = some (.int .u64 0) := HZ3.out.cell 2; have zf2 : w3.frozen? ⟨wr.heap.size, 2, none⟩ = false := HZ3.out.frozen 2; have zc3 : w3.cell? ⟨wr.heap.size, 3, none⟩ = some (.int .i64 0) := HZ3.out.cell 3; have zf3 : w3.frozen? ⟨wr.heap.size, 3, none⟩ = false := HZ3.out.frozen 3; have HW3 := Lib.hid hb3'; clear hb3')
                    | (go_at_call 39; (with_reducible refine HD1.out.mono ?_); rintro e' w3 ⟨rfl, hb3'⟩; have mc0 : w3.cell? ⟨b1, o1 + b, none⟩ = some (.int .u64 x) := (by rw [(bcell hb3').1 _ _ (by omega)]; exact kc0); have HW3 := Lib.hid hb3'; clear hb3')
                    | (go_at_call 39; (with_reducible refine HD2.out.mono ?_); rintro e' w3 ⟨rfl, hb3'⟩; have mc0 : w3.cell? ⟨b1, o1 + b, none⟩ = some (.int .u64 x) := (by rw [(bcell hb3').1 _ _ (by simp; omega)]; simp [World.cell?_alloc_some, kc0]); have HZ3 := Lib.hid ((Blk.new w2 62 #[.int .u64 0, .int .i64 0, .int .u64 0, .int .i64 0]).below hb3' (by simp)); have zc0 : w3.cell? ⟨w2.heap.size, 0, none⟩ = some (.int .u64 0) := HZ3.out.cell 0; have zf0 : w3.frozen? ⟨w2.heap.size, 0, none⟩ = false := HZ3.out.frozen 0; have zc1 : w3.cell? ⟨w2.heap.size, 1, none⟩ = some (.int .i64 0) := HZ3.out.cell 1; have zf1 : w3.frozen? ⟨w2.heap.size, 1, none⟩ = false := HZ3.out.frozen 1; have zc2 : w3.cell? ⟨w2.heap.size, 2, none⟩ = some (.int .u64 0) := HZ3.out.cell 2; have zf2 : w3.frozen? ⟨w2.heap.size, 2, none⟩ = false := HZ3.out.frozen 2; have zc3 : w3.cell? ⟨w2.heap.size, 3, none⟩ = some (.int .i64 0) := HZ3.out.cell 3; have zf3 : w3.frozen? ⟨w2.heap.size, 3, none⟩ = false := HZ3.out.frozen 3; have HW3 := Lib.hid hb3'; clear hb3'))
                · go_wp2_with fail
                  go_meet
                  exact ⟨w3.heap.size, rfl, Blk.new _ _ _, by have := HW3.out.size; omega, (((Below.refl wr.heap.size wr).drew.trans HW2.out).trans (HW3.out.mono hz2)).alloc (by have := HW3.out.size; omega) _⟩
                · go_wp2_with fail
                  go_meet
                  have e3 := (((Below.refl wr.heap.size wr).drew.trans HW2.out).alloc hz2 _).trans (HW3.out.mono (by simp; omega))
                  exact ⟨w2.heap.size, rfl, (((HZ3.out.set_ 0 _).set_ 1 _).set_ 2 _).set_ 3 _, hz2, (((e3.setCell hz2 _).setCell hz2 _).setCell hz2 _).setCell hz2 _⟩
                · go_wp2_with fail
                  go_meet
                  have e3 := (((Below.refl wr.heap.size wr).alloc (Nat.le_refl _) _).drew.trans (HW2.out.mono (by simp))).trans (HW3.out.mono hz2)
                  exact ⟨wr.heap.size, rfl, (((HZ3.out.set_ 0 _).set_ 1 _).set_ 2 _).set_ 3 _, Nat.le_refl _, (((e3.setCell (Nat.le_refl _) _).setCell (Nat.le_refl _) _).setCell (Nat.le_refl _) _).setCell (Nat.le_refl _) _⟩
              case rest =>
                obtain ⟨g, rfl, hG, hg, hbx⟩ := hcut
                obtain ⟨v0, v1, v2, v3⟩ := vec_blk hG
                have q3 : b + 1 ≤ maxLen := by unfold maxLen; omega
                have q4 : (b + 1) * 32 ≤ 140737488355328 := by omega
                have hxz := hbx.size
                have HO3 := Lib.hid (own_below HO2.out hbx)
                have HB3 := Lib.hid (HB2.out.trans (hbx.mono hoz))
                have HX3 := Lib.hid hbx
                clear hG hbx c0
                go_wp2_with (first
                  | (at_builtin; refine wpList_append_own _ rfl (.tmp 51) (.tmp 53) 71 rfl wo.heap.size 62 i0 _ 4 32 Try.underlying71 hi hz0 hz1 hz2 rfl (by omega) u8 b _ rfl (HO3.out.alloc _) ⟨wc.heap.size, 0, none⟩ 1 1 (cellsV st.2) rfl rfl (new_cells' _ (cellsV st.2) 62 _ rfl) (oneV _) q3 q4 (by simp; omega) ?_; intro v4 w4 hown4 hg4 _)
                  | go_in)
                go_roundw
                case rel =>
                  refine ⟨b + 1, by omega, by go_num, ?_, (HB3.out.alloc (by omega) _).grown hg4 (by simp; omega) (own_from HO3.out)⟩
                  unfold nextTo
                  rw [List.flatMap_append, HNV.out]
                  simpa using hown4
                case measure => simp [intOf]; omega
            · have e : b = k := by omega
              have HO3 : Hid (wr.ownsRow w.heap.size 62 4 u8 k ((rest ids es (r + 1)).flatMap cellsV)) := Lib.hid (by
                have := HO2.out
                rw [e] at this
                unfold rest
                rw [HL1.out]
                exact own_mono' this hbz)
              have HB3 := Lib.hid (HB.out.trans (hbel.mono hbz))
              clear hown hbel
              go_wp2
              exact ⟨⟨r + 1, by omega, by go_num, HO3.out, HB3.out⟩, by simp [intOf]; omega⟩
        · have e : r = k := by omega
          subst e
          go_wp2
          go_ret
          exact ⟨⟨_, _, rfl, HRD.out⟩, HB.out⟩
end Tree
end Go.Proofs.Ytdgbemafhhhceaa
