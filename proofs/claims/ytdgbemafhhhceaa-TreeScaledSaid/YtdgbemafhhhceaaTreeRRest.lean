/-
  The walk of the document's Rest: the roles at both ends of all links.
-/
import Derived.Test.YtdgbemafhhhceaaTreeRSettled
namespace Go.Proofs.Ytdgbemafhhhceaa
set_option linter.unusedVariables false
set_option linter.unusedSimpArgs false
open Go.RowKit
open Go.Proofs.Ytdgbemafhhhceaa.Prio
namespace Tree
def cells2 (p : Int × Int) : List Value := [.int .i64 p.1, .int .i64 p.2]
theorem len2 (p : Int × Int) : (cells2 p).length = 2 := rfl
theorem one2 (p : Int × Int) : ∀ u ∈ cells2 p, u.oneCell' = true := by
  intro u hu
  simp [cells2] at hu
  rcases hu with rfl | rfl <;> rfl
theorem info2 : (Try.prog.info? 38).map (fun i => (i.zero, i.size, i.bytes)) = some (some (.agg #[.int .i64 0, .int .i64 0]), 2, 16) := by kernel_rfl
theorem readI {w : World} {B n : Nat} {A : Option Addr} {xs : List Int} (hr : Reads w B 1 A n (xs.map (Value.int .i64))) {k : Nat} (hk : k < n) : ∃ (b off : Nat) (x : Int), A = some ⟨b, off, none⟩ ∧ b < B ∧ xs[k]? = some x ∧ w.cell? ⟨b, off + k, none⟩ = some (.int .i64 x) := by
  have hl : xs.length = n := by have := hr.1; simpa using this
  obtain ⟨b, off, hA, hb, hc⟩ := hr.flat (by omega) (by simp; omega)
  have hx : xs[k]? = some xs[k] := List.getElem?_eq_getElem (by omega)
  exact ⟨b, off, xs[k], hA, hb, hx, hc k _ (by rw [List.getElem?_map, hx]; rfl)⟩
/-- the two ends of a link that may be -/
theorem May.link {ids : List Int} {ls : List Lk} (h : May ids ls) {l : Lk} (hl : l ∈ ls) : ∃ a pa b pb : Nat, l.a = a ∧ l.pa = pa ∧ l.b = b ∧ l.pb = pb ∧ a < ids.length ∧ b < ids.length ∧ pa < 16 ∧ pb < 16 ∧ 1 ≤ l.cost ∧ l.cost ≤ 200000000 := by
  have h1 := h.ok ⟨l.a, l.pa, l.b, l.pb, l.cost⟩ (List.mem_flatMap.2 ⟨l, hl, by simp [two]⟩)
  have h2 := h.ok ⟨l.b, l.pb, l.a, l.pa, l.cost⟩ (List.mem_flatMap.2 ⟨l, hl, by simp [two]⟩)
  obtain ⟨a0, a1, p0, p1, c0, c1⟩ := h1
  obtain ⟨b0, b1, r0, r1, _, _⟩ := h2
  simp only at *
  exact ⟨l.a.toNat, l.pa.toNat, l.b.toNat, l.pb.toNat, by omega, by omega, by omega, by omega, by omega, by omega, by omega, by omega, c0, c1⟩
theorem May.ends {ids : List Int} {ls : List Lk} (h : May ids ls) {n : Nat} (hn : ids.length = n) : ∀ e ∈ endsOf ls, EndOk n e ∧ 0 ≤ e.to ∧ e.to < n := fun e he => by
  subst hn
  have := h.to_ he
  exact ⟨h.ok e he, this.1, this.2.1⟩
theorem restOf_take {ids : List Int} {ls : List Lk} {k : Nat} {l : Lk} (h : ls[k]? = some l) : ((ls.take (k + 1)).map (pairOf ids ls)).flatMap cells2 = ((ls.take k).map (pairOf ids ls)).flatMap cells2 ++ cells2 (pairOf ids ls l) := by
  obtain ⟨hk, e⟩ := List.getElem?_eq_some_iff.1 h
  rw [List.take_succ_eq_append_getElem hk, e]
  simp
theorem own_lt {w : World} {base n : Nat} {e : TypeId} {size : Nat} {v : Value} {xs : List Value} (h : w.ownsRow base e size v n xs) : ∀ k, v.ownBlock = some k → k < w.heap.size := by
  intro k hk
  rcases h.2 with ⟨rfl, _⟩ | ⟨g, cap, cur, rfl, hg, hh, _⟩
  · simp [Value.ownBlock] at hk
  · simp [Value.ownBlock] at hk
    subst hk
    exact (Array.getElem?_eq_some_iff.1 hh).1
theorem own_new {w : World} {base n b : Nat} {e : TypeId} {size : Nat} {v : Value} {xs : List Value} (h : w.ownsRow base e size v n xs) (hb : w.heap.size ≤ b) : v.ownBlock ≠ some b := fun he => by
  have := own_lt h b he
  omega
set_option maxHeartbeats 8000000 in
set_option maxRecDepth 100000 in
theorem rrest_ (A1 : Option Addr) (n c1 : Nat) (ids : List Int) (A2 : Option Addr) (m c2 : Nat) (ls : List Lk) (w : World) (h1 : Reads w w.heap.size 1 A1 n (ids.map (Value.int .u64))) (h2 : Reads w w.heap.size 5 A2 m (ls.flatMap cellsL)) (hmay : May ids ls) :
    Calls Try.prog 16 #[.slice A1 n c1, .slice A2 m c2] w fun e w' => (∃ A' c', e = .returned (.slice A' m c') ∧ Reads w' w'.heap.size 2 A' m ((restOf ids ls).flatMap cells2)) ∧ Below w.heap.size w w' := by
  obtain ⟨i0, hi, hz0, hz1, hz2⟩ := info_parts info2
  have hl1 := len_ids h1
  have hl2 := len_of h2
  have hn : n ≤ 12 := by have := hmay.n2; omega
  have hm : m ≤ 40 := by have := hmay.l; omega
  have HM := Lib.hid hmay
  have HL1 := Lib.hid hl1
  have HL2 := Lib.hid hl2
  have HES := Lib.hid (hmay.ends hl1)
  clear hmay hl1 hl2
  go_enter Try.func16, Try.ntmps16
  go_wp2_with fail
  refine (rends_ A2 m c2 ls _ (by omega) h2).mono ?_
  rintro e w1 ⟨⟨A3, c3, rfl, h3⟩, b1⟩
  have z1 := b1.size
  have k1 := (h1.below b1).more z1
  go_wp2_with fail
  refine (rsettled_ A1 n c1 ids A3 (2 * m) c3 (endsOf ls) _ k1 h3 hn (by omega) HES.out).mono ?_
  rintro e w2 ⟨⟨A4, c4, rfl, h4⟩, b2⟩
  have z2 := b2.size
  have HR1 := Lib.hid ((k1.below b2).more z2)
  have HR3 := Lib.hid ((h3.below b2).more z2)
  have HR4 : Hid (Reads w2 w2.heap.size 4 A4 n ((atRest ids ls).flatMap cellsV)) := Lib.hid (by unfold atRest; rw [HL1.out]; exact h4)
  have HR2 := Lib.hid ((h2.below (b1.trans (b2.mono z1))).more (show w.heap.size ≤ w2.heap.size by omega))
  have HB := Lib.hid (b1.trans (b2.mono z1))
  clear k1 h3 h4 b1 b2 h1 h2
  go_wp2
  go_loopw [7, 8] (fun v i wr => ∃ k : Nat, k ≤ m ∧ i = .int .i64 k ∧ wr.ownsRow w2.heap.size 38 2 v k (((ls.take k).map (pairOf ids ls)).flatMap cells2) ∧ Below w2.heap.size w2 wr) (fun _ i _ => m - (intOf i).toNat)
  case atStart => exact ⟨0, Nat.zero_le _, rfl, ⟨by simp, .inl ⟨rfl, by simp⟩⟩, Below.refl _ _⟩
  case round =>
    obtain ⟨k, hk, rfl, hown, hbel⟩ := hrel
    have hbz := hbel.size
    have HO := Lib.hid hown
    have HBL := Lib.hid hbel
    by_cases hlt : k < m
    · have hlt' : (k : Int) < (m : Int) := by omega
      obtain ⟨b2, o2, l, rfl, hb2, hx, d0, d1, d2, d3, d4⟩ := read5 (HR2.out.below hbel) hlt
      obtain ⟨a, pa, b, pb, ea, epa, eb, epb, ha, hb, hpa, hpb, _, _⟩ := HM.out.link (List.mem_of_getElem? hx)
      rw [HL1.out] at ha hb
      have ha' : (a : Int) < (n : Int) := by omega
      have hb' : (b : Int) < (n : Int) := by omega
      have hpa' : (pa : Int) < 16 := by omega
      have hpb' : (pb : Int) < 16 := by omega
      rw [ea] at d0
      rw [epa] at d1
      rw [eb] at d2
      rw [epb] at d3
      obtain ⟨b1, o1, x, rfl, hb1, hxa, c0⟩ := read1 (HR1.out.below hbel) ha
      obtain ⟨b1', o1', y, hA, _, hyb, c1'⟩ := read1 (HR1.out.below hbel) hb
      cases hA
      have HT := Lib.hid (restOf_take (ids := ids) hx)
      have HRA : Hid (rolesB ids ls a = rolesOf x (heardE ids (atRest ids ls) (endsOf ls) a)) := Lib.hid (by unfold rolesB; rw [Int.toNat_natCast, getD_of hxa])
      have HRB : Hid (rolesB ids ls b = rolesOf y (heardE ids (atRest ids ls) (endsOf ls) b)) := Lib.hid (by unfold rolesB; rw [Int.toNat_natCast, getD_of hyb])
      have HP : Hid (pairOf ids ls l = ((rolesB ids ls a).getD pa 0, (rolesB ids ls b).getD pb 0)) := Lib.hid (by unfold pairOf; rw [ea, epa, eb, epb, Int.toNat_natCast, Int.toNat_natCast])
      have HC : Hid (∀ (W : World) (z : Nat), Below w2.heap.size w2 W → Calls Try.prog 30 #[.slice (some ⟨b1, o1, none⟩) n c1, .slice A3 (2 * m) c3, .slice A4 n c4, .int .i64 z] W fun e w' => (∃ A' c', e = .returned (.slice A' 16 c') ∧ Reads w' w'.heap.size 6 A' 16 ((heardE ids (atRest ids ls) (endsOf ls) z).flatMap cellsH)) ∧ Below W.heap.size W w') := Lib.hid (fun W z hW =>
        rheard_ (some ⟨b1, o1, none⟩) n c1 ids A3 (2 * m) c3 (endsOf ls) A4 c4 (atRest ids ls) z W ((HR1.out.below hW).more hW.size) ((HR3.out.below hW).more hW.size) ((HR4.out.below hW).more hW.size) (by omega) HES.out)
      clear hx hxa hyb ea epa eb epb hown hbel
      go_wp2
      go_region_held3 (fun w' => w'.cell? ⟨b2, o2 + k * 5, none⟩ = some (.int .i64 a) ∧ w'.cell? ⟨b1, o1 + a, none⟩ = some (.int .u64 x))
        (first
          | go_keep
          | (simp [kd0, kc0]; done))
        (first
          | (go_at_call 30; refine (HC.out _ a HBL.out.drew).mono ?_; rintro e' w3 ⟨⟨A6, c6, rfl, hR6⟩, hb3⟩; have kd0 : w3.cell? ⟨b2, o2 + k * 5, none⟩ = some (.int .i64 a) := ((bcell hb3).1 _ _ (by simp; omega)).trans d0; have kc0 : w3.cell? ⟨b1, o1 + a, none⟩ = some (.int .u64 x) := ((bcell hb3).1 _ _ (by simp; omega)).trans c0; have HR6 := Lib.hid hR6; have HB3 := Lib.hid ((Below.refl wr.heap.size wr).drew.trans hb3); clear hR6 hb3)
          | (go_at_call 29; refine (rroles_lo x A6 16 c6 _ w3 (by omega) HR6.out).mono ?_; rintro e' w4 ⟨⟨A7, c7, rfl, hR7, hF7⟩, hb4⟩; have HF7 := Lib.hid hF7; clear hF7; have kd0' : w4.cell? ⟨b2, o2 + k * 5, none⟩ = some (.int .i64 a) := ((bcell hb4).1 _ _ (by have := HB3.out.size; omega)).trans kd0; have kc0' : w4.cell? ⟨b1, o1 + a, none⟩ = some (.int .u64 x) := ((bcell hb4).1 _ _ (by have := HB3.out.size; omega)).trans kc0; have HR7 := Lib.hid hR7; have HB4 := Lib.hid (HB3.out.trans (hb4.mono HB3.out.size)); clear hR7 hb4))
      go_wp2
      have y4 := HB4.out.size
      have hb2w : b2 < wr.heap.size := by omega
      have hb1w : b1 < wr.heap.size := by omega
      have d2' : w4.cell? ⟨b2, o2 + k * 5 + 2, none⟩ = some (.int .i64 b) := ((bcell HB4.out).1 _ _ hb2w).trans d2
      have c1'' : w4.cell? ⟨b1, o1 + b, none⟩ = some (.int .u64 y) := ((bcell HB4.out).1 _ _ hb1w).trans c1'
      have HBL4 := Lib.hid (HBL.out.trans (HB4.out.mono hbz))
      clear kd0 kc0 kd0' kc0' d0 c0
      go_region_held3 (fun w' => w'.cell? ⟨b2, o2 + k * 5 + 2, none⟩ = some (.int .i64 b) ∧ w'.cell? ⟨b1, o1 + b, none⟩ = some (.int .u64 y))
        (first
          | go_keep
          | (simp [ld0, lc0]; done))
        (first
          | (go_at_call 30; refine (HC.out _ b HBL4.out.drew).mono ?_; rintro e' w5 ⟨⟨A8, c8, rfl, hR8⟩, hb5⟩; have ld0 : w5.cell? ⟨b2, o2 + k * 5 + 2, none⟩ = some (.int .i64 b) := ((bcell hb5).1 _ _ (by simp; omega)).trans d2'; have lc0 : w5.cell? ⟨b1, o1 + b, none⟩ = some (.int .u64 y) := ((bcell hb5).1 _ _ (by simp; omega)).trans c1''; have HR8 := Lib.hid hR8; have HB5 := Lib.hid ((Below.refl w4.heap.size w4).drew.trans hb5); clear hR8 hb5)
          | (go_at_call 29; refine (rroles_lo y A8 16 c8 _ w5 (by omega) HR8.out).mono ?_; rintro e' w6 ⟨⟨A9, c9, rfl, hR9, hF9⟩, hb6⟩; have HF9 := Lib.hid hF9; clear hF9; have ld0' : w6.cell? ⟨b2, o2 + k * 5 + 2, none⟩ = some (.int .i64 b) := ((bcell hb6).1 _ _ (by have := HB5.out.size; omega)).trans ld0; have lc0' : w6.cell? ⟨b1, o1 + b, none⟩ = some (.int .u64 y) := ((bcell hb6).1 _ _ (by have := HB5.out.size; omega)).trans lc0; have HR9 := Lib.hid hR9; have HB6 := Lib.hid (HB5.out.trans (hb6.mono HB5.out.size)); clear hR9 hb6))
      go_wp2
      have HB46 := Lib.hid (HB4.out.trans (HB6.out.mono y4))
      have y6 := HB46.out.size
      have y56 := HB6.out.size
      have m1 : w6.cell? ⟨b2, o2 + k * 5 + 1, none⟩ = some (.int .i64 pa) := ((bcell HB46.out).1 _ _ hb2w).trans d1
      have m3 : w6.cell? ⟨b2, o2 + k * 5 + 3, none⟩ = some (.int .i64 pb) := ((bcell HB46.out).1 _ _ hb2w).trans d3
      obtain ⟨ba, oa, ra, rfl, hba, hra, n1⟩ := readI ((HR7.out.below HB6.out).more y56) hpa
      obtain ⟨bb, ob, rb, rfl, hbb, hrb, n2⟩ := readI HR9.out hpb
      have HV : Hid (pairOf ids ls l = (ra, rb)) := Lib.hid (by rw [HP.out, HRA.out, HRB.out, getD_of hra, getD_of hrb])
      have HO6 := Lib.hid (own_below HO.out HB46.out)
      have q3 : k + 1 ≤ maxLen := by unfold maxLen; omega
      have q4 : (k + 1) * 16 ≤ 140737488355328 := by omega
      have hne2 : u7.ownBlock ≠ some b2 := own_ne HO.out hb2
      have hba2 : wr.heap.size ≤ ba := by have h := HF7.out _ rfl; have h2 := HB3.out.size; simp only at h; omega
      have hbb2 : wr.heap.size ≤ bb := by have h := HF9.out _ rfl; have h2 := HB5.out.size; simp only at h; omega
      have hne3 : u7.ownBlock ≠ some ba := own_new HO.out hba2
      have hne4 : u7.ownBlock ≠ some bb := own_new HO.out hbb2
      have hown6 := HO6.out
      clear ld0 lc0 ld0' lc0' d1 d2 d3 d4 d2' c1' c1''
      go_region_held3 (fun w' => w'.cell? ⟨b2, o2 + k * 5 + 1, none⟩ = some (.int .i64 pa) ∧ w'.cell? ⟨b2, o2 + k * 5 + 3, none⟩ = some (.int .i64 pb) ∧ w'.cell? ⟨ba, oa + pa, none⟩ = some (.int .i64 ra) ∧ w'.cell? ⟨bb, ob + pb, none⟩ = some (.int .i64 rb))
        (first
          | go_keep
          | (go_split_ands; refine ⟨?_, ?_, ?_, ?_⟩; (rw [hgrow.cell_far _ (by simp; omega) (Ne.symm hne2)]; assumption); (rw [hgrow.cell_far _ (by simp; omega) (Ne.symm hne2)]; assumption); (rw [hgrow.cell_far _ (by simp; omega) (Ne.symm hne3)]; assumption); (rw [hgrow.cell_far _ (by simp; omega) (Ne.symm hne4)]; assumption)))
        ((refine step_append_lies _ (by rfl) _ _ _ (by rfl) w2.heap.size 38 i0 _ 2 16 Try.underlying30 hi hz0 hz1 hz2 rfl (by omega) _ k _ (by rfl) ((hown6.alloc _).drew) ⟨w6.heap.size, 0, none⟩ 1 1 (cells2 (ra, rb)) (by rfl) (by rfl) (new_cells w6 (cells2 (ra, rb)) 38) (one2 _) (by omega) q3 q4 (size_drew_alloc (by omega) _) (w6.heap.size + 1) (by simp) ?_; intro gg cap w7 hown' hgrow hat hlt2))
      go_wp2
      go_roundw
      case rel =>
        refine ⟨k + 1, by omega, by go_num, by rw [HT.out, HV.out]; exact hown', ?_⟩
        exact ((((HBL.out.trans (HB46.out.mono hbz)).alloc (by omega) _).drew).grown hgrow (by simp; omega) (own_from hown6))
      case measure => simp [intOf]; omega
    · have e : k = m := by omega
      have HO3 : Hid (wr.ownsRow w2.heap.size 38 2 u7 m ((restOf ids ls).flatMap cells2)) := Lib.hid (by have := hown; rw [e, ← HL2.out, List.take_length, HL2.out] at this; exact this)
      subst e
      obtain ⟨A9, c9, rfl, hr9⟩ := own_form HO3.out
      clear hown hbel
      go_wp2
      go_ret
      exact ⟨⟨_, _, rfl, hr9⟩, HB.out.trans (HBL.out.mono HB.out.size)⟩
end Tree
end Go.Proofs.Ytdgbemafhhhceaa
