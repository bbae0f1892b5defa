/-
  The walk of WheelAll.
-/
import Derived.Test.YtifhjbboddfbcaaWheelParts
namespace Go.Proofs.Ytifhjbboddfbcaa
set_option linter.unusedVariables false
set_option linter.unusedSimpArgs false
open Go.RowKit Go.Maps
namespace WhlL
open Whl WhlC WhlI
theorem meas1 {q n : Nat} (h : q + 1 < n) : n - (intOf (.int .i64 ((q : Int) + 1 + 1))).toNat < n - (intOf (.int .i64 ((q + 1 : Nat) : Int))).toNat := by
  simp [intOf]; omega
theorem max_ge (a b : Int) : a ≤ max a b ∧ b ≤ max a b := by omega
/-- the latest time so far is not less than any -/
def LastIs (ts : List Tm) (b : Int) : Prop := 0 ≤ b ∧ ∀ x ∈ ts, x.2.1 ≤ b
theorem last_same {l : List Int} {k : Nat} {a b : Int} (h : LastIs (T l k) b) (hk : l[k]? = some a) (ha : a < 0) : LastIs (T l (k + 1)) b := by rw [T_neg hk ha]; exact h
theorem last_new {l : List Int} {k : Nat} {a b : Int} (h : LastIs (T l k) b) (hk : l[k]? = some a) (ha : ¬ a < 0) : LastIs (T l (k + 1)) (max b a) := by
  obtain ⟨m1, m2⟩ := max_ge b a
  rw [T_ok hk ha]
  refine ⟨by have := h.1; omega, fun x hx => ?_⟩
  rcases List.mem_append.1 hx with hx | hx
  · have := h.2 x hx; omega
  · simp at hx; subst hx; exact m2
theorem all_due {ts : List Tm} {b : Int} (h : LastIs ts b) {la : List Tm} (hd : DueIs ts b la) : la.Perm ts ∧ ts.filter (fun x => !isDue b x) = [] := by
  have e : ts.filter (isDue b) = ts := List.filter_eq_self.2 fun x hx => by simp [isDue, h.2 x hx]
  have p := hd.1
  rw [e] at p
  exact ⟨p, List.filter_eq_nil_iff.2 fun x hx => by simp [isDue, h.2 x hx]⟩
/-- two that come one behind the other -/
theorem all_next {l : List Int} {n : Nat} {b : Int} {la : List Tm} (hd : DueIs (T l n) b la) (hp : la.Perm (T l n)) {q : Nat} {y x : Tm} (hy : la[q]? = some y) (hx : la[q + 1]? = some x) : y.2.1 < x.2.1 ∨ (y.2.1 = x.2.1 ∧ y.1 < x.1) := by
  obtain ⟨hq, e1⟩ := List.getElem?_eq_some_iff.1 hy
  obtain ⟨hq', e2⟩ := List.getElem?_eq_some_iff.1 hx
  have h1 := List.pairwise_iff_getElem.1 hd.2 q (q + 1) hq hq' (Nat.lt_succ_self q)
  rw [e1, e2, cmpT_neg] at h1
  have hym := hp.mem_iff.1 (List.mem_of_getElem? hy)
  have hxm := hp.mem_iff.1 (List.mem_of_getElem? hx)
  have hnd : la.Pairwise fun x y => x ≠ y := (hp.pairwise_iff (fun {x y} (h : x ≠ y) => Ne.symm h)).2 ((T_keys l n).imp fun h e => by rw [e] at h; have := h.1; omega)
  have hne := List.pairwise_iff_getElem.1 hnd q (q + 1) hq hq' (Nat.lt_succ_self q)
  rw [e1, e2] at hne
  have htri : ∀ (ts : List Tm), (ts.Pairwise fun x y => x.1 < y.1 ∧ x.2.2 < y.2.2) → ∀ {a c : Tm}, a ∈ ts → c ∈ ts → (a.1 < c.1 ∧ a.2.2 < c.2.2) ∨ a = c ∨ (c.1 < a.1 ∧ c.2.2 < a.2.2) := by
    intro ts
    induction ts with
    | nil => intro _ a c ha; cases ha
    | cons t r ih =>
      intro h a c ha hc
      rw [List.pairwise_cons] at h
      rcases List.mem_cons.1 ha with e | ha'
      · rcases List.mem_cons.1 hc with e' | hc'
        · exact Or.inr (Or.inl (e.trans e'.symm))
        · exact Or.inl (e ▸ h.1 _ hc')
      · rcases List.mem_cons.1 hc with e' | hc'
        · exact Or.inr (Or.inr (e' ▸ h.1 _ ha'))
        · exact ih h.2 ha' hc'
  rcases htri _ (T_keys l n) hym hxm with h | h | h
  · omega
  · exact absurd h hne
  · omega
theorem b_code (a : Int) : ((if a < 0 then (1 : Int) else 0) == 0) = decide (0 ≤ a) := by
  split <;> simp <;> omega
set_option maxHeartbeats 4000000 in
set_option maxRecDepth 20000 in
theorem all_law (A : Option Addr) (n c : Nat) (l : List Int) (w : World) (hr : Reads w w.heap.size 1 A n (l.map (Value.int .i64))) :
    Calls Try.prog 3 #[.slice A n c] w fun e w' => e = .returned (.bool true) ∧ Below w.heap.size w w' := by
  have hl : l.length = n := by have := hr.1; simpa using this
  by_cases h60 : 60 < n
  · have h60' : (n : Int) > 60 := by omega
    go_enter Try.func3, Try.ntmps3
    go_wp2_with fail
    refine (live_ _).mono ?_
    rintro e w1 ⟨rfl, b1⟩
    go_wp2
    go_ret
    exact ⟨rfl, b1⟩
  · have h60' : ¬ (n : Int) > 60 := by omega
    go_enter Try.func3, Try.ntmps3
    go_wp2_with fail
    refine (newO w 60 (by omega) (by omega)).mono ?_
    rintro e w1 ⟨rfl, b1, on1⟩
    have z1 := b1.size
    have B1 := Lib.hid b1
    clear b1
    go_wp2
    go_loopw [5, 6, 7] (fun nv lv i wr => ∃ (k : Nat) (b : Int), k ≤ n ∧ i = .int .i64 k ∧ nv = .int .i64 (T l k).length ∧ lv = .int .i64 b ∧ LastIs (T l k) b ∧ On wr (w.heap.size + 1) w.heap.size 60 ((T l k).length : Int) (T l k) ∧ Below w.heap.size w wr) (fun _ _ i _ => n - (intOf i).toNat)
    case atStart => exact ⟨0, 0, Nat.zero_le _, rfl, rfl, rfl, ⟨Int.le_refl _, by simp [T]⟩, on1, B1.out⟩
    case round =>
      obtain ⟨k, b, hk, rfl, rfl, rfl, hb, hon, hbel⟩ := hrel
      have hbz := hbel.size
      have hTl := T_len l k
      by_cases hlt : k < n
      · have hlt' : (k : Int) < (n : Int) := by omega
        obtain ⟨bb, off, rfl, hbb, hcc⟩ := hr.flat (by omega) (by simp; omega)
        obtain ⟨a, ha⟩ : ∃ a, l[k]? = some a := ⟨_, List.getElem?_eq_getElem (by omega)⟩
        have e0 := hcc k (.int .i64 a) (by rw [List.getElem?_map, ha]; rfl)
        have d0 : wr.cell? ⟨bb, off + k, none⟩ = some (.int .i64 a) := (hbel.cell (p := ⟨bb, off + k, none⟩) hbb).trans e0
        have HA := Lib.hid ha
        have HB := Lib.hid hb
        have HE := Lib.hid hbel
        clear hcc hr ha hb hbel
        go_wp2_with fail
        refine (arm_ hon (wf_small (by omega) (by omega)) a (by omega) (by omega) (by omega)).mono ?_
        rintro e w2 ⟨rfl, k2, on2⟩
        rw [armS_T (by omega) HA.out] at on2 ⊢
        simp only at on2 ⊢
        have k2z := k2.size
        have d2 : w2.cell? ⟨bb, off + k, none⟩ = some (.int .i64 a) := (k2.cells bb (off + k) (by omega) (by simp; omega)).trans d0
        have hz : ∀ x ∈ [w.heap.size + 1, w.heap.size], w.heap.size ≤ x := by simp
        have HE2 := Lib.hid (HE.out.trans (k2.below hbz hz))
        have HON := Lib.hid on2
        clear hon k2 d0 e0 on2
        by_cases ha : a < 0
        · have HBN := Lib.hid (last_same HB.out HA.out ha)
          have ET := Lib.hid (T_neg HA.out ha)
          have ha2 : ¬ a ≥ 0 := by omega
          have ha3 : ¬ 0 ≤ a := by omega
          rw [if_pos ha]
          go_wp2
          exact ⟨⟨k + 1, b, by omega, by go_num, by rw [ET.out], rfl, HBN.out, HON.out, HE2.out⟩, by simp [intOf]; omega⟩
        · have HBN := Lib.hid (last_new HB.out HA.out ha)
          have ET := Lib.hid (show ((T l (k + 1)).length : Int) = ((T l k).length : Int) + 1 by rw [T_ok HA.out ha, List.length_append]; rfl)
          have ha2 : a ≥ 0 := by omega
          rw [if_neg ha]
          go_wp2
          exact ⟨⟨k + 1, max b a, by omega, by go_num, by rw [ET.out], rfl, HBN.out, HON.out, HE2.out⟩, by simp [intOf]; omega⟩
      · have e : k = n := by omega
        subst e
        have HB := Lib.hid hb
        have HE := Lib.hid hbel
        clear hb hbel
        go_wp2_with fail
        refine (dueO hon (by omega) b).mono ?_
        rintro e w3 ⟨la, va, da, rfl, owna, k3, on3⟩
        have hz : ∀ x ∈ [w.heap.size], w.heap.size ≤ x := by simp
        have HE3 := Lib.hid (HE.out.trans (k3.below hbz hz))
        have z3 := Nat.le_trans hbz k3.size
        obtain ⟨p1, p2⟩ := all_due HB.out da
        rw [p2] at on3
        obtain ⟨Aa, ca, rfl, ra⟩ := reads_ownI owna
        have hll : (la.length : Int) = ((T l k).length : Int) := by rw [p1.length_eq]
        have hlk : la.length ≤ 60 := by have := p1.length_eq; omega
        have HP := Lib.hid p1
        have HDU := Lib.hid da
        have RA := Lib.hid ra
        have RL := Lib.hid hr
        clear p1 p2 da ra hr owna k3
        go_wp2_with fail
        refine (WhlI.len_ _ _ _ _ _ _ on3.at_).mono ?_
        rintro e w4 ⟨rfl, rfl⟩
        clear on3
        go_wp2
        go_loopw [10] (fun i wr => ∃ (j m : Nat), j ≤ la.length ∧ i = .int .i64 j ∧ wr = w3.drewN m) (fun i _ => la.length - (intOf i).toNat)
        case atStart => exact ⟨0, 0, Nat.zero_le _, rfl, rfl⟩
        case round =>
          obtain ⟨j, m, hj, rfl, rfl⟩ := hrel
          by_cases hlt : j < la.length
          · have hlt' : (j : Int) < (la.length : Int) := by omega
            have HLT := Lib.hid hlt
            obtain ⟨b3, o3, rfl, hb3, hc3⟩ := RA.out.flat (by omega) (by simp; omega)
            obtain ⟨x, hx⟩ : ∃ x, la[j]? = some x := ⟨_, List.getElem?_eq_getElem hlt⟩
            obtain ⟨px, hpx, ex, hlx, hx0⟩ := T_mem l k (HP.out.mem_iff.1 (List.mem_of_getElem? hx))
            obtain ⟨bb, off, rfl, hbb, hcc⟩ := RL.out.flat (by omega) (by simp; omega)
            have d3 : w3.cell? ⟨b3, o3 + j, none⟩ = some (.int .i64 px) := hc3 j _ (by simp [hx, ex])
            have e3 : w3.cell? ⟨bb, off + px, none⟩ = some (.int .i64 x.2.1) := (HE3.out.cell (p := ⟨bb, off + px, none⟩) hbb).trans (hcc px _ (by simp [hlx]))
            have hx0' : ¬ x.2.1 < 0 := by omega
            have hpx' : (px : Int) < (k : Int) := by omega
            cases j with
            | zero =>
              simp only [Nat.add_zero] at d3
              clear hcc hc3 hx hlx
              go_wp2
              refine region_tail 49 (by kernel_rfl) (by kernel_rfl) ?_
              simp only [List.take_succ_cons, List.take_zero, List.drop_succ_cons, List.drop_zero]
              refine SW.un ?_
              (refine SW.want (by kernel_rfl) (fun K hK => ?_); have HK := Lib.hid hK; clear hK; go_simp; refine SW.on HK ?_; clear HK K)
              (refine SW.want (by kernel_rfl) (fun K hK => ?_); have HK := Lib.hid hK; clear hK; go_simp; refine SW.on HK ?_; clear HK K)
              (refine SW.want (by kernel_rfl) (fun K hK => ?_); have HK := Lib.hid hK; clear hK; go_simp; refine SW.on HK ?_; clear HK K)
              (refine SW.skip (by kernel_rfl) (fun K hK => ?_); have HK := Lib.hid hK; clear hK; go_simp; refine SW.on HK ?_; clear HK K)
              (refine SW.skip (by kernel_rfl) (fun K hK => ?_); have HK := Lib.hid hK; clear hK; go_simp; refine SW.on HK ?_; clear HK K)
              (refine SW.skip (by kernel_rfl) (fun K hK => ?_); have HK := Lib.hid hK; clear hK; go_simp; refine SW.on HK ?_; clear HK K)
              (refine SW.skip (by kernel_rfl) (fun K hK => ?_); have HK := Lib.hid hK; clear hK; go_simp; refine SW.on HK ?_; clear HK K)
              (refine SW.skip (by kernel_rfl) (fun K hK => ?_); have HK := Lib.hid hK; clear hK; go_simp; refine SW.on HK ?_; clear HK K)
              (refine SW.skip (by kernel_rfl) (fun K hK => ?_); have HK := Lib.hid hK; clear hK; go_simp; refine SW.on HK ?_; clear HK K)
              (refine SW.skip (by kernel_rfl) (fun K hK => ?_); have HK := Lib.hid hK; clear hK; go_simp; refine SW.on HK ?_; clear HK K)
              (refine SW.skip (by kernel_rfl) (fun K hK => ?_); have HK := Lib.hid hK; clear hK; go_simp; refine SW.on HK ?_; clear HK K)
              (refine SW.skip (by kernel_rfl) (fun K hK => ?_); have HK := Lib.hid hK; clear hK; go_simp; refine SW.on HK ?_; clear HK K)
              (refine SW.skip (by kernel_rfl) (fun K hK => ?_); have HK := Lib.hid hK; clear hK; go_simp; refine SW.on HK ?_; clear HK K)
              (refine SW.skip (by kernel_rfl) (fun K hK => ?_); have HK := Lib.hid hK; clear hK; go_simp; refine SW.on HK ?_; clear HK K)
              (refine SW.skip (by kernel_rfl) (fun K hK => ?_); have HK := Lib.hid hK; clear hK; go_simp; refine SW.on HK ?_; clear HK K)
              (refine SW.skip (by kernel_rfl) (fun K hK => ?_); have HK := Lib.hid hK; clear hK; go_simp; refine SW.on HK ?_; clear HK K)
              (refine SW.skip (by kernel_rfl) (fun K hK => ?_); have HK := Lib.hid hK; clear hK; go_simp; refine SW.on HK ?_; clear HK K)
              (refine SW.skip (by kernel_rfl) (fun K hK => ?_); have HK := Lib.hid hK; clear hK; go_simp; refine SW.on HK ?_; clear HK K)
              (refine SW.skip (by kernel_rfl) (fun K hK => ?_); have HK := Lib.hid hK; clear hK; go_simp; refine SW.on HK ?_; clear HK K)
              (refine SW.skip (by kernel_rfl) (fun K hK => ?_); have HK := Lib.hid hK; clear hK; go_simp; refine SW.on HK ?_; clear HK K)
              (refine SW.skip (by kernel_rfl) (fun K hK => ?_); have HK := Lib.hid hK; clear hK; go_simp; refine SW.on HK ?_; clear HK K)
              (refine SW.skip (by kernel_rfl) (fun K hK => ?_); have HK := Lib.hid hK; clear hK; go_simp; refine SW.on HK ?_; clear HK K)
              (refine SW.skip (by kernel_rfl) (fun K hK => ?_); have HK := Lib.hid hK; clear hK; go_simp; refine SW.on HK ?_; clear HK K)
              (refine SW.skip (by kernel_rfl) (fun K hK => ?_); have HK := Lib.hid hK; clear hK; go_simp; refine SW.on HK ?_; clear HK K)
              (refine SW.skip (by kernel_rfl) (fun K hK => ?_); have HK := Lib.hid hK; clear hK; go_simp; refine SW.on HK ?_; clear HK K)
              (refine SW.skip (by kernel_rfl) (fun K hK => ?_); have HK := Lib.hid hK; clear hK; go_simp; refine SW.on HK ?_; clear HK K)
              (refine SW.skip (by kernel_rfl) (fun K hK => ?_); have HK := Lib.hid hK; clear hK; go_simp; refine SW.on HK ?_; clear HK K)
              (refine SW.skip (by kernel_rfl) (fun K hK => ?_); have HK := Lib.hid hK; clear hK; go_simp; refine SW.on HK ?_; clear HK K)
              (refine SW.skip (by kernel_rfl) (fun K hK => ?_); have HK := Lib.hid hK; clear hK; go_simp; refine SW.on HK ?_; clear HK K)
              (refine SW.skip (by kernel_rfl) (fun K hK => ?_); have HK := Lib.hid hK; clear hK; go_simp; refine SW.on HK ?_; clear HK K)
              (refine SW.skip (by kernel_rfl) (fun K hK => ?_); have HK := Lib.hid hK; clear hK; go_simp; refine SW.on HK ?_; clear HK K)
              (refine SW.skip (by kernel_rfl) (fun K hK => ?_); have HK := Lib.hid hK; clear hK; go_simp; refine SW.on HK ?_; clear HK K)
              (refine SW.skip (by kernel_rfl) (fun K hK => ?_); have HK := Lib.hid hK; clear hK; go_simp; refine SW.on HK ?_; clear HK K)
              (refine SW.skip (by kernel_rfl) (fun K hK => ?_); have HK := Lib.hid hK; clear hK; go_simp; refine SW.on HK ?_; clear HK K)
              (refine SW.skip (by kernel_rfl) (fun K hK => ?_); have HK := Lib.hid hK; clear hK; go_simp; refine SW.on HK ?_; clear HK K)
              (refine SW.skip (by kernel_rfl) (fun K hK => ?_); have HK := Lib.hid hK; clear hK; go_simp; refine SW.on HK ?_; clear HK K)
              (refine SW.skip (by kernel_rfl) (fun K hK => ?_); have HK := Lib.hid hK; clear hK; go_simp; refine SW.on HK ?_; clear HK K)
              (refine SW.skip (by kernel_rfl) (fun K hK => ?_); have HK := Lib.hid hK; clear hK; go_simp; refine SW.on HK ?_; clear HK K)
              (refine SW.skip (by kernel_rfl) (fun K hK => ?_); have HK := Lib.hid hK; clear hK; go_simp; refine SW.on HK ?_; clear HK K)
              (refine SW.skip (by kernel_rfl) (fun K hK => ?_); have HK := Lib.hid hK; clear hK; go_simp; refine SW.on HK ?_; clear HK K)
              (refine SW.skip (by kernel_rfl) (fun K hK => ?_); have HK := Lib.hid hK; clear hK; go_simp; refine SW.on HK ?_; clear HK K)
              (refine SW.skip (by kernel_rfl) (fun K hK => ?_); have HK := Lib.hid hK; clear hK; go_simp; refine SW.on HK ?_; clear HK K)
              (refine SW.skip (by kernel_rfl) (fun K hK => ?_); have HK := Lib.hid hK; clear hK; go_simp; refine SW.on HK ?_; clear HK K)
              (refine SW.skip (by kernel_rfl) (fun K hK => ?_); have HK := Lib.hid hK; clear hK; go_simp; refine SW.on HK ?_; clear HK K)
              (refine SW.skip (by kernel_rfl) (fun K hK => ?_); have HK := Lib.hid hK; clear hK; go_simp; refine SW.on HK ?_; clear HK K)
              (refine SW.skip (by kernel_rfl) (fun K hK => ?_); have HK := Lib.hid hK; clear hK; go_simp; refine SW.on HK ?_; clear HK K)
              (refine SW.skip (by kernel_rfl) (fun K hK => ?_); have HK := Lib.hid hK; clear hK; go_simp; refine SW.on HK ?_; clear HK K)
              (refine SW.skip (by kernel_rfl) (fun K hK => ?_); have HK := Lib.hid hK; clear hK; go_simp; refine SW.on HK ?_; clear HK K)
              (refine SW.skip (by kernel_rfl) (fun K hK => ?_); have HK := Lib.hid hK; clear hK; go_simp; refine SW.on HK ?_; clear HK K)
              refine SW.nil ?_
              go_wp2
              exact ⟨⟨1, _, HLT.out, rfl, rfl⟩, meas HLT.out⟩
            | succ q =>
              obtain ⟨y, hy⟩ : ∃ y, la[q]? = some y := ⟨_, List.getElem?_eq_getElem (by omega)⟩
              have hnx := all_next HDU.out HP.out hy hx
              obtain ⟨py, hpy, ey, hly, hy0⟩ := T_mem l k (HP.out.mem_iff.1 (List.mem_of_getElem? hy))
              have d4 : w3.cell? ⟨b3, o3 + q, none⟩ = some (.int .i64 py) := hc3 q _ (by simp [hy, ey])
              have e4 : w3.cell? ⟨bb, off + py, none⟩ = some (.int .i64 y.2.1) := (HE3.out.cell (p := ⟨bb, off + py, none⟩) hbb).trans (hcc py _ (by simp [hly]))
              have hpy' : (py : Int) < (k : Int) := by omega
              have hq1 : q < la.length := by omega
              have hq0 : (0 : Int) < (q : Int) + 1 := by omega
              have hq2 : (q : Int) < ((T l k).length : Int) := by omega
              have hq3 : (q : Int) + 1 < ((T l k).length : Int) := by omega
              have hqn : q < (T l k).length := by omega
              have hqn1 : q + 1 < (T l k).length := by omega
              have hpyn : py < k := hpy
              have hpxn : px < k := hpx
              have HWQ := Lib.hid (show IntKind.i64.wrap (q : Int) = (q : Int) by
                have := hlk
                simp [IntKind.wrap, IntKind.signed, IntKind.bits]; omega)
              rw [ex, ey] at hnx
              clear hcc hc3 hx hlx hy hly ex ey
              rcases hnx with hnx | ⟨hnx, hpp⟩
              · have HJD := Lib.hid (dec_no (show ¬ x.2.1 < y.2.1 by omega))
                have HBE := Lib.hid (show (y.2.1 == x.2.1) = false by rw [beq_eq_false_iff_ne]; omega)
                go_wp2
                refine region_tail 49 (by kernel_rfl) (by kernel_rfl) ?_
                simp only [List.take_succ_cons, List.take_zero, List.drop_succ_cons, List.drop_zero]
                refine SW.un ?_
                have hwq := HWQ.out
                (refine SW.want (by kernel_rfl) (fun K hK => ?_); have HK := Lib.hid hK; clear hK; go_simp; refine SW.on HK ?_; clear HK K)
                (refine SW.want (by kernel_rfl) (fun K hK => ?_); have HK := Lib.hid hK; clear hK; go_simp; refine SW.on HK ?_; clear HK K)
                (refine SW.want (by kernel_rfl) (fun K hK => ?_); have HK := Lib.hid hK; clear hK; go_simp; refine SW.on HK ?_; clear HK K)
                (refine SW.want (by kernel_rfl) (fun K hK => ?_); have HK := Lib.hid hK; clear hK; go_simp; refine SW.on HK ?_; clear HK K)
                (refine SW.want (by kernel_rfl) (fun K hK => ?_); have HK := Lib.hid hK; clear hK; go_simp; refine SW.on HK ?_; clear HK K)
                (refine SW.want (by kernel_rfl) (fun K hK => ?_); have HK := Lib.hid hK; clear hK; go_simp; refine SW.on HK ?_; clear HK K)
                (refine SW.want (by kernel_rfl) (fun K hK => ?_); have HK := Lib.hid hK; clear hK; go_simp; refine SW.on HK ?_; clear HK K)
                (refine SW.want (by kernel_rfl) (fun K hK => ?_); have HK := Lib.hid hK; clear hK; go_simp; refine SW.on HK ?_; clear HK K)
                (refine SW.want (by kernel_rfl) (fun K hK => ?_); have HK := Lib.hid hK; clear hK; go_simp; refine SW.on HK ?_; clear HK K)
                (refine SW.want (by kernel_rfl) (fun K hK => ?_); have HK := Lib.hid hK; clear hK; go_simp; refine SW.on HK ?_; clear HK K)
                (refine SW.want (by kernel_rfl) (fun K hK => ?_); have HK := Lib.hid hK; clear hK; go_simp; refine SW.on HK ?_; clear HK K)
                (refine SW.want (by kernel_rfl) (fun K hK => ?_); have HK := Lib.hid hK; clear hK; go_simp; refine SW.on HK ?_; clear HK K)
                (refine SW.want (by kernel_rfl) (fun K hK => ?_); have HK := Lib.hid hK; clear hK; go_simp; refine SW.on HK ?_; clear HK K)
                (refine SW.want (by kernel_rfl) (fun K hK => ?_); have HK := Lib.hid hK; clear hK; go_simp; refine SW.on HK ?_; clear HK K)
                (refine SW.want (by kernel_rfl) (fun K hK => ?_); have HK := Lib.hid hK; clear hK; go_simp; refine SW.on HK ?_; clear HK K)
                (refine SW.want (by kernel_rfl) (fun K hK => ?_); have HK := Lib.hid hK; clear hK; go_simp; refine SW.on HK ?_; clear HK K)
                (refine SW.want (by kernel_rfl) (fun K hK => ?_); have HK := Lib.hid hK; clear hK; go_simp; refine SW.on HK ?_; clear HK K)
                (refine SW.want (by kernel_rfl) (fun K hK => ?_); have HK := Lib.hid hK; clear hK; go_simp; refine SW.on HK ?_; clear HK K)
                (refine SW.want (by kernel_rfl) (fun K hK => ?_); have HK := Lib.hid hK; clear hK; go_simp; refine SW.on HK ?_; clear HK K)
                have e9 : ∀ (d : Decidable (x.2.1 < y.2.1)), @decide (x.2.1 < y.2.1) d = false := HJD.out
                rw [e9]
                clear e9
                (refine SW.want (by kernel_rfl) (fun K hK => ?_); have HK := Lib.hid hK; clear hK; go_simp; refine SW.on HK ?_; clear HK K)
                (refine SW.want (by kernel_rfl) (fun K hK => ?_); have HK := Lib.hid hK; clear hK; go_simp; refine SW.on HK ?_; clear HK K)
                (refine SW.want (by kernel_rfl) (fun K hK => ?_); have HK := Lib.hid hK; clear hK; go_simp; refine SW.on HK ?_; clear HK K)
                (refine SW.want (by kernel_rfl) (fun K hK => ?_); have HK := Lib.hid hK; clear hK; go_simp; refine SW.on HK ?_; clear HK K)
                (refine SW.want (by kernel_rfl) (fun K hK => ?_); have HK := Lib.hid hK; clear hK; go_simp; refine SW.on HK ?_; clear HK K)
                (refine SW.want (by kernel_rfl) (fun K hK => ?_); have HK := Lib.hid hK; clear hK; go_simp; refine SW.on HK ?_; clear HK K)
                (refine SW.want (by kernel_rfl) (fun K hK => ?_); have HK := Lib.hid hK; clear hK; go_simp; refine SW.on HK ?_; clear HK K)
                (refine SW.want (by kernel_rfl) (fun K hK => ?_); have HK := Lib.hid hK; clear hK; go_simp; refine SW.on HK ?_; clear HK K)
                (refine SW.want (by kernel_rfl) (fun K hK => ?_); have HK := Lib.hid hK; clear hK; go_simp; refine SW.on HK ?_; clear HK K)
                (refine SW.want (by kernel_rfl) (fun K hK => ?_); have HK := Lib.hid hK; clear hK; go_simp; refine SW.on HK ?_; clear HK K)
                (refine SW.want (by kernel_rfl) (fun K hK => ?_); have HK := Lib.hid hK; clear hK; go_simp; refine SW.on HK ?_; clear HK K)
                (refine SW.want (by kernel_rfl) (fun K hK => ?_); have HK := Lib.hid hK; clear hK; go_simp; refine SW.on HK ?_; clear HK K)
                (refine SW.want (by kernel_rfl) (fun K hK => ?_); have HK := Lib.hid hK; clear hK; go_simp; refine SW.on HK ?_; clear HK K)
                (refine SW.want (by kernel_rfl) (fun K hK => ?_); have HK := Lib.hid hK; clear hK; go_simp; refine SW.on HK ?_; clear HK K)
                (refine SW.want (by kernel_rfl) (fun K hK => ?_); have HK := Lib.hid hK; clear hK; go_simp; refine SW.on HK ?_; clear HK K)
                (refine SW.want (by kernel_rfl) (fun K hK => ?_); have HK := Lib.hid hK; clear hK; go_simp; refine SW.on HK ?_; clear HK K)
                (refine SW.want (by kernel_rfl) (fun K hK => ?_); have HK := Lib.hid hK; clear hK; go_simp; refine SW.on HK ?_; clear HK K)
                (refine SW.want (by kernel_rfl) (fun K hK => ?_); have HK := Lib.hid hK; clear hK; go_simp; refine SW.on HK ?_; clear HK K)
                rw [HBE.out]
                (refine SW.skip (by kernel_rfl) (fun K hK => ?_); have HK := Lib.hid hK; clear hK; go_simp; refine SW.on HK ?_; clear HK K)
                (refine SW.skip (by kernel_rfl) (fun K hK => ?_); have HK := Lib.hid hK; clear hK; go_simp; refine SW.on HK ?_; clear HK K)
                (refine SW.skip (by kernel_rfl) (fun K hK => ?_); have HK := Lib.hid hK; clear hK; go_simp; refine SW.on HK ?_; clear HK K)
                (refine SW.skip (by kernel_rfl) (fun K hK => ?_); have HK := Lib.hid hK; clear hK; go_simp; refine SW.on HK ?_; clear HK K)
                (refine SW.skip (by kernel_rfl) (fun K hK => ?_); have HK := Lib.hid hK; clear hK; go_simp; refine SW.on HK ?_; clear HK K)
                (refine SW.skip (by kernel_rfl) (fun K hK => ?_); have HK := Lib.hid hK; clear hK; go_simp; refine SW.on HK ?_; clear HK K)
                (refine SW.skip (by kernel_rfl) (fun K hK => ?_); have HK := Lib.hid hK; clear hK; go_simp; refine SW.on HK ?_; clear HK K)
                (refine SW.skip (by kernel_rfl) (fun K hK => ?_); have HK := Lib.hid hK; clear hK; go_simp; refine SW.on HK ?_; clear HK K)
                (refine SW.skip (by kernel_rfl) (fun K hK => ?_); have HK := Lib.hid hK; clear hK; go_simp; refine SW.on HK ?_; clear HK K)
                (refine SW.skip (by kernel_rfl) (fun K hK => ?_); have HK := Lib.hid hK; clear hK; go_simp; refine SW.on HK ?_; clear HK K)
                (refine SW.want (by kernel_rfl) (fun K hK => ?_); have HK := Lib.hid hK; clear hK; go_simp; refine SW.on HK ?_; clear HK K)
                (refine SW.want (by kernel_rfl) (fun K hK => ?_); have HK := Lib.hid hK; clear hK; go_simp; refine SW.on HK ?_; clear HK K)
                refine SW.nil ?_
                clear hwq
                go_wp2
                exact ⟨⟨q + 1 + 1, _, HLT.out, by rw [show ((q + 1 + 1 : Nat) : Int) = (q : Int) + 1 + 1 from by omega], rfl⟩, meas1 HLT.out⟩
              · rw [hnx] at e4
                have HJD := Lib.hid (dec_no (show ¬ px ≤ py by omega))
                clear hnx
                go_wp2
                refine region_tail 49 (by kernel_rfl) (by kernel_rfl) ?_
                simp only [List.take_succ_cons, List.take_zero, List.drop_succ_cons, List.drop_zero]
                refine SW.un ?_
                have hwq := HWQ.out
                (refine SW.want (by kernel_rfl) (fun K hK => ?_); have HK := Lib.hid hK; clear hK; go_simp; refine SW.on HK ?_; clear HK K)
                (refine SW.want (by kernel_rfl) (fun K hK => ?_); have HK := Lib.hid hK; clear hK; go_simp; refine SW.on HK ?_; clear HK K)
                (refine SW.want (by kernel_rfl) (fun K hK => ?_); have HK := Lib.hid hK; clear hK; go_simp; refine SW.on HK ?_; clear HK K)
                (refine SW.want (by kernel_rfl) (fun K hK => ?_); have HK := Lib.hid hK; clear hK; go_simp; refine SW.on HK ?_; clear HK K)
                (refine SW.want (by kernel_rfl) (fun K hK => ?_); have HK := Lib.hid hK; clear hK; go_simp; refine SW.on HK ?_; clear HK K)
                (refine SW.want (by kernel_rfl) (fun K hK => ?_); have HK := Lib.hid hK; clear hK; go_simp; refine SW.on HK ?_; clear HK K)
                (refine SW.want (by kernel_rfl) (fun K hK => ?_); have HK := Lib.hid hK; clear hK; go_simp; refine SW.on HK ?_; clear HK K)
                (refine SW.want (by kernel_rfl) (fun K hK => ?_); have HK := Lib.hid hK; clear hK; go_simp; refine SW.on HK ?_; clear HK K)
                (refine SW.want (by kernel_rfl) (fun K hK => ?_); have HK := Lib.hid hK; clear hK; go_simp; refine SW.on HK ?_; clear HK K)
                (refine SW.want (by kernel_rfl) (fun K hK => ?_); have HK := Lib.hid hK; clear hK; go_simp; refine SW.on HK ?_; clear HK K)
                (refine SW.want (by kernel_rfl) (fun K hK => ?_); have HK := Lib.hid hK; clear hK; go_simp; refine SW.on HK ?_; clear HK K)
                (refine SW.want (by kernel_rfl) (fun K hK => ?_); have HK := Lib.hid hK; clear hK; go_simp; refine SW.on HK ?_; clear HK K)
                (refine SW.want (by kernel_rfl) (fun K hK => ?_); have HK := Lib.hid hK; clear hK; go_simp; refine SW.on HK ?_; clear HK K)
                (refine SW.want (by kernel_rfl) (fun K hK => ?_); have HK := Lib.hid hK; clear hK; go_simp; refine SW.on HK ?_; clear HK K)
                (refine SW.want (by kernel_rfl) (fun K hK => ?_); have HK := Lib.hid hK; clear hK; go_simp; refine SW.on HK ?_; clear HK K)
                (refine SW.want (by kernel_rfl) (fun K hK => ?_); have HK := Lib.hid hK; clear hK; go_simp; refine SW.on HK ?_; clear HK K)
                (refine SW.want (by kernel_rfl) (fun K hK => ?_); have HK := Lib.hid hK; clear hK; go_simp; refine SW.on HK ?_; clear HK K)
                (refine SW.want (by kernel_rfl) (fun K hK => ?_); have HK := Lib.hid hK; clear hK; go_simp; refine SW.on HK ?_; clear HK K)
                (refine SW.want (by kernel_rfl) (fun K hK => ?_); have HK := Lib.hid hK; clear hK; go_simp; refine SW.on HK ?_; clear HK K)
                (refine SW.want (by kernel_rfl) (fun K hK => ?_); have HK := Lib.hid hK; clear hK; go_simp; refine SW.on HK ?_; clear HK K)
                (refine SW.want (by kernel_rfl) (fun K hK => ?_); have HK := Lib.hid hK; clear hK; go_simp; refine SW.on HK ?_; clear HK K)
                (refine SW.want (by kernel_rfl) (fun K hK => ?_); have HK := Lib.hid hK; clear hK; go_simp; refine SW.on HK ?_; clear HK K)
                (refine SW.want (by kernel_rfl) (fun K hK => ?_); have HK := Lib.hid hK; clear hK; go_simp; refine SW.on HK ?_; clear HK K)
                (refine SW.want (by kernel_rfl) (fun K hK => ?_); have HK := Lib.hid hK; clear hK; go_simp; refine SW.on HK ?_; clear HK K)
                (refine SW.want (by kernel_rfl) (fun K hK => ?_); have HK := Lib.hid hK; clear hK; go_simp; refine SW.on HK ?_; clear HK K)
                (refine SW.want (by kernel_rfl) (fun K hK => ?_); have HK := Lib.hid hK; clear hK; go_simp; refine SW.on HK ?_; clear HK K)
                (refine SW.want (by kernel_rfl) (fun K hK => ?_); have HK := Lib.hid hK; clear hK; go_simp; refine SW.on HK ?_; clear HK K)
                (refine SW.want (by kernel_rfl) (fun K hK => ?_); have HK := Lib.hid hK; clear hK; go_simp; refine SW.on HK ?_; clear HK K)
                (refine SW.want (by kernel_rfl) (fun K hK => ?_); have HK := Lib.hid hK; clear hK; go_simp; refine SW.on HK ?_; clear HK K)
                (refine SW.want (by kernel_rfl) (fun K hK => ?_); have HK := Lib.hid hK; clear hK; go_simp; refine SW.on HK ?_; clear HK K)
                (refine SW.want (by kernel_rfl) (fun K hK => ?_); have HK := Lib.hid hK; clear hK; go_simp; refine SW.on HK ?_; clear HK K)
                (refine SW.want (by kernel_rfl) (fun K hK => ?_); have HK := Lib.hid hK; clear hK; go_simp; refine SW.on HK ?_; clear HK K)
                (refine SW.want (by kernel_rfl) (fun K hK => ?_); have HK := Lib.hid hK; clear hK; go_simp; refine SW.on HK ?_; clear HK K)
                (refine SW.want (by kernel_rfl) (fun K hK => ?_); have HK := Lib.hid hK; clear hK; go_simp; refine SW.on HK ?_; clear HK K)
                (refine SW.want (by kernel_rfl) (fun K hK => ?_); have HK := Lib.hid hK; clear hK; go_simp; refine SW.on HK ?_; clear HK K)
                (refine SW.want (by kernel_rfl) (fun K hK => ?_); have HK := Lib.hid hK; clear hK; go_simp; refine SW.on HK ?_; clear HK K)
                (refine SW.want (by kernel_rfl) (fun K hK => ?_); have HK := Lib.hid hK; clear hK; go_simp; refine SW.on HK ?_; clear HK K)
                (refine SW.want (by kernel_rfl) (fun K hK => ?_); have HK := Lib.hid hK; clear hK; go_simp; refine SW.on HK ?_; clear HK K)
                (refine SW.want (by kernel_rfl) (fun K hK => ?_); have HK := Lib.hid hK; clear hK; go_simp; refine SW.on HK ?_; clear HK K)
                (refine SW.want (by kernel_rfl) (fun K hK => ?_); have HK := Lib.hid hK; clear hK; go_simp; refine SW.on HK ?_; clear HK K)
                (refine SW.want (by kernel_rfl) (fun K hK => ?_); have HK := Lib.hid hK; clear hK; go_simp; refine SW.on HK ?_; clear HK K)
                (refine SW.want (by kernel_rfl) (fun K hK => ?_); have HK := Lib.hid hK; clear hK; go_simp; refine SW.on HK ?_; clear HK K)
                (refine SW.want (by kernel_rfl) (fun K hK => ?_); have HK := Lib.hid hK; clear hK; go_simp; refine SW.on HK ?_; clear HK K)
                (refine SW.want (by kernel_rfl) (fun K hK => ?_); have HK := Lib.hid hK; clear hK; go_simp; refine SW.on HK ?_; clear HK K)
                (refine SW.want (by kernel_rfl) (fun K hK => ?_); have HK := Lib.hid hK; clear hK; go_simp; refine SW.on HK ?_; clear HK K)
                (refine SW.want (by kernel_rfl) (fun K hK => ?_); have HK := Lib.hid hK; clear hK; go_simp; refine SW.on HK ?_; clear HK K)
                (refine SW.want (by kernel_rfl) (fun K hK => ?_); have HK := Lib.hid hK; clear hK; go_simp; refine SW.on HK ?_; clear HK K)
                have e9 : ∀ (d : Decidable (px ≤ py)), @decide (px ≤ py) d = false := HJD.out
                rw [e9]
                clear e9
                (refine SW.want (by kernel_rfl) (fun K hK => ?_); have HK := Lib.hid hK; clear hK; go_simp; refine SW.on HK ?_; clear HK K)
                (refine SW.want (by kernel_rfl) (fun K hK => ?_); have HK := Lib.hid hK; clear hK; go_simp; refine SW.on HK ?_; clear HK K)
                refine SW.nil ?_
                clear hwq
                go_wp2
                exact ⟨⟨q + 1 + 1, _, HLT.out, by rw [show ((q + 1 + 1 : Nat) : Int) = (q : Int) + 1 + 1 from by omega], rfl⟩, meas1 HLT.out⟩
          · have e : j = la.length := by omega
            subst e
            go_wp2_with fail
            refine (live_ _).mono ?_
            rintro e w8 ⟨rfl, b8⟩
            go_wp2
            go_ret
            exact ⟨rfl, (below_drewN HE3.out m).trans (b8.mono z3)⟩
end WhlL
end Go.Proofs.Ytifhjbboddfbcaa
