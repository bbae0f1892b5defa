/-
  Wheel[int]: the walk of Due's closure, and of Due.
-/
import Derived.Test.YtdpppljobikjhaaDoorVWhlNI
import Derived.Test.YtdpppljobikjhaaDoorSort
import Derived.Test.YtdpppljobikjhaaDoorSortLay
namespace Go.Proofs.YtdpppljobikjhaaDoor
set_option linter.unusedVariables false
set_option linter.unusedSimpArgs false
open Go.RowKit Go.Maps
namespace WhlI
open Whl WhlC
set_option maxRecDepth 20000 in
theorem closure_ (W : World) (bx g b : Nat) (room turn : Int) (ts : List Tm) (hbx : W.cell? ⟨bx, 0, none⟩ = some (.pointer (some ⟨g, 0, none⟩))) (h : At W g b room turn ts) (hd : ts.Pairwise fun x y => x.1 ≠ y.1) (x y : Int) (hx : (Lit.int .i64 x).wf = true) (hy : (Lit.int .i64 y).wf = true) :
    Calls Tryd.prog 44 #[(.int .i64 x), (.int .i64 y), .pointer (some ⟨bx, 0, none⟩)] W fun e w' => e = .returned (.int .i64 (cmpT (Whl.look ts x) (Whl.look ts y))) ∧ Srt.Gr W w' := by
  have c2 : W.cell? ⟨g, 2, none⟩ = some (.map (some b)) := h.blk.cell 2
  have hl1 : ∀ (z : World), z = W → (Instr.lookup 95 (.map (some b)) (.int .i64 x) false).run Tryd.prog z.drew = .ok (.agg #[.int .i64 (Whl.look ts x).1, .int .i64 (Whl.look ts x).2]) z.drew := fun z e => HasT.look klOk law Tryd.underlying95 (zeroT _) (by rw [e]; exact h.map.drew) hd (keyOf hx)
  have hl2 : ∀ (z : World), z = W → (Instr.lookup 95 (.map (some b)) (.int .i64 y) false).run Tryd.prog z.drew = .ok (.agg #[.int .i64 (Whl.look ts y).1, .int .i64 (Whl.look ts y).2]) z.drew := fun z e => HasT.look klOk law Tryd.underlying95 (zeroT _) (by rw [e]; exact h.map.drew) hd (keyOf hy)
  have hl1 := hl1 W rfl
  have hl2 := hl2 W rfl
  go_enter Tryd.func44, Tryd.ntmps44
  go_wp2
  refine region_tail 12 (by kernel_rfl) (by kernel_rfl) ?_
  simp only [List.take_succ_cons, List.take_zero, List.drop_succ_cons, List.drop_zero]
  refine SW.un ?_
  (refine SW.want (by kernel_rfl) (fun K hK => ?_); have HK := Lib.hid hK; clear hK; go_simp; refine SW.on HK ?_; clear HK K)
  (refine SW.want (by kernel_rfl) (fun K hK => ?_); have HK := Lib.hid hK; clear hK; go_simp; refine SW.on HK ?_; clear HK K)
  (refine SW.want (by kernel_rfl) (fun K hK => ?_); have HK := Lib.hid hK; clear hK; go_simp; refine SW.on HK ?_; clear HK K)
  (refine SW.want (by kernel_rfl) (fun K hK => ?_); have HK := Lib.hid hK; clear hK; go_simp; refine SW.on HK ?_; clear HK K)
  (refine SW.want (by kernel_rfl) (fun K hK => ?_); have HK := Lib.hid hK; clear hK; go_simp; refine SW.on HK ?_; clear HK K)
  (refine SW.want (by kernel_rfl) (fun K hK => ?_); have HK := Lib.hid hK; clear hK; go_simp; refine SW.on HK ?_; clear HK K)
  (refine SW.want (by kernel_rfl) (fun K hK => ?_); have HK := Lib.hid hK; clear hK; go_simp; refine SW.on HK ?_; clear HK K)
  (refine SW.want (by kernel_rfl) (fun K hK => ?_); have HK := Lib.hid hK; clear hK; go_simp; refine SW.on HK ?_; clear HK K)
  (refine SW.want (by kernel_rfl) (fun K hK => ?_); have HK := Lib.hid hK; clear hK; go_simp; refine SW.on HK ?_; clear HK K)
  (refine SW.want (by kernel_rfl) (fun K hK => ?_); have HK := Lib.hid hK; clear hK; go_simp; refine SW.on HK ?_; clear HK K)
  (refine SW.want (by kernel_rfl) (fun K hK => ?_); have HK := Lib.hid hK; clear hK; go_simp; refine SW.on HK ?_; clear HK K)
  (refine SW.want (by kernel_rfl) (fun K hK => ?_); have HK := Lib.hid hK; clear hK; go_simp; refine SW.on HK ?_; clear HK K)
  refine SW.nil ?_
  go_wp2_with (go_at_call 42; refine (before_g _ _ _ _ _).mono ?_; rintro e w2 ⟨rfl, hb2⟩)
  go_ret
  exact ⟨rfl, ((Srt.Gr.refl _).drew).trans hb2⟩
/-- what is due, in the order in which it comes out -/
def isDue (now : Int) (x : Tm) : Bool := decide (x.2.1 ≤ now)
def DueIs (ts : List Tm) (now : Int) (l : List Tm) : Prop := l.Perm (ts.filter (isDue now)) ∧ l.Pairwise fun x y => ¬ cmpT y.2 x.2 < 0
open Classical in
noncomputable def cl (k : Int) : Int := if (Lit.int .i64 k).wf = true then k else default
theorem cl_wf (x : Int) : (Lit.int .i64 (cl x)).wf = true := by
  unfold cl
  split
  · assumption
  · first | decide | exact Nat.zero_le _
theorem cl_of {x : Int} (h : (Lit.int .i64 x).wf = true) : cl x = x := by
  unfold cl
  rw [if_pos h]
theorem cmp_swo (f : Int → Int × Int) : Go.Sort.SWO (Go.Proofs.ltOf fun x y => cmpT (f x) (f y)) := by
  constructor
  · intro x
    unfold Go.Proofs.ltOf
    rw [decide_eq_false_iff_not, cmpT_neg]; omega
  · intro x y z h1 h2
    unfold Go.Proofs.ltOf at *
    rw [decide_eq_true_eq, cmpT_neg] at *; omega
  · intro x y z h1 h2
    unfold Go.Proofs.ltOf at *
    rw [decide_eq_false_iff_not, cmpT_neg] at *; omega
noncomputable def encC (k : Int) : Value := kv (cl k)
theorem encC_one : Go.Proofs.OneCell encC := fun _ => rfl
theorem encC_map : ∀ (l : List Int), (∀ x ∈ l, (Lit.int .i64 x).wf = true) → l.map encC = l.map kv := fun l h => List.map_congr_left fun x hx => by unfold encC; rw [cl_of (h x hx)]
/-- the keys in order say the timers in order -/
theorem due_of {ts : List Tm} (hd : ts.Pairwise fun x y => x.1 ≠ y.1) (hk : ∀ x ∈ ts, (Lit.int .i64 x.1).wf = true) {now : Int} {dn : List Tm} (hp : dn.Perm ts) {ks : List Int} (h1 : ks.Perm ((dn.filter (isDue now)).map (·.1)))
    (h2 : ks.Pairwise fun x y => Go.Proofs.ltOf (fun x y => cmpT (Whl.look ts (cl x)) (Whl.look ts (cl y))) y x = false) :
    ∃ l : List Tm, l.map (·.1) = ks ∧ DueIs ts now l := by
  have hmem : ∀ k ∈ ks, ∃ x ∈ ts, isDue now x = true ∧ x.1 = k := by
    intro k hk1
    obtain ⟨x, hx, e⟩ := List.mem_map.1 (h1.mem_iff.1 hk1)
    rw [List.mem_filter] at hx
    exact ⟨x, hp.mem_iff.1 hx.1, hx.2, e⟩
  refine ⟨ks.map fun k => (k, Whl.look ts k), by rw [List.map_map]; exact List.map_id ks, ?_, ?_⟩
  · have e : ∀ l : List Tm, (∀ x ∈ l, x ∈ ts) → (l.map (·.1)).map (fun k => (k, Whl.look ts k)) = l := by
      intro l hl
      rw [List.map_map]
      conv => rhs; rw [← List.map_id l]
      refine List.map_congr_left fun x hx => ?_
      show (x.1, Whl.look ts x.1) = x
      rw [look_has (hl x hx) hd rfl]
    have := h1.map fun k => (k, Whl.look ts k)
    rw [e _ (fun x hx => hp.mem_iff.1 (List.mem_filter.1 hx).1)] at this
    exact this.trans (hp.filter _)
  · rw [List.pairwise_map]
    refine List.Pairwise.imp_of_mem ?_ h2
    intro x y hx hy h
    obtain ⟨x1, hx1, _, rfl⟩ := hmem x hx
    obtain ⟨y1, hy1, _, rfl⟩ := hmem y hy
    unfold Go.Proofs.ltOf at h
    simp only [cl_of (hk _ hx1), cl_of (hk _ hy1), decide_eq_false_iff_not] at h
    exact h
/-- what stays -/
def rest (ts : List Tm) (ks : List Int) : List Tm := ts.filter fun x => !ks.any fun k => decide (x.1 = k)
theorem rest_nil (ts : List Tm) : rest ts [] = ts := by simp [rest]
theorem rest_step (ts : List Tm) {ks : List Int} {k : Nat} {y : Int} (h : ks[k]? = some y) : (rest ts (ks.take k)).filter (fun x => !keyIs y x) = rest ts (ks.take (k + 1)) := by
  unfold rest
  rw [List.filter_filter, List.take_add_one, h]
  refine List.filter_congr fun x _ => ?_
  simp [keyIs, Bool.and_comm]
theorem rest_due {ts : List Tm} (hd : ts.Pairwise fun x y => x.1 ≠ y.1) {now : Int} {l : List Tm} (h : DueIs ts now l) : rest ts (l.map (·.1)) = ts.filter fun x => !isDue now x := by
  unfold rest
  refine List.filter_congr fun x hx => ?_
  congr 1
  rw [Bool.eq_iff_iff, List.any_eq_true]
  constructor
  · rintro ⟨k, hk, e⟩
    obtain ⟨y, hy, rfl⟩ := List.mem_map.1 hk
    have hy' := h.1.mem_iff.1 hy
    rw [List.mem_filter] at hy'
    have := only_key ts hd hx hy'.1 (by simpa using e)
    rw [this]; exact hy'.2
  · intro hx2
    exact ⟨x.1, List.mem_map.2 ⟨x, h.1.mem_iff.2 (List.mem_filter.2 ⟨hx, hx2⟩), rfl⟩, by simp⟩
theorem infoK : (Tryd.prog.info? 3).map (fun i => (i.zero, i.size, i.bytes)) = some (some (.int .i64 0), 1, 8) := by kernel_rfl
theorem oneK (x : Int) : ∀ u ∈ [kv x], u.oneCell' = true := by
  intro u hu
  simp at hu
  subst hu
  rfl
theorem enters_due (args : Array Value) (w : World) : (callFunc 44 args).run Tryd.prog w = .ok (.enter 44 args) w := Go.Proofs.enters_of Tryd.func44 (by kernel_rfl) rfl args w
/-- the sort of what is due -/
theorem sorts (w : World) (bx g b base : Nat) (room turn : Int) (ts : List Tm) (hbx : w.cell? ⟨bx, 0, none⟩ = some (.pointer (some ⟨g, 0, none⟩))) (h : At w g b room turn ts) (hd : ts.Pairwise fun x y => x.1 ≠ y.1) (hk : ∀ x ∈ ts, (Lit.int .i64 x.1).wf = true) (now : Int) (dn : List Tm) (hp : dn.Perm ts)
    (v : Value) (n : Nat) (hown : w.ownsRow base 3 1 v n ((dn.filter (isDue now)).map fun x => kv x.1)) (hn : n < 4611686018427387904) (hb1 : bx < base) (hb2 : g < base) (hb3 : b < base) :
    Calls Tryd.prog 43 #[v, .func (.func 44) #[] #[.pointer (some ⟨bx, 0, none⟩)]] w fun e w' => e = .returned (.tuple #[]) ∧
      ∃ l : List Tm, DueIs ts now l ∧ w'.ownsRow base 3 1 v n (l.map fun x => kv x.1) ∧ w.grownBy w' v.ownBlock := by
  have e1 : ((dn.filter (isDue now)).map (·.1)).map encC = (dn.filter (isDue now)).map fun x => kv x.1 := by
    rw [encC_map _ (fun k hk1 => by
      obtain ⟨x, hx, rfl⟩ := List.mem_map.1 hk1
      exact hk x (hp.mem_iff.1 (List.mem_filter.1 hx).1)), List.map_map]
    rfl
  rw [← e1] at hown
  have hs := Srt.sort_ Tryd.sortI Tryd.sortI0 encC encC_one (fun x y => cmpT (Whl.look ts (cl x)) (Whl.look ts (cl y))) (cmp_swo fun x => Whl.look ts (cl x)) 44 #[.pointer (some ⟨bx, 0, none⟩)] v base 3 n _ w enters_due
    (fun W hW x y => closure_ W bx g b room turn ts ((World.cell?_of_block (hW.block bx (by
      rcases Nat.lt_or_ge bx w.heap.size with h1 | h1
      · exact h1
      · rw [World.cell?] at hbx
        rw [Array.getElem?_eq_none (by exact h1)] at hbx
        cases hbx) (fun e => own_ne hown hb1 e.symm))).trans hbx) ⟨h.blk.grown hW (fun e => own_ne hown hb2 e.symm), h.map.kept hW (fun e => own_ne hown hb3 e.symm), h.ne⟩ hd (cl x) (cl y) (cl_wf x) (cl_wf y)) hown hn
  refine Calls.mono hs ?_
  rintro e w' ⟨he, ks, hp1, hpw, hown', hgr⟩
  obtain ⟨l, hl, hdue⟩ := due_of hd hk hp hp1 hpw
  refine ⟨he, l, hdue, ?_, hgr⟩
  rw [encC_map ks (fun k hk1 => by
    obtain ⟨x, hx, rfl⟩ := List.mem_map.1 (hp1.mem_iff.1 hk1)
    exact hk x (hp.mem_iff.1 (List.mem_filter.1 hx).1)), ← hl, List.map_map] at hown'
  exact hown'
set_option maxHeartbeats 4000000 in
set_option maxRecDepth 20000 in
theorem due_ (w : World) (g b : Nat) (room turn : Int) (ts : List Tm) (h : At w g b room turn ts) (hd : ts.Pairwise fun x y => x.1 ≠ y.1) (hk : ∀ x ∈ ts, (Lit.int .i64 x.1).wf = true) (hn : ts.length ≤ 5000) (now : Int) :
    Calls Tryd.prog 28 #[.pointer (some ⟨g, 0, none⟩), .int .i64 now] w fun e w' => ∃ (l : List Tm) (v : Value), DueIs ts now l ∧ e = .returned v ∧ w'.ownsRow w.heap.size 3 1 v l.length (l.map fun x => kv x.1) ∧
      Keep [b] w w' ∧ HasT Tryd.prog 3 kl w' b (ts.filter fun x => !isDue now x) := by
  have hm := h.map
  have hb := h.lt.2
  have hg := h.lt.1
  obtain ⟨i0, hi, hz0, hz1, hz2⟩ := info_parts infoK
  have HA := Lib.hid h
  have c2 : w.cell? ⟨g, 2, none⟩ = some (.map (some b)) := h.blk.cell 2
  have HD := Lib.hid hd
  go_enter Tryd.func28, Tryd.ntmps28
  go_wp2_with (first
    | (at_range; refine wpList_rangeT _ rfl _ _ rfl 3 99 law Tryd.underlying95 klOk b ts rfl (hm.alloc _) ?_; intro w0 hrg0 hg0 hs0)
    | go_in)
  have hrr : w.heap.size < (w.alloc (.cells #[.pointer (some ⟨g, 0, none⟩)] 70)).heap.size := by simp
  obtain ⟨r, hr⟩ : ∃ r, (w.alloc (.cells #[.pointer (some ⟨g, 0, none⟩)] 70)).heap.size = r := ⟨_, rfl⟩
  rw [hr] at hrg0 hs0 hrr ⊢
  have HRR := Lib.hid hr
  clear hr
  go_frame
  go_loopw [5] (fun v wr => ∃ dn : List Tm, wr.ownsRow (r + 1) 3 1 v (dn.filter (isDue now)).length ((dn.filter (isDue now)).map fun x => kv x.1) ∧ RgT Tryd.prog 3 kl wr b r ts dn ∧ Below r (w.alloc (.cells #[.pointer (some ⟨g, 0, none⟩)] 70)) wr)
    (fun _ wr => wr.rangeLeft b r)
  case atStart =>
    refine ⟨[], ⟨by simp, .inl ⟨rfl, rfl⟩⟩, hrg0, ?_⟩
    exact (Keep.of_grown (xs := []) hg0 (by simp)).below (Nat.le_of_eq HRR.out.symm) (by simp)
  case round =>
    obtain ⟨dn, hown, hrg, hbel⟩ := hrel
    have hr0 := hrg.lt
    go_wp2_with (first
      | (at_next; refine wpList_nextT _ rfl _ rfl 3 law klOk kv invK kvK b r ts dn hd rfl hrg ?_ ?_)
      | go_in)
    · intro hp
      have hfl := List.length_filter_le (isDue now) dn
      rw [hp.length_eq] at hfl
      have hbx : wr.cell? ⟨w.heap.size, 0, none⟩ = some (.pointer (some ⟨g, 0, none⟩)) := (hbel.cell (p := ⟨w.heap.size, 0, none⟩) hrr).trans ((Blk.new w _ _).cell 0)
      have hat1 : At wr g b room turn ts := ⟨(HA.out.blk.alloc _).below hbel (by omega), hrg.has, HA.out.ne⟩
      have hsort := sorts wr w.heap.size g b (r + 1) room turn ts hbx hat1 HD.out hk now dn hp _ _ hown (by omega) (by omega) (by omega) (by omega)
      have HB := Lib.hid hbel
      have HT := Lib.hid hat1
      have HO := Lib.hid hown
      have HP := Lib.hid hp
      have HR := Lib.hid hrg
      have HK := Lib.hid hk
      have hrl := hrg.lt
      obtain ⟨A', c', rfl, _⟩ := own_form hown
      clear hbel hat1 hown hp hrg hk
      generalize hln : (dn.filter (isDue now)).length = n at *
      clear hln
      go_wp2_with (first
        | (go_at_call 43; refine hsort.mono ?_; rintro e w2 ⟨rfl, l, hdue, hown2, hgr2⟩)
        | go_in)
      have hll : l.length = n := by have := hown2.1; simpa using this
      have hw2 := hgr2.size
      have hbx2 : w2.cell? ⟨w.heap.size, 0, none⟩ = some (.pointer (some ⟨g, 0, none⟩)) := (World.cell?_of_block (hgr2.block w.heap.size (by omega) (fun e => own_ne HO.out (b := w.heap.size) (by omega) e.symm))).trans hbx
      have hblk2 := HT.out.blk.grown hgr2 (fun e => own_ne HO.out (b := g) (by omega) e.symm)
      have hmap2 := HT.out.map.kept hgr2 (fun e => own_ne HO.out (b := b) (by omega) e.symm)
      have HDU := Lib.hid hdue
      have HLL := Lib.hid hll
      have HG2 := Lib.hid hgr2
      have HO2 := Lib.hid hown2
      clear hbx hsort hdue hll hgr2 hown2 hm hw2
      go_loopw [35] (fun i wr => ∃ k : Nat, k ≤ n ∧ i = .int .i64 k ∧ HasT Tryd.prog 3 kl wr b (rest ts ((l.map (·.1)).take k)) ∧ w2.grownBy wr (some b)) (fun i _ => n - (intOf i).toNat)
      case atStart => exact ⟨0, Nat.zero_le _, rfl, by rw [List.take_zero, rest_nil]; exact hmap2, World.grownBy.refl _ _⟩
      case round =>
        obtain ⟨k, hk, rfl, hmz, hgz⟩ := hrel
        have hw2 := HG2.out.size
        by_cases hlt : k < n
        · have hlt' : (k : Int) < (n : Int) := by omega
          obtain ⟨gq, cap, hv, hgq, _, _, hrow⟩ := Row.of_own HO2.out (by omega)
          cases hv
          obtain ⟨x, hx⟩ : ∃ x, l[k]? = some x := ⟨_, List.getElem?_eq_getElem (by rw [HLL.out]; exact hlt)⟩
          have hxt := (List.mem_filter.1 (HDU.out.1.mem_iff.1 (List.mem_of_getElem? hx))).1
          have hc0 := (hrow.grown hgz (by simp; omega)).cell (i := k) (u := (.int .i64 x.1)) (by rw [List.getElem?_map, hx]; rfl)
          have hbz : wr.cell? ⟨w.heap.size, 0, none⟩ = some (.pointer (some ⟨g, 0, none⟩)) := (World.cell?_of_block (hgz.block w.heap.size (by omega) (by simp; omega))).trans hbx2
          have hcg : wr.cell? ⟨g, 2, none⟩ = some (.map (some b)) := (hblk2.grown hgz (by simpa using HA.out.ne)).cell 2
          have hkey := keyOf (HK.out _ hxt)
          have HRS := Lib.hid (rest_step ts (ks := l.map (·.1)) (k := k) (y := x.1) (by rw [List.getElem?_map, hx]; rfl))
          have HGZ := Lib.hid hgz
          clear hrow hx hxt hgz
          go_wp2_with (first
            | (at_delete; refine wpList_deleteT _ rfl _ _ _ _ rfl 99 law Tryd.underlying95 klOk b _ rfl hmz _ x.1 rfl hkey ?_; intro w5 hown5 hgrow5)
            | go_in)
          refine ⟨⟨k + 1, by omega, by simp, by rw [HRS.out] at hown5; exact hown5, HGZ.out.andThen hgrow5 (fun j hj => Or.inr (by simpa using hj))⟩, by simp [intOf]; omega⟩
        · have e : k = n := by omega
          subst e
          have e2 : (l.map (·.1)).take k = l.map (·.1) := List.take_of_length_le (by rw [List.length_map, HLL.out]; exact Nat.le_refl _)
          rw [e2, rest_due HD.out HDU.out] at hmz
          have HMZ := Lib.hid hmz
          clear hmz e2
          go_wp2
          go_ret
          refine ⟨l, _, HDU.out, rfl, ?_, ?_, HMZ.out⟩
          · rw [HLL.out]
            exact Srt.own_mono (HO2.out.kept hgz (Or.inr (own_ne HO2.out (by omega)))) (by omega)
          · have k2 : Keep [] (w.alloc (.cells #[.pointer (some ⟨g, 0, none⟩)] 70)) _ := Keep.of_below (by have := HB.out; rw [← HRR.out] at this; exact this) []
            have k12 := ((Keep.refl [] w).alloc _).trans k2
            have k3 := Keep.of_grown (xs := (Value.slice A' k c').ownBlock.toList) HG2.out (fun q hq => by rw [hq]; simp)
            have k123 := k12.then k3 (fun q hq => Or.inr (by have := own_from HO.out q (by simpa using hq); omega))
            exact (k123.mono (by simp)).trans (Keep.of_grown hgz (by simp))
    · intro x0 x1 x2 w1 hx hrg1 hlt1 hg1 hsz1 hen
      simp only [kv] at hen ⊢
      have hlen := hrg1.dn_le
      rw [List.length_append, List.length_singleton] at hlen
      have hfl := List.length_filter_le (isDue now) dn
      have q3 : (dn.filter (isDue now)).length + 1 ≤ maxLen := by unfold maxLen; omega
      have q4 : ((dn.filter (isDue now)).length + 1) * 8 ≤ 140737488355328 := by omega
      have hown1 := hown.kept hg1 (Or.inr (own_ne hown (Nat.lt_succ_self _)))
      obtain ⟨A', c', rfl, _⟩ := own_form hown
      have hb1 : Below r (w.alloc (.cells #[.pointer (some ⟨g, 0, none⟩)] 70)) w1 := hbel.grown hg1 (by omega) (fun q hq => by cases hq; exact Nat.le_refl _)
      by_cases hnow : x1 ≤ now
      · have hf : (dn ++ [(x0, x1, x2)]).filter (isDue now) = dn.filter (isDue now) ++ [(x0, x1, x2)] := by
          rw [List.filter_append]
          simp [isDue, hnow]
        have HF := Lib.hid hf
        clear hf
        go_wp2_with (first
          | (at_builtin; refine wpList_append_own _ rfl (.tmp 26) (.tmp 28) 65 rfl (r + 1) 3 i0 _ 1 8 Tryd.underlying65 hi hz0 hz1 hz2 rfl (by omega) (.slice A' (dn.filter (isDue now)).length c') _ _ rfl ((hown1.alloc _).alloc _) ⟨wr.heap.size + 1, 0, none⟩ 1 1 [(.int .i64 x0)] rfl rfl (new_cells' _ [(.int .i64 x0)] 3 _ (by simp [hsz1])) (oneK _) q3 q4 (by simp; omega) ?_; intro v' w9 hown' hgrow _)
          | go_in)
        refine ⟨⟨dn ++ [(x0, x1, x2)], ?_, ?_, ?_⟩, ?_⟩
        · rw [HF.out, List.length_append, List.map_append]
          exact hown'
        · refine ((hrg1.alloc _).alloc _).kept hgrow ?_ ?_
          · exact fun e => own_ne hown (b := b) (by omega) e.symm
          · exact fun e => own_ne hown (b := r) (by omega) e.symm
        · exact ((hb1.alloc (by omega) _).alloc (by simp; omega) _).grown hgrow (by simp; omega) (fun q hq => by have := own_from hown q hq; omega)
        · rw [((hrg1.alloc _).alloc _).left_kept hgrow (fun e => own_ne hown (b := b) (by omega) e.symm) (fun e => own_ne hown (b := r) (by omega) e.symm), (hrg1.alloc _).left_alloc, hrg1.left_alloc]
          exact hlt1
      · have hf : (dn ++ [(x0, x1, x2)]).filter (isDue now) = dn.filter (isDue now) := by
          rw [List.filter_append]
          simp [isDue, hnow]
        have HF := Lib.hid hf
        clear hf
        go_wp2
        go_roundw
        case rel =>
          refine ⟨dn ++ [(x0, x1, x2)], by rw [HF.out]; exact hown1.alloc _, hrg1.alloc _, hb1.alloc (by omega) _⟩
        case measure =>
          rw [hrg1.left_alloc]
          exact hlt1
end WhlI
end Go.Proofs.YtdpppljobikjhaaDoor
