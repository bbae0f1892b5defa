/-
  The walk of the program's Check.
-/
import Derived.Test.YtdgbemafhhhceaaTreeKey
import Derived.Test.YtdgbemafhhhceaaTreeRMore
namespace Go.Proofs.Ytdgbemafhhhceaa
set_option linter.unusedVariables false
set_option linter.unusedSimpArgs false
open Go.RowKit Go.Maps
open Go.Proofs.Ytdgbemafhhhceaa.Prio
namespace Tree
open Mp
def inT (n l m : Int) : Bool := decide (l ≤ n) && decide (n ≤ m)
theorem inT_iff {n l m : Int} : inT n l m = true ↔ l ≤ n ∧ n ≤ m := by simp [inT]
theorem within_ (n l m : Int) (w : World) : Calls Try.prog 21 #[.int .i64 n, .int .i64 l, .int .i64 m] w fun e w' => e = .returned (.bool (inT n l m)) ∧ w = w' := by
  by_cases h1 : l ≤ n
  · have e : inT n l m = decide (n ≤ m) := by simp [inT, h1]
    have E := Lib.hid e
    clear e
    go_enter Try.func21, Try.ntmps21
    go_wp2
    all_goals
      go_ret
      exact ⟨retb (by rw [E.out]), rfl⟩
  · have e : inT n l m = false := by simp [inT, h1]
    have E := Lib.hid e
    clear e
    go_enter Try.func21, Try.ntmps21
    go_wp2
    go_ret
    exact ⟨retb (by rw [E.out]), rfl⟩
theorem within_at {n l m : Int} {b : Bool} (hb : inT n l m = b) (w : World) : Calls Try.prog 21 #[.int .i64 n, .int .i64 l, .int .i64 m] w fun e w' => e = .returned (.bool b) ∧ w = w' :=
  (within_ n l m w).mono fun _ _ h => ⟨by rw [h.1, hb], h.2⟩
def ends4 (l : Lk) : Value := .agg #[.int .i64 l.a, .int .i64 l.pa, .int .i64 l.b, .int .i64 l.pb]
theorem lends_ (l : Lk) (w : World) : Calls Try.prog 22 #[.agg #[.int .i64 l.a, .int .i64 l.pa, .int .i64 l.b, .int .i64 l.pb, .int .i64 l.cost]] w fun e w' => e = .returned (.agg #[.int .i64 l.a, .int .i64 l.pa, .int .i64 l.b, .int .i64 l.pb]) ∧ Below w.heap.size w w' := by
  go_enter Try.func22, Try.ntmps22
  go_wp2
  refine bodyPost_ret (v := .agg #[.int .i64 l.a, .int .i64 l.pa, .int .i64 l.b, .int .i64 l.pb]) (by simp [results, Try.results22, go_sem]) rfl ⟨rfl, ?_⟩
  repeat (first | exact Below.refl _ _ | apply Below.drew | (refine Below.alloc ?_ (by simp <;> omega) _) | (refine Below.setCell ?_ (by simp <;> omega) _))
instance (k : Int × Int) : Decidable (okK k) := inferInstanceAs (Decidable (_ ∧ _))
def keyE (e : En) : Key := if h : okK (e.at_, e.port) then ⟨(e.at_, e.port), h⟩ else key0
theorem wf64 {z : Int} (h0 : 0 ≤ z) (h1 : z ≤ 1000) : (Lit.int .i64 z).wf = true := by
  have e1 : IntKind.i64.min = -9223372036854775808 := by decide
  have e2 : IntKind.i64.max = 9223372036854775807 := by decide
  simp only [Lit.wf, e1, e2, Bool.and_eq_true, decide_eq_true_eq]
  omega
theorem okE {n : Nat} {e : En} (hn : n ≤ 12) (h : EndOk n e) : okK (e.at_, e.port) := ⟨wf64 h.a0 (by have := h.a1; omega), wf64 h.p0 (by have := h.p1; omega)⟩
theorem keyE_kv {n : Nat} {e : En} (hn : n ≤ 12) (h : EndOk n e) : kv (keyE e) = .agg #[.int .i64 e.at_, .int .i64 e.port] := by
  unfold keyE
  rw [dif_pos (okE hn h)]
  rfl
theorem keyE_inj {n : Nat} {x y : En} (hn : n ≤ 12) (hx : EndOk n x) (hy : EndOk n y) (h : keyE x = keyE y) : SamePort x y := by
  unfold keyE at h
  rw [dif_pos (okE hn hx), dif_pos (okE hn hy)] at h
  have h2 := congrArg Subtype.val h
  simp only [Prod.mk.injEq] at h2
  exact h2
theorem keyE_same {x y : En} (h : SamePort x y) : keyE x = keyE y := by
  unfold keyE
  rw [h.1, h.2]
theorem keys_apart {n : Nat} (hn : n ≤ 12) : ∀ {es : List En}, (∀ e ∈ es, EndOk n e) → Apart2 es → (es.map keyE).Pairwise (· ≠ ·) := by
  intro es h ha
  rw [List.pairwise_map]
  exact List.Pairwise.imp_of_mem (fun hx hy hxy e => hxy (keyE_inj hn (h _ hx) (h _ hy) e)) ha
theorem key_mem {n : Nat} (hn : n ≤ 12) {es : List En} {x : En} (h : ∀ e ∈ es, EndOk n e) (hx : EndOk n x) : keyE x ∈ es.map keyE ↔ ∃ y ∈ es, SamePort y x := by
  constructor
  · intro hm
    obtain ⟨y, hy, e⟩ := List.mem_map.1 hm
    exact ⟨y, hy, keyE_inj hn (h y hy) hx e⟩
  · rintro ⟨y, hy, e⟩
    exact List.mem_map.2 ⟨y, hy, keyE_same e⟩
theorem two_at : ∀ {ls : List Lk} {k : Nat} {l : Lk}, ls[k]? = some l → ∀ {j : Nat}, j < 2 → (endsOf ls)[2 * k + j]? = (two l)[j]?
  | [], k, l, h, _, _ => by simp at h
  | a :: r, 0, l, h, j, hj => by
    simp at h
    subst h
    unfold endsOf
    rw [List.flatMap_cons, List.getElem?_append_left (by show 2 * 0 + j < 2; omega)]
    simp
  | a :: r, k + 1, l, h, j, hj => by
    simp only [List.getElem?_cons_succ] at h
    have ih := two_at (ls := r) h hj
    unfold endsOf at ih ⊢
    rw [List.flatMap_cons, List.getElem?_append_right (by show 2 ≤ 2 * (k + 1) + j; omega), ← ih]
    congr 1
    show 2 * (k + 1) + j - 2 = 2 * k + j
    omega
set_option maxHeartbeats 8000000 in
set_option maxRecDepth 100000 in
theorem pcheck_ (A1 : Option Addr) (n c1 : Nat) (ids : List Int) (A2 : Option Addr) (m c2 : Nat) (ls : List Lk) (w : World) (h1 : Reads w w.heap.size 1 A1 n (ids.map (Value.int .u64))) (h2 : Reads w w.heap.size 5 A2 m (ls.flatMap cellsL)) (hwf : ∀ x ∈ ids, (Lit.int .u64 x).wf = true) :
    Calls Try.prog 11 #[.slice A1 n c1, .slice A2 m c2] w fun e w' => e = .returned (.int .i64 (chk ids ls)) ∧ Below w.heap.size w w' := by
  have hl1 := len_ids h1
  have hl2 := len_of h2
  by_cases g : inT n 1 12 = false ∨ (inT n 1 12 = true ∧ 40 < m)
  · have hno : ¬ May ids ls := fun h => by
      have a := h.n1
      have b := h.n2
      have c := h.l
      rcases g with g | g
      · have : inT n 1 12 = true := inT_iff.2 (by omega)
        rw [this] at g; cases g
      · omega
    have HNO := Lib.hid hno
    clear hno
    rcases g with g | ⟨g, g'⟩
    · go_enter Try.func11, Try.ntmps11
      go_wp2_with (first
        | (go_at_call 21; (with_reducible refine (within_at g _).mono ?_); rintro e w1 ⟨rfl, rfl⟩)
        | go_in)
      go_ret
      exact ⟨ret3 HNO.out, Below.refl _ _⟩
    · have q1 : (40 : Int) < m := by omega
      go_enter Try.func11, Try.ntmps11
      go_wp2_with (first
        | (go_at_call 21; (with_reducible refine (within_at g _).mono ?_); rintro e w1 ⟨rfl, rfl⟩)
        | go_in)
      go_ret
      exact ⟨ret3 HNO.out, Below.refl _ _⟩
  · have hin : inT n 1 12 = true := by
      cases h : inT n 1 12 with
      | true => rfl
      | false => exact absurd (.inl h) g
    have hm40 : ¬ 40 < m := fun h => g (.inr ⟨hin, h⟩)
    have q1 : ¬ (40 : Int) < m := by omega
    obtain ⟨hn1, hn2⟩ := inT_iff.1 hin
    have hnn1 : 1 ≤ n := by omega
    have hnn2 : n ≤ 12 := by omega
    have HL1 := Lib.hid hl1
    have HL2 := Lib.hid hl2
    have HWF := Lib.hid hwf
    clear g hl1 hl2 hwf
    have hrm := fun W => run_makeMap (P := Try.prog) 51 W
    have hrm2 := fun W => run_makeMap (P := Try.prog) 52 W
    go_enter Try.func11, Try.ntmps11
    go_wp2_with (first
      | (go_at_call 21; (with_reducible refine (within_at hin _).mono ?_); rintro e w1 ⟨rfl, rfl⟩)
      | go_in)
    have HM0 := Lib.hid (Has.made w Try.prog 44 EU)
    go_loopw [25] (fun i wr => ∃ k : Nat, k ≤ n ∧ i = .int .i64 k ∧ (ids.take k).Pairwise (· ≠ ·) ∧ Has EU Try.prog 44 wr w.heap.size (yes (ids.take k)) ∧ Below w.heap.size w wr) (fun i _ => n - (intOf i).toNat)
    case atStart => exact ⟨0, Nat.zero_le _, rfl, by simp, HM0.out, (Below.refl _ _).alloc (Nat.le_refl _) _⟩
    case round =>
      clear HM0
      obtain ⟨k, hk, rfl, hnd, hmap, hbel⟩ := hrel
      have HND := Lib.hid hnd
      have HMAP := Lib.hid hmap
      have HB := Lib.hid hbel
      clear hnd
      by_cases hlt : k < n
      · have hlt' : (k : Int) < (n : Int) := by omega
        obtain ⟨b1, o1, x, rfl, hb1, hx, c0⟩ := read1 (h1.below hbel) hlt
        have hkey := keyOfU (HWF.out x (List.mem_of_getElem? hx))
        have hrun := Has.look sameU lawU Try.underlying51 (zeroB wr 0 klU) hmap (apart_yes 0 klU HND.out) hkey
        have e9 := look_yes 0 klU HND.out x
        have hrun2 : (Instr.lookup 51 (.map (some w.heap.size)) (.int .u64 x) false).run Try.prog wr = .ok (.bool (decide (x ∈ ids.take k))) wr := by rw [← e9]; exact hrun
        have HX := Lib.hid hx
        have HKEY := Lib.hid hkey
        clear hrun e9 hx hkey hmap hbel
        by_cases hin2 : x ∈ ids.take k
        · have HNO := Lib.hid (show ¬ May ids ls from fun h => by
            obtain ⟨j, hj, e⟩ := List.mem_take_iff_getElem.1 hin2
            have hj2 := Nat.lt_min.1 hj
            exact nd_not (k := j) HX.out (by rw [List.getElem?_eq_getElem hj2.2, e]) hj2.1 h.nd)
          rw [decide_eq_true hin2] at hrun2
          clear hin2
          go_wp2
          go_ret
          exact ⟨ret3 HNO.out, HB.out⟩
        · rw [decide_eq_false hin2] at hrun2
          have HIN := Lib.hid hin2
          clear hin2
          have hyl : (yes (ids.take k)).length < maxLen := by unfold yes maxLen; rw [List.length_map, List.length_take]; omega
          go_wp2_with (first
            | (at_mapUpdate; refine wpList_put _ rfl _ _ _ _ rfl 44 4 lawU Try.underlying51 sameU w.heap.size (yes (ids.take k)) rfl HMAP.out hyl _ ((x, true) : Int × Bool) rfl rfl HKEY.out ?_; intro w5 hm5 hg5)
            | go_in)
          have hm6 : Has EU Try.prog 44 w5 w.heap.size (yes (ids.take (k + 1))) := by
            have e : ids.take (k + 1) = ids.take k ++ [x] := by
              obtain ⟨hk2, e2⟩ := List.getElem?_eq_some_iff.1 HX.out
              rw [List.take_succ_eq_append_getElem hk2, e2]
            rw [e, ← put_yes 0 klU HIN.out]
            exact hm5
          exact ⟨⟨k + 1, by omega, by go_num, nd_take HX.out HND.out (fun y hy e => HIN.out (e ▸ hy)), hm6, HB.out.grown hg5 HB.out.size (fun q hq => by cases hq; exact Nat.le_refl _)⟩, by simp [intOf]; omega⟩
      · have e : k = n := by omega
        have HALL : Hid (ids.Pairwise (· ≠ ·)) := Lib.hid (by have := HND.out; rwa [e, ← HL1.out, List.take_length] at this)
        clear HND HMAP hmap
        subst e
        clear hlt
        obtain ⟨wA, rfl⟩ : ∃ wA : World, wA = wr := ⟨_, rfl⟩
        have hbz := hbel.size
        have HM0 := Lib.hid (Has.made wA Try.prog 54 E2)
        have HB2 := Lib.hid (HB.out.alloc hbz (.map #[] 0))
        clear hbel
        go_wp2
        go_loopw [38] (fun i wk => ∃ q : Nat, q ≤ m ∧ i = .int .i64 q ∧ (∀ y ∈ (endsOf ls).take (2 * q), EndOk k y) ∧ Apart2 ((endsOf ls).take (2 * q)) ∧ Has E2 Try.prog 54 wk wA.heap.size (yes (((endsOf ls).take (2 * q)).map keyE)) ∧ Below w.heap.size w wk) (fun i _ => m - (intOf i).toNat)
        case atStart => exact ⟨0, Nat.zero_le _, rfl, by simp, by simp [Apart2], HM0.out, HB2.out⟩
        case round =>
          clear HM0 HB2
          obtain ⟨q, hq, rfl, hok, hap, hmap, hbel⟩ := hrel
          have HOK := Lib.hid hok
          have HAP := Lib.hid hap
          have HMAP := Lib.hid hmap
          have HB3 := Lib.hid hbel
          have hbz3 := hbel.size
          clear hok hap
          by_cases hlt : q < m
          · have hlt' : (q : Int) < (m : Int) := by omega
            obtain ⟨b2, o2, l, rfl, hb2, hx, d0, d1, d2, d3, d4⟩ := read5 (h2.below hbel) hlt
            have HX := Lib.hid hx
            obtain ⟨wo, rfl⟩ : ∃ wo : World, wo = wr := ⟨_, rfl⟩
            have HBX := Lib.hid (Blk.new wo 45 (cellsL l).toArray)
            clear hx hmap hbel
            have HB4 := Lib.hid (HB3.out.alloc hbz3 (.cells #[.int .i64 l.a, .int .i64 l.pa, .int .i64 l.b, .int .i64 l.pb, .int .i64 l.cost] 45))
            have HMAP4 := Lib.hid (HMAP.out.alloc (.cells #[.int .i64 l.a, .int .i64 l.pa, .int .i64 l.b, .int .i64 l.pb, .int .i64 l.cost] 45))
            have hw4 : wo.heap.size < (wo.alloc (.cells #[.int .i64 l.a, .int .i64 l.pa, .int .i64 l.b, .int .i64 l.pb, .int .i64 l.cost] 45)).heap.size := by simp
            have HBX4 : Hid (Blk (wo.alloc (.cells #[.int .i64 l.a, .int .i64 l.pa, .int .i64 l.b, .int .i64 l.pb, .int .i64 l.cost] 45)) wo.heap.size 45 (cellsL l).toArray) := HBX
            have hmz := HMAP.out.lt
            clear HBX
            go_upto_region 15 with (fail)
            clear d0 d1 d2 d3 d4
            generalize wo.alloc (.cells #[.int .i64 l.a, .int .i64 l.pa, .int .i64 l.b, .int .i64 l.pb, .int .i64 l.cost] 45) = W4 at *
            have e0 : W4.cell? ⟨wo.heap.size, 0, none⟩ = some (.int .i64 l.a) := HBX4.out.cell 0
            have e1 : W4.cell? ⟨wo.heap.size, 1, none⟩ = some (.int .i64 l.pa) := HBX4.out.cell 1
            have e2 : W4.cell? ⟨wo.heap.size, 2, none⟩ = some (.int .i64 l.b) := HBX4.out.cell 2
            have e3 : W4.cell? ⟨wo.heap.size, 3, none⟩ = some (.int .i64 l.pb) := HBX4.out.cell 3
            have e4 : W4.cell? ⟨wo.heap.size, 4, none⟩ = some (.int .i64 l.cost) := HBX4.out.cell 4
            go_wp2_with fail
            refine (lends_ l _).mono ?_
            rintro e w5 ⟨rfl, b5⟩
            have HB5 := Lib.hid (HB4.out.trans (b5.mono HB4.out.size))
            have HMAP5 := Lib.hid (HMAP4.out.block (b5.block _ (by have := HMAP4.out.lt; omega)))
            have HBX5 := Lib.hid (HBX4.out.below b5 hw4)
            clear b5 e0 e1 e2 e3 e4
            have hix : ∀ W (j : Nat) (x : En), j < 2 → (two l)[j]? = some x → (Instr.index 55 (.agg #[.int .i64 l.a, .int .i64 l.pa, .int .i64 l.b, .int .i64 l.pb]) (.int .i64 j)).run Try.prog W = .ok (.agg #[.int .i64 x.at_, .int .i64 x.port]) W := by
              intro W j x hj hx
              rcases (show j = 0 ∨ j = 1 by omega) with rfl | rfl
              · simp [two] at hx
                subst hx
                kernel_rfl
              · simp [two] at hx
                subst hx
                kernel_rfl
            have HIX := Lib.hid hix
            clear hix
            go_wp2
            go_loopw [44] (fun i wk => ∃ j : Nat, j ≤ 2 ∧ i = .int .i64 j ∧ (∀ y ∈ (endsOf ls).take (2 * q + j), EndOk k y) ∧ Apart2 ((endsOf ls).take (2 * q + j)) ∧ Has E2 Try.prog 54 wk wA.heap.size (yes (((endsOf ls).take (2 * q + j)).map keyE)) ∧ Blk wk wo.heap.size 45 (cellsL l).toArray ∧ Below w.heap.size w wk) (fun i _ => 2 - (intOf i).toNat)
            case atStart => exact ⟨0, by omega, rfl, HOK.out, HAP.out, HMAP5.out, HBX5.out, HB5.out⟩
            case round =>
              clear HB4 HMAP4 HBX4 HB5 HMAP5 HBX5 HOK HAP HMAP HB3
              obtain ⟨j, hj, rfl, hok, hap, hmap, hbx, hbel⟩ := hrel
              have HOK := Lib.hid hok
              have HAP := Lib.hid hap
              have HB5 := Lib.hid hbel
              by_cases hjl : j < 2
              · have hjl' : (j : Int) < 2 := by omega
                obtain ⟨x, hxt, hxc⟩ : ∃ x, (two l)[j]? = some x ∧ x.cost = l.cost := by
                  rcases (show j = 0 ∨ j = 1 by omega) with rfl | rfl
                  · exact ⟨_, rfl, rfl⟩
                  · exact ⟨_, rfl, rfl⟩
                have hrunx := fun W => HIX.out W j x hjl hxt
                have hxe := (two_at HX.out hjl).trans hxt
                have HXE := Lib.hid hxe
                have HMAP6 := Lib.hid (hmap.alloc (.cells #[.int .i64 x.at_, .int .i64 x.port] 54))
                have hne := hbx.lt
                have HBX6 := Lib.hid (hbx.alloc (.cells #[.int .i64 x.at_, .int .i64 x.port] 54))
                have HB6 := Lib.hid (hbel.alloc hbel.size (.cells #[.int .i64 x.at_, .int .i64 x.port] 54))
                have HEB6 := Lib.hid (Blk.new wr 54 #[.int .i64 x.at_, .int .i64 x.port])
                have hmz6 := hmap.lt
                clear hok hap hmap hbx hbel hxe
                go_upto_region 18 with (fail)
                generalize wr.alloc (.cells #[.int .i64 x.at_, .int .i64 x.port] 54) = W6 at *
                have f0 : W6.cell? ⟨wr.heap.size, 0, none⟩ = some (.int .i64 x.at_) := HEB6.out.cell 0
                have f1 : W6.cell? ⟨wr.heap.size, 1, none⟩ = some (.int .i64 x.port) := HEB6.out.cell 1
                have f4 : W6.cell? ⟨wo.heap.size, 4, none⟩ = some (.int .i64 x.cost) := (HBX6.out.cell 4).trans (by rw [hxc]; rfl)
                have HNB : Hid (¬ EndOk k x → ¬ May ids ls) := Lib.hid (fun hb h => hb (by have := h.ok x (List.mem_of_getElem? HXE.out); rwa [HL1.out] at this))
                clear hrunx hxt hxc
                cases hA : inT x.at_ 0 ((k : Int) - 1) with
                | false =>
                  have HNO := Lib.hid (HNB.out (fun h => by have := inT_iff.2 (show 0 ≤ x.at_ ∧ x.at_ ≤ (k : Int) - 1 from ⟨h.a0, by have := h.a1; omega⟩); rw [hA] at this; cases this))
                  go_wp2_with (first
                    | (go_at_call 21; (with_reducible refine (within_at hA _).mono ?_); rintro e w7 ⟨rfl, rfl⟩)
                    | go_in)
                  go_ret
                  exact ⟨ret3 HNO.out, HB6.out⟩
                | true =>
                cases hP : inT x.port 0 15 with
                | false =>
                  have HNO := Lib.hid (HNB.out (fun h => by have := inT_iff.2 (show 0 ≤ x.port ∧ x.port ≤ 15 from ⟨h.p0, h.p1⟩); rw [hP] at this; cases this))
                  go_wp2_with (first
                    | (go_at_call 21; (with_reducible refine (within_at hA _).mono ?_); rintro e w7 ⟨rfl, rfl⟩)
                    | (go_at_call 21; (with_reducible refine (within_at hP _).mono ?_); rintro e w7 ⟨rfl, rfl⟩)
                    | go_in)
                  go_ret
                  exact ⟨ret3 HNO.out, HB6.out⟩
                | true =>
                cases hC : inT x.cost 1 200000000 with
                | false =>
                  have HNO := Lib.hid (HNB.out (fun h => by have := inT_iff.2 (show 1 ≤ x.cost ∧ x.cost ≤ 200000000 from ⟨h.c0, h.c1⟩); rw [hC] at this; cases this))
                  go_wp2_with (first
                    | (go_at_call 21; (with_reducible refine (within_at hA _).mono ?_); rintro e w7 ⟨rfl, rfl⟩)
                    | (go_at_call 21; (with_reducible refine (within_at hP _).mono ?_); rintro e w7 ⟨rfl, rfl⟩)
                    | (go_at_call 21; (with_reducible refine (within_at hC _).mono ?_); rintro e w7 ⟨rfl, rfl⟩)
                    | go_in)
                  go_ret
                  exact ⟨ret3 HNO.out, HB6.out⟩
                | true =>
                  obtain ⟨i1, i2⟩ := inT_iff.1 hA
                  obtain ⟨i3, i4⟩ := inT_iff.1 hP
                  obtain ⟨i5, i6⟩ := inT_iff.1 hC
                  have hgood : EndOk k x := ⟨i1, by omega, i3, i4, i5, i6⟩
                  have hkv := keyE_kv hnn2 hgood
                  have hkey := keyOf (keyE x)
                  rw [hkv] at hkey
                  have hpw := keys_apart hnn2 HOK.out HAP.out
                  have hrun := Has.look same2 law Try.underlying52 (zeroB W6 key0 kl) HMAP6.out (apart_yes key0 kl hpw) hkey
                  have hrun2 : ∀ b, (EB key0 kl).val (Mp.look (EB key0 kl) (key0, false) (yes (((endsOf ls).take (2 * q + j)).map keyE)) (keyE x)) = .bool b → (Instr.lookup 52 (.map (some wA.heap.size)) (.agg #[.int .i64 x.at_, .int .i64 x.port]) false).run Try.prog W6 = .ok (.bool b) W6 := fun b hb => by rw [← hb]; exact hrun
                  have hyes : keyE x ∈ ((endsOf ls).take (2 * q + j)).map keyE → _ := fun h => hrun2 true ((look_yes key0 kl hpw (keyE x)).trans (by simp only [h, decide_true, decide_false, not_false_eq_true]))
                  have hnot : keyE x ∉ ((endsOf ls).take (2 * q + j)).map keyE → _ := fun h => hrun2 false ((look_yes key0 kl hpw (keyE x)).trans (by simp only [h, decide_true, decide_false, not_false_eq_true]))
                  have HYES := Lib.hid hyes
                  have HNOT := Lib.hid hnot
                  have HKEY := Lib.hid hkey
                  have HGOOD := Lib.hid hgood
                  clear hrun hrun2 hyes hnot hkey hkv hpw hgood i1 i2 i3 i4 i5 i6
                  by_cases hin3 : keyE x ∈ ((endsOf ls).take (2 * q + j)).map keyE
                  · have HNO := Lib.hid (show ¬ May ids ls from fun h => by
                      obtain ⟨y, hy, hs⟩ := (key_mem hnn2 HOK.out HGOOD.out).1 hin3
                      obtain ⟨t, ht, e⟩ := List.mem_take_iff_getElem.1 hy
                      have ht2 := Nat.lt_min.1 ht
                      exact ap_not (k := t) HXE.out (by rw [List.getElem?_eq_getElem ht2.2, e]) ht2.1 hs h.ap)
                    have hrun3 := HYES.out hin3
                    clear hin3
                    go_wp2_with (first
                      | (go_at_call 21; (with_reducible refine (within_at hA _).mono ?_); rintro e w7 ⟨rfl, rfl⟩)
                      | (go_at_call 21; (with_reducible refine (within_at hP _).mono ?_); rintro e w7 ⟨rfl, rfl⟩)
                      | (go_at_call 21; (with_reducible refine (within_at hC _).mono ?_); rintro e w7 ⟨rfl, rfl⟩)
                      | go_in)
                    go_ret
                    exact ⟨ret3 HNO.out, HB6.out⟩
                  · have hrun3 := HNOT.out hin3
                    have HIN := Lib.hid hin3
                    clear hin3
                    have hyl : (yes (((endsOf ls).take (2 * q + j)).map keyE)).length < maxLen := by
                      unfold yes maxLen
                      rw [List.length_map, List.length_map, List.length_take]
                      omega
                    go_wp2_with (first
                      | (go_at_call 21; (with_reducible refine (within_at hA _).mono ?_); rintro e w7 ⟨rfl, rfl⟩)
                      | (go_at_call 21; (with_reducible refine (within_at hP _).mono ?_); rintro e w7 ⟨rfl, rfl⟩)
                      | (go_at_call 21; (with_reducible refine (within_at hC _).mono ?_); rintro e w7 ⟨rfl, rfl⟩)
                      | (at_mapUpdate; refine wpList_put _ rfl _ _ _ _ rfl 54 4 law Try.underlying52 same2 wA.heap.size (yes (((endsOf ls).take (2 * q + j)).map keyE)) rfl HMAP6.out hyl _ ((keyE x, true) : Key × Bool) rfl rfl HKEY.out ?_; intro w8 hm8 hg8)
                      | go_in)
                    have e10 : (endsOf ls).take (2 * q + (j + 1)) = (endsOf ls).take (2 * q + j) ++ [x] := by
                      obtain ⟨hk2, e2⟩ := List.getElem?_eq_some_iff.1 HXE.out
                      rw [← Nat.add_assoc, List.take_succ_eq_append_getElem hk2, e2]
                    have hm9 : Has E2 Try.prog 54 w8 wA.heap.size (yes (((endsOf ls).take (2 * q + (j + 1))).map keyE)) := by
                      rw [e10, List.map_append, List.map_singleton, ← put_yes key0 kl HIN.out]
                      exact hm8
                    refine ⟨⟨j + 1, by omega, by go_num, fun y hy => ?_, ?_, hm9, HBX6.out.grown hg8 (by intro e; injection e with e; omega), HB6.out.grown hg8 HB6.out.size (fun g hg => by cases hg; omega)⟩, by simp [intOf]; omega⟩
                    · rw [e10] at hy
                      rcases List.mem_append.1 hy with h | h
                      · exact HOK.out y h
                      · simp at h
                        subst h
                        exact HGOOD.out
                    · exact ap_take HXE.out HAP.out (fun y hy hs => HIN.out ((key_mem hnn2 HOK.out HGOOD.out).2 ⟨y, hy, hs⟩))
              · have e : j = 2 := by omega
                subst e
                clear hok hap hbx
                go_wp2
                have e2 : 2 * (q + 1) = 2 * q + 2 := by omega
                exact ⟨⟨q + 1, by omega, by go_num, by rw [e2]; exact HOK.out, by rw [e2]; exact HAP.out, by rw [e2]; exact hmap, HB5.out⟩, by simp [intOf]; omega⟩
          · have e : q = m := by omega
            have hle := endsOf_len ls
            have HMAY := Lib.hid (show May ids ls from ⟨by rw [HL1.out]; omega, by rw [HL1.out]; omega, by rw [HL2.out]; omega, HALL.out, fun y hy => by rw [HL1.out]; exact HOK.out y (by rw [e, ← HL2.out, ← hle, List.take_length]; exact hy), by have := HAP.out; rwa [e, ← HL2.out, ← hle, List.take_length] at this⟩)
            clear hle hmap hbel
            subst e
            go_wp2
            go_ret
            exact ⟨ret0 HMAY.out, HB3.out⟩
end Tree
end Go.Proofs.Ytdgbemafhhhceaa
