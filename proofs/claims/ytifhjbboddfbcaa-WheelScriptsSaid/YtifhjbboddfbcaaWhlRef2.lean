/-
  The document's wheel: the walks of Arm and Due.
-/
import Derived.Test.YtifhjbboddfbcaaWhlRef
import Derived.Test.YtifhjbboddfbcaaWhlDS
namespace Go.Proofs.Ytifhjbboddfbcaa
set_option linter.unusedVariables false
set_option linter.unusedSimpArgs false
open Go.RowKit Go.Maps
namespace WhlR
open Whl WhlC WhlS
theorem RAt.drewN {w : World} {g : Nat} {room : Int} {ts : List Tm} (h : RAt w g room ts) (n : Nat) : RAt (w.drewN n) g room ts := h
theorem RAt.turn {w : World} {g : Nat} {room : Int} {ts : List Tm} {x : Tm} (h : RAt w g room (ts ++ [x])) (u : Int) : RAt w g room (ts ++ [(x.1, x.2.1, u)]) := by
  obtain ⟨v, h1, h2⟩ := h
  refine ⟨v, h1, ?_⟩
  rw [List.length_append, List.flatMap_append] at h2 ⊢
  exact h2
theorem rarm_neg (w : World) (g : Nat) (k : ByteArray) (t : Int) (ht : t < 0) :
    Calls Try.prog 30 #[.pointer (some ⟨g, 0, none⟩), .string k, .int .i64 t] w fun e w' => e = .returned (.int .i64 1) ∧ w' = w := by
  go_enter Try.func30, Try.ntmps30
  go_wp2
  go_ret
  exact ⟨rfl, rfl⟩
theorem rarm_full (w : World) (g : Nat) (room : Int) (ts : List Tm) (h : RAt w g room ts) (hn : ts.length ≤ 5000) (k : ByteArray) (t : Int) (ht : 0 ≤ t) (hno : ts.any (keyIs k) = false) (hr : room ≤ ts.length) :
    Calls Try.prog 30 #[.pointer (some ⟨g, 0, none⟩), .string k, .int .i64 t] w fun e w' => e = .returned (.int .i64 5) ∧ ∃ n, w' = w.drewN n := by
  have HA := Lib.hid h
  obtain ⟨v, hblk, hown⟩ := h
  obtain ⟨A, c, rfl, hrd⟩ := own_form hown
  have c1 : w.cell? ⟨g, 1, none⟩ = some (.slice A ts.length c) := hblk.cell 1
  have c0 : w.cell? ⟨g, 0, none⟩ = some (.int .i64 room) := hblk.cell 0
  have ht' : ¬ t < 0 := by omega
  have hr' : (ts.length : Int) ≥ room := hr
  go_enter Try.func30, Try.ntmps30
  go_wp2_with (first
    | (go_at_call 32; refine (rat_ _ g room ts HA.out hn k).mono ?_; rintro e w1 ⟨rfl, rfl⟩; rw [hno])
    | go_in)
  go_quiet (fail)
  go_wp2
  go_ret
  exact ⟨rfl, _, rfl⟩
set_option maxHeartbeats 4000000 in
set_option maxRecDepth 20000 in
theorem rarm_ok (w : World) (g : Nat) (room : Int) (ts : List Tm) (h : RAt w g room ts) (hd : ts.Pairwise fun x y => x.1 ≠ y.1) (hn : ts.length ≤ 4000) (k : ByteArray) (t u : Int) (ht : 0 ≤ t) (hr : ts.any (keyIs k) = true ∨ ts.length < room) :
    Calls Try.prog 30 #[.pointer (some ⟨g, 0, none⟩), .string k, .int .i64 t] w fun e w' => e = .returned (.int .i64 0) ∧ Below g w w' ∧ RAt w' g room ((ts.filter fun x => !keyIs k x) ++ [(k, t, u)]) ∧ ∀ bx T cs, Blk w bx T cs → 78 ≠ T → bx ≠ g → Blk w' bx T cs := by
  have HA := Lib.hid h
  obtain ⟨i0, hi, hz0, hz1, hz2⟩ := info_parts infoR
  have ht' : ¬ t < 0 := by omega
  have hfl := List.length_filter_le (fun x => !keyIs k x) ts
  have q3 : (ts.filter fun x => !keyIs k x).length + 1 ≤ maxLen := by unfold maxLen; omega
  have q4 : ((ts.filter fun x => !keyIs k x).length + 1) * 24 ≤ 140737488355328 := by omega
  obtain ⟨v, hblk, hown⟩ := h
  obtain ⟨A, c, rfl, hrd⟩ := own_form hown
  have c1 : w.cell? ⟨g, 1, none⟩ = some (.slice A ts.length c) := hblk.cell 1
  have c0 : w.cell? ⟨g, 0, none⟩ = some (.int .i64 room) := hblk.cell 0
  clear hblk hown hrd
  have hfin : ∀ n : Nat, Calls Try.prog 31 #[.pointer (some ⟨g, 0, none⟩), .string k] (w.drewN n) fun e w' => e = .returned (.bool (ts.any (keyIs k))) ∧ Keep [g] w w' ∧ RAt w' g room (ts.filter fun x => !keyIs k x) := fun n =>
    (rcancel_ (w.drewN n) g room ts (HA.out.drewN n) hd (by omega) k).mono fun _ _ h => ⟨h.1, ((Keep.refl [g] w).drewN n).trans h.2.1, h.2.2⟩
  cases hany : ts.any (keyIs k) with
  | true =>
    rw [hany] at hfin
    go_enter Try.func30, Try.ntmps30
    go_wp2_with (first
      | (go_at_call 32; refine (rat_ _ g room ts HA.out (by omega) k).mono ?_; rintro e w1 ⟨rfl, rfl⟩; rw [hany])
      | go_in)
    go_quiet (fail)
    go_wp2_with (first
      | (go_at_call 31; refine (hfin _).mono ?_; rintro e w2 ⟨rfl, hb2, v2, hblk2, hown2⟩; obtain ⟨A2, cc2, rfl, _⟩ := own_form hown2; have d1 : w2.cell? ⟨g, 1, none⟩ = some (.slice A2 (ts.filter fun x => !keyIs k x).length cc2) := hblk2.cell 1; have hg2 := hblk2.lt)
      | (at_builtin; refine wpList_append_own _ rfl (.tmp 38) (.tmp 42) 43 rfl (g + 1) 78 i0 _ 2 24 Try.underlying43 hi hz0 hz1 hz2 rfl (by omega) (.slice A2 (ts.filter fun x => !keyIs k x).length cc2) _ _ rfl (hown2.alloc _) ⟨w2.heap.size, 0, none⟩ 1 1 (cellsR (k, t, u)) rfl rfl (new_cells' _ (cellsR (k, t, u)) 78 _ (by simp)) (oneR _) q3 q4 (by simp; omega) ?_; intro v' w9 hown' hgrow _; have hb9 := (hblk2.alloc (.cells #[.string k, .int .i64 t] 78)).grown hgrow (fun e => own_ne hown2 (Nat.lt_succ_self g) e.symm); have f9 := hb9.frozen 1; have e9 : w9.cell? ⟨g, 1, none⟩ = some (.slice A2 (ts.filter fun x => !keyIs k x).length cc2) := hb9.cell 1; have HB9 := Lib.hid hb9; clear hb9; obtain ⟨A9, c9, rfl, _⟩ := own_form hown')
      | go_in)
    go_ret
    refine ⟨rfl, ?_, ⟨_, HB9.out.set_ 1 _, ?_⟩, fun bx T cs hB hT hne => (((Keep.blk hb2 hB (by simpa using hne)).alloc _).grown hgrow (fun e => own_blk_ne hown2 (Keep.blk hb2 hB (by simpa using hne)) hT e.symm)).far hne _⟩
    · have hb2 := hb2.below (Nat.le_of_lt HA.out.lt) (by simp)
      have q2 := (hb2.alloc (by omega) (.cells #[.string k, .int .i64 t] 78)).grown hgrow (by simp; omega) (fun q hq => by have := own_from hown2 q hq; omega)
      exact q2.setCell (Nat.le_refl _) _
    · have := own_keep hown' (((Keep.refl [g] w9).set_ (p := ⟨g, 1, none⟩) (Or.inl (by simp)) (.slice A9 ((ts.filter fun x => !keyIs k x).length + 1) c9))) (by simp)
      rw [List.length_append, List.flatMap_append]
      simpa using this
  | false =>
    have hr' : ¬ (ts.length : Int) ≥ room := by rcases hr with h | h; (rw [h] at hany; cases hany); omega
    rw [hany] at hfin
    go_enter Try.func30, Try.ntmps30
    go_wp2_with (first
      | (go_at_call 32; refine (rat_ _ g room ts HA.out (by omega) k).mono ?_; rintro e w1 ⟨rfl, rfl⟩; rw [hany])
      | go_in)
    go_quiet (fail)
    have hdec : decide (room ≤ (ts.length : Int)) = false := decide_eq_false (by omega)
    simp only [hdec]
    clear hdec hr hr' hany
    go_wp2_with (first
      | (go_at_call 31; refine (hfin _).mono ?_; rintro e w2 ⟨rfl, hb2, v2, hblk2, hown2⟩; obtain ⟨A2, cc2, rfl, _⟩ := own_form hown2; have d1 : w2.cell? ⟨g, 1, none⟩ = some (.slice A2 (ts.filter fun x => !keyIs k x).length cc2) := hblk2.cell 1; have hg2 := hblk2.lt)
      | (at_builtin; refine wpList_append_own _ rfl (.tmp 38) (.tmp 42) 43 rfl (g + 1) 78 i0 _ 2 24 Try.underlying43 hi hz0 hz1 hz2 rfl (by omega) (.slice A2 (ts.filter fun x => !keyIs k x).length cc2) _ _ rfl (hown2.alloc _) ⟨w2.heap.size, 0, none⟩ 1 1 (cellsR (k, t, u)) rfl rfl (new_cells' _ (cellsR (k, t, u)) 78 _ (by simp)) (oneR _) q3 q4 (by simp; omega) ?_; intro v' w9 hown' hgrow _; have hb9 := (hblk2.alloc (.cells #[.string k, .int .i64 t] 78)).grown hgrow (fun e => own_ne hown2 (Nat.lt_succ_self g) e.symm); have f9 := hb9.frozen 1; have e9 : w9.cell? ⟨g, 1, none⟩ = some (.slice A2 (ts.filter fun x => !keyIs k x).length cc2) := hb9.cell 1; have HB9 := Lib.hid hb9; clear hb9; obtain ⟨A9, c9, rfl, _⟩ := own_form hown')
      | go_in)
    go_ret
    refine ⟨rfl, ?_, ⟨_, HB9.out.set_ 1 _, ?_⟩, fun bx T cs hB hT hne => (((Keep.blk hb2 hB (by simpa using hne)).alloc _).grown hgrow (fun e => own_blk_ne hown2 (Keep.blk hb2 hB (by simpa using hne)) hT e.symm)).far hne _⟩
    · have hb2 := hb2.below (Nat.le_of_lt HA.out.lt) (by simp)
      have q2 := (hb2.alloc (by omega) (.cells #[.string k, .int .i64 t] 78)).grown hgrow (by simp; omega) (fun q hq => by have := own_from hown2 q hq; omega)
      exact q2.setCell (Nat.le_refl _) _
    · have := own_keep hown' (((Keep.refl [g] w9).set_ (p := ⟨g, 1, none⟩) (Or.inl (by simp)) (.slice A9 ((ts.filter fun x => !keyIs k x).length + 1) c9))) (by simp)
      rw [List.length_append, List.flatMap_append]
      simpa using this
theorem own_apart {w : World} {base base' n n' : Nat} {e e' : TypeId} {size size' : Nat} {v v' : Value} {xs xs' : List Value} (h : w.ownsRow base e size v n xs) (h' : w.ownsRow base' e' size' v' n' xs') (hne : e ≠ e') : v.ownBlock = none ∨ v.ownBlock ≠ v'.ownBlock := by
  rcases h.2 with ⟨rfl, _⟩ | ⟨g, cap, cur, rfl, _, hh, _⟩
  · left; rfl
  · right
    rcases h'.2 with ⟨rfl, _⟩ | ⟨g', cap', cur', rfl, _, hh', _⟩
    · simp [Value.ownBlock]
    · intro he
      have : g = g' := by simpa [Value.ownBlock] using he
      subst this
      rw [hh] at hh'
      injection hh' with hh'
      injection hh' with _ ht
      exact hne ht
theorem RAt.grown {w w' : World} {g base n : Nat} {e : TypeId} {size : Nat} {v : Value} {xs : List Value} {room : Int} {ts : List Tm} (h : RAt w g room ts) (hg : w.grownBy w' v.ownBlock) (hown : w.ownsRow base e size v n xs) (hb : g < base) (he : e ≠ 78) : RAt w' g room ts := by
  obtain ⟨v1, h1, h2⟩ := h
  exact ⟨v1, h1.grown hg (fun e => own_ne hown hb e.symm), h2.kept hg (own_apart h2 hown (Ne.symm he))⟩
theorem RAt.alloc {w : World} {g : Nat} {room : Int} {ts : List Tm} (h : RAt w g room ts) (o : Obj) : RAt (w.alloc o) g room ts := h.keep ((Keep.refl [] w).alloc o) (by simp)
theorem first_min {cur : List Tm} (hp : cur.Pairwise fun x y => x.2.2 < y.2.2) {j : Nat} {x : Tm} (hx : cur[j]? = some x) (h1 : ∀ y ∈ cur, x.2.1 ≤ y.2.1) (h2 : ∀ y ∈ cur.take j, x.2.1 < y.2.1) : ∀ y ∈ cur, ¬ cmpT y.2 x.2 < 0 := by
  intro y hy
  rw [cmpT_neg]
  obtain ⟨hj, e⟩ := List.getElem?_eq_some_iff.1 hx
  have e1 : cur = cur.take j ++ x :: cur.drop (j + 1) := by rw [← e, ← List.drop_eq_getElem_cons hj, List.take_append_drop]
  have hle := h1 y hy
  rw [e1] at hy hp
  rcases List.mem_append.1 hy with hy | hy
  · have := h2 y hy; omega
  · rcases List.mem_cons.1 hy with rfl | hy
    · omega
    · have := (List.pairwise_cons.1 (List.pairwise_append.1 hp).2.1).1 y hy
      omega
theorem perm_first {cur : List Tm} (hd : cur.Pairwise fun x y => x.1 ≠ y.1) {j : Nat} {x : Tm} (hx : cur[j]? = some x) : cur.Perm (x :: cur.filter fun y => !keyIs x.1 y) := by
  rw [← take_drop hd hx]
  obtain ⟨hj, e⟩ := List.getElem?_eq_some_iff.1 hx
  have e1 : cur = cur.take j ++ x :: cur.drop (j + 1) := by rw [← e, ← List.drop_eq_getElem_cons hj, List.take_append_drop]
  conv => lhs; rw [e1]
  exact List.perm_middle
theorem rest_more (ts : List Tm) (ks : List ByteArray) (k : ByteArray) : rest ts (ks ++ [k]) = (rest ts ks).filter fun x => !keyIs k x := by
  unfold rest
  rw [List.filter_filter]
  refine List.filter_congr fun x _ => ?_
  simp [keyIs, Bool.and_comm]
/-- how far the list of what is due has come -/
structure Inv (ts : List Tm) (now : Int) (out cur : List Tm) : Prop where
  perm : (out ++ cur).Perm ts
  cut : cur = rest ts (out.map (·.1))
  sorted : out.Pairwise fun x y => ¬ cmpT y.2 x.2 < 0
  before : ∀ x ∈ out, ∀ y ∈ cur, ¬ cmpT y.2 x.2 < 0
  due : ∀ x ∈ out, isDue now x = true
theorem Inv.start (ts : List Tm) (now : Int) : Inv ts now [] ts := ⟨List.Perm.refl _, by rw [List.map_nil, rest_nil], List.Pairwise.nil, by simp, by simp⟩
theorem Inv.keys {ts : List Tm} {now : Int} {out cur : List Tm} (h : Inv ts now out cur) (hd : ts.Pairwise fun x y => x.1 ≠ y.1) : cur.Pairwise fun x y => x.1 ≠ y.1 := by rw [h.cut]; exact hd.filter _
theorem Inv.step {ts : List Tm} {now : Int} {out cur : List Tm} (h : Inv ts now out cur) (hd : ts.Pairwise fun x y => x.1 ≠ y.1) (hp : ts.Pairwise fun x y => x.2.2 < y.2.2) {j : Nat} {x : Tm} (hx : cur[j]? = some x)
    (h1 : ∀ y ∈ cur, x.2.1 ≤ y.2.1) (h2 : ∀ y ∈ cur.take j, x.2.1 < y.2.1) (hn : x.2.1 ≤ now) : Inv ts now (out ++ [x]) (cur.filter fun y => !keyIs x.1 y) := by
  have hm := first_min (by rw [h.cut]; exact hp.filter _) hx h1 h2
  have hxc := List.mem_of_getElem? hx
  refine ⟨?_, ?_, ?_, ?_, ?_⟩
  · rw [List.append_assoc]
    exact ((List.perm_append_left_iff out).2 (perm_first (h.keys hd) hx).symm).trans h.perm
  · rw [List.map_append, List.map_singleton, rest_more, ← h.cut]
  · rw [List.pairwise_append]
    exact ⟨h.sorted, List.pairwise_singleton _ _, fun a ha b hb => by simp at hb; subst hb; exact h.before a ha _ hxc⟩
  · intro a ha y hy
    have hy' := (List.mem_filter.1 hy).1
    rcases List.mem_append.1 ha with ha | ha
    · exact h.before a ha y hy'
    · simp at ha; subst ha; exact hm y hy'
  · intro a ha
    rcases List.mem_append.1 ha with ha | ha
    · exact h.due a ha
    · simp at ha; subst ha; simpa [isDue] using hn
theorem Inv.done {ts : List Tm} {now : Int} {out cur : List Tm} (h : Inv ts now out cur) (hd : ts.Pairwise fun x y => x.1 ≠ y.1) (hn : ∀ y ∈ cur, ¬ y.2.1 ≤ now) : DueIs ts now out ∧ cur = ts.filter fun x => !isDue now x := by
  have hdu : DueIs ts now out := by
    refine ⟨?_, h.sorted⟩
    have := h.perm.filter (isDue now)
    rw [List.filter_append, List.filter_eq_self.2 h.due, List.filter_eq_nil_iff.2 (fun y hy => by simpa [isDue] using hn y hy), List.append_nil] at this
    exact this
  exact ⟨hdu, by rw [← rest_due hd hdu]; exact h.cut⟩
set_option maxHeartbeats 4000000 in
set_option maxRecDepth 20000 in
theorem rdue_ (w : World) (g : Nat) (room : Int) (ts : List Tm) (h : RAt w g room ts) (hd : ts.Pairwise fun x y => x.1 ≠ y.1) (hp : ts.Pairwise fun x y => x.2.2 < y.2.2) (hn : ts.length ≤ 4000) (now : Int) :
    Calls Try.prog 34 #[.pointer (some ⟨g, 0, none⟩), .int .i64 now] w fun e w' => ∃ (l : List Tm) (v : Value), DueIs ts now l ∧ e = .returned v ∧ w'.ownsRow w.heap.size 9 1 v l.length (l.map fun x => kv x.1) ∧ Keep [g] w w' ∧ RAt w' g room (ts.filter fun x => !isDue now x) := by
  have hg := h.lt
  have HA := Lib.hid h
  obtain ⟨i0, hi, hz0, hz1, hz2⟩ := info_parts infoK
  clear h
  go_enter Try.func34, Try.ntmps34
  go_wp2
  go_loopw [5] (fun v wr => ∃ out cur : List Tm, Inv ts now out cur ∧ wr.ownsRow w.heap.size 9 1 v out.length (out.map fun x => kv x.1) ∧ RAt wr g room cur ∧ Keep [g] w wr)
    (fun v _ => ts.length - (match v with | .slice _ n _ => n | _ => 0))
  case atStart => exact ⟨[], ts, Inv.start ts now, ⟨by simp, .inl ⟨rfl, rfl⟩⟩, HA.out, Keep.refl _ _⟩
  case round =>
    obtain ⟨out, cur, hinv, hown, hat, hbel⟩ := hrel
    have hll := hinv.perm.length_eq
    rw [List.length_append] at hll
    obtain ⟨A, c, rfl, _⟩ := own_form hown
    have hg2 := hat.lt
    have hbz := hbel.size
    go_wp2_with fail
    refine (rfirst_ _ g room cur hat (by omega)).mono ?_
    rintro e w1 ⟨⟨i, hf, rfl⟩, n, rfl⟩
    have HAT := Lib.hid hat
    obtain ⟨v1, hblk, hown1⟩ := hat
    obtain ⟨A1, c1, rfl, hrd⟩ := own_form hown1
    have d1 : wr.cell? ⟨g, 1, none⟩ = some (.slice A1 cur.length c1) := hblk.cell 1
    rcases hf with ⟨h0, rfl⟩ | ⟨j, x, rfl, hx, h1, h2⟩
    · have HF := Lib.hid (hinv.done hd (by rw [h0]; simp))
      have HO := Lib.hid hown
      clear hinv hown hown1 hblk hrd h0
      go_wp2
      go_ret
      exact ⟨out, _, HF.out.1, rfl, HO.out, hbel.drewN n, by rw [← HF.out.2]; exact HAT.out⟩
    · have hj1 := (List.getElem?_eq_some_iff.1 hx).1
      obtain ⟨bb, off, x', rfl, _, hx', hcc'⟩ := hrd.chunk cellsR 2 (by omega) lenR hj1
      rw [hx] at hx'
      cases hx'
      have e0 : wr.cell? ⟨bb, off + j * 2, none⟩ = some (.string x.1) := hcc' 0 _ rfl
      have e1 : wr.cell? ⟨bb, off + j * 2 + 1, none⟩ = some (.int .i64 x.2.1) := hcc' 1 _ rfl
      have hj0 : ¬ (j : Int) < 0 := by omega
      by_cases hnow : x.2.1 ≤ now
      · have hnow' : ¬ x.2.1 > now := by omega
        have HI := Lib.hid (hinv.step hd hp hx h1 h2 hnow)
        have HKY := Lib.hid (hinv.keys hd)
        have q3 : out.length + 1 ≤ maxLen := by unfold maxLen; omega
        have q4 : (out.length + 1) * 16 ≤ 140737488355328 := by omega
        have HX := Lib.hid hx
        clear hinv hcc' h1 h2 hrd hx
        go_wp2_with (first
          | (at_builtin; refine wpList_append_own _ rfl (.tmp 24) (.tmp 33) 53 rfl w.heap.size 9 i0 _ 1 16 Try.underlying53 hi hz0 hz1 hz2 rfl (by omega) (.slice A out.length c) _ _ rfl (World.ownsRow.alloc (w := wr.drewN n) hown _) ⟨wr.heap.size, 0, none⟩ 1 1 [.string x.1] rfl rfl (new_cells' _ [.string x.1] 9 _ (by simp)) (oneK _) q3 q4 (by simp; omega) ?_; intro v' w9 hown' hgrow _; have hblk9 := ((hblk.drewN n).alloc _).grown hgrow (fun e => own_ne hown (b := g) (by omega) e.symm); have d9 : w9.cell? ⟨g, 1, none⟩ = some (.slice (some ⟨bb, off, none⟩) cur.length c1) := hblk9.cell 1; have hat9 := ((HAT.out.drewN n).alloc _).grown hgrow (World.ownsRow.alloc (w := wr.drewN n) hown _) (by omega) (by decide); have hown9 := (World.ownsRow.alloc (w := wr.drewN n) hown1 _).kept hgrow (own_apart hown1 hown (by decide)); obtain ⟨A8, c8, hv8, hrd9⟩ := own_form hown9; cases hv8; obtain ⟨b9, off9, x9, hA9, _, hx9, hcc9⟩ := hrd9.chunk cellsR 2 (by omega) lenR hj1; cases hA9; rw [HX.out] at hx9; cases hx9; have e9 : w9.cell? ⟨bb, off + j * 2, none⟩ = some (.string x.1) := hcc9 0 _ rfl; clear hcc9 hrd9 hown9 hblk9)
          | (go_at_call 31; refine (rcancel_ _ g room cur hat9 HKY.out (by omega) x.1).mono ?_; rintro e w8 ⟨rfl, hk8, hat8⟩)
          | go_in)
        obtain ⟨A9, c9, rfl, _⟩ := own_form hown'
        refine ⟨⟨out ++ [x], _, HI.out, ?_, hat8, ?_⟩, ?_⟩
        · rw [List.length_append, List.map_append]
          exact own_keep hown' hk8 (by simp; omega)
        · exact (((hbel.drewN n).alloc _).then (Keep.of_grown (xs := (Value.slice A out.length c).ownBlock.toList) hgrow (fun q hq => by rw [hq]; simp)) (fun q hq => Or.inr (own_from hown q (by simpa using hq)))).trans hk8
        · simp only
          omega
      · have hnow' : x.2.1 > now := by omega
        have HF := Lib.hid (hinv.done hd (fun y hy => by have := h1 y hy; omega))
        have HO := Lib.hid hown
        clear hinv hown hown1 hblk hrd hcc' hx h1 h2
        go_wp2
        go_ret
        exact ⟨out, _, HF.out.1, rfl, HO.out, hbel.drewN n, by rw [← HF.out.2]; exact HAT.out⟩
end WhlR
end Go.Proofs.Ytifhjbboddfbcaa
