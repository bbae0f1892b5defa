/-
  The document's table: plain laws of its Learn, and the walk of Learn.
-/
import Derived.Test.YtnnpmbjicpndeaaFdbRef4
namespace Go.Proofs.Ytnnpmbjicpndeaa
set_option linter.unusedVariables false
set_option linter.unusedSimpArgs false
open Go.RowKit Go.Maps
namespace FdbR
open Mp FdbC Fdb
theorem before_iff (y : En) (k : Key) (p a : Int) : before y k.1.1 k.1.2 = true ↔ ltK y (k, p, a) := by
  rw [ltK_iff]
  unfold before
  simp
/-- an entry put in at a place -/
def insAt (L : List En) (j : Nat) (x : En) : List En := L.take j ++ x :: L.drop j
theorem ins_perm {L : List En} {x : En} (h : hasK L x.1 = false) (j : Nat) : (insAt L j x).Perm (put L x) := by
  unfold insAt put
  rw [strike_no h]
  refine List.perm_middle.trans ?_
  rw [List.take_append_drop]
  exact (List.perm_append_comm (l₁ := [x]) (l₂ := L))
theorem ins_sorted {L : List En} (hs : Sorted L) {x : En} (hno : hasK L x.1 = false) {j : Nat} (h1 : ∀ y ∈ L.take j, ltK y x) (h2 : ∀ z, L[j]? = some z → ¬ ltK z x) : Sorted (insAt L j x) := by
  have hs0 := hs
  unfold Sorted at hs
  rw [← List.take_append_drop j L, List.pairwise_append] at hs
  obtain ⟨p1, p2, p3⟩ := hs
  have hd : ∀ y ∈ L.drop j, ltK x y := by
    cases hz : L[j]? with
    | none =>
      rw [List.getElem?_eq_none_iff] at hz
      rw [List.drop_of_length_le hz]
      simp
    | some z =>
      have hzm := List.mem_of_getElem? hz
      have hne : z.1 ≠ x.1 := fun e => by
        have := (List.any_eq_false.1 hno) z hzm
        exact this ((keyIsE _ _).2 e)
      have hxz : ltK x z := by
        rcases ltK_tri hne with h | h
        · exact absurd h (h2 z hz)
        · exact h
      rw [drop_at hz] at p2 ⊢
      rw [List.pairwise_cons] at p2
      intro y hy
      rcases List.mem_cons.1 hy with rfl | hy
      · exact hxz
      · exact ltK_trans hxz (p2.1 y hy)
  unfold insAt Sorted
  rw [List.pairwise_append]
  refine ⟨p1, List.pairwise_cons.2 ⟨hd, p2⟩, fun a ha b hb => ?_⟩
  rcases List.mem_cons.1 hb with rfl | hb
  · exact h1 a ha
  · exact p3 a ha b hb
theorem set_sorted {L : List En} (hs : Sorted L) {j : Nat} {y x : En} (hy : L[j]? = some y) (hk : y.1 = x.1) : Sorted (L.set j x) := by
  obtain ⟨hj, e⟩ := List.getElem?_eq_some_iff.1 hy
  unfold Sorted
  rw [List.pairwise_iff_getElem]
  intro a b ha hb hab
  have h := List.pairwise_iff_getElem.1 hs a b (by simpa using ha) (by simpa using hb) hab
  rw [List.getElem_set, List.getElem_set]
  refine (ltK_congr ?_ ?_).1 h
  · split
    · rename_i h1; subst h1; rw [e, hk]
    · rfl
  · split
    · rename_i h1; subst h1; rw [e, hk]
    · rfl
theorem set_perm {L : List En} (hd : Apart E L) {j : Nat} {y x : En} (hy : L[j]? = some y) (hk : y.1 = x.1) : (L.set j x).Perm (put L x) := by
  obtain ⟨hj, e⟩ := List.getElem?_eq_some_iff.1 hy
  unfold put
  rw [← hk, ← cut_strike hd hy, List.set_eq_take_append_cons_drop, if_pos hj]
  unfold cut
  refine List.perm_middle.trans ?_
  exact (List.perm_append_comm (l₁ := [x]))
theorem noK {L : List En} {k : Key} (h : ∀ y ∈ L, y.1 ≠ k) : hasK L k = false := by
  unfold hasK
  rw [List.any_eq_false]
  intro y hy
  rw [keyIsE]
  exact h y hy
theorem strike_noK {L : List En} {k : Key} (h : hasK L k = false) (k2 : Key) : hasK (strike L k2) k = false := by
  unfold hasK at *
  rw [List.any_eq_false] at *
  exact fun y hy => h y (List.mem_filter.1 hy).1
/-- what lies below a table, and blocks of other things, stay as they were -/
structure Safe (q : Nat) (w w' : World) : Prop where
  low : Below q w w'
  blk : ∀ bx T cs, Blk w bx T cs → 59 ≠ T → bx ≠ q → Blk w' bx T cs
section
variable {q : Nat} {a b c : World}
theorem Safe.refl (q : Nat) (w : World) : Safe q w w := ⟨Below.refl _ _, fun _ _ _ h _ _ => h⟩
theorem Safe.trans (h : Safe q a b) (k : Safe q b c) : Safe q a c := ⟨h.low.trans k.low, fun bx T cs hB hT hq => k.blk bx T cs (h.blk bx T cs hB hT hq) hT hq⟩
theorem Safe.of_keep (hk : Keep [q] a b) (hq : q ≤ a.heap.size) : Safe q a b := ⟨hk.below hq (by simp), fun bx T cs hB _ hne => Keep.blk hk hB (by simpa using hne)⟩
theorem Safe.of_below (hb : Below a.heap.size a b) (hq : q ≤ a.heap.size) : Safe q a b := ⟨hb.mono hq, fun bx T cs hB _ _ => hB.below hb hB.lt⟩
theorem Safe.alloc (h : Safe q a b) (hq : q ≤ b.heap.size) (o : Obj) : Safe q a (b.alloc o) := ⟨h.low.alloc hq o, fun bx T cs hB hT hne => (h.blk bx T cs hB hT hne).alloc o⟩
theorem Safe.grown (h : Safe q a b) {base n : Nat} {v : Value} {xs : List Value} (hown : b.ownsRow base 59 4 v n xs) (hb : q ≤ base) (hq : q ≤ b.heap.size) (hg : b.grownBy c v.ownBlock) : Safe q a c :=
  ⟨h.low.grown hg hq (fun x hx => by have := own_from hown x hx; omega), fun bx T cs hB hT hne => (h.blk bx T cs hB hT hne).grown hg (fun e => own_blk_ne hown (h.blk bx T cs hB hT hne) hT e.symm)⟩
theorem Safe.set_ (h : Safe q a b) (i : Nat) (u : Value) : Safe q a (b.setCell ⟨q, i, none⟩ u) := ⟨h.low.setCell (Nat.le_refl _) u, fun bx T cs hB hT hne => (h.blk bx T cs hB hT hne).far hne u⟩
theorem Safe.row (h : Safe q a b) {g : Nat} {xs : List Value} (hr : Row b g 59 xs) (hg : q ≤ g) (i : Nat) (u : Value) : Safe q a (b.setCell ⟨g, i, none⟩ u) :=
  ⟨h.low.setCell hg u, fun bx T cs hB hT hne => (h.blk bx T cs hB hT hne).far (fun e => by
    obtain ⟨cur, h1, _⟩ := hr
    subst e
    exact Blk.ne_ (t := 59) (cs := cur) h1 (h.blk bx T cs hB hT hne) hT rfl) u⟩
end
theorem own_set {w : World} {base n g cap : Nat} {e : TypeId} {size : Nat} {xs : List Value} (h : w.ownsRow base e size (.slice (some ⟨g, 0, none⟩) n cap) n xs) (i : Nat) (u : Value) : (w.setCell ⟨g, i, none⟩ u).ownsRow base e size (.slice (some ⟨g, 0, none⟩) n cap) n (xs.set i u) := by
  obtain ⟨h1, h2⟩ := h
  refine ⟨by rw [List.length_set]; exact h1, ?_⟩
  rcases h2 with ⟨h, _⟩ | ⟨g', cap', cur, hv, hg, hh, hn, hc, hs, ht⟩
  · cases h
  · cases hv
    refine .inr ⟨g, cap, cur.setIfInBounds i u, rfl, hg, Blk.set_ hh i u, hn, hc, by simpa using hs, ?_⟩
    rw [Array.toList_setIfInBounds, List.take_set, ht]
/-- what is known behind Learn -/
def RLearned (w w' : World) (q : Nat) (room age : Int) (L : List En) (x : En) : Prop :=
  Safe q w w' ∧ ∃ L' ts' : List En, Sorted L' ∧ Learnt room L x ts' ∧ L'.Perm ts' ∧ RAt w' q room age L'
set_option maxRecDepth 20000 in
theorem rlearn_bad (w : World) (q : Nat) (v : Int) (m : ByteArray) (port now : Int) (hbad : ¬ (Fdb.Good v m port now ∧ many m = false)) :
    Calls Try.prog 23 #[.pointer (some ⟨q, 0, none⟩), .int .i64 v, .string m, .int .i64 port, .int .i64 now] w fun e w' => e = .returned (.bool false) ∧ w = w' := by
  by_cases h1 : m.size = 6
  · have h1' : (m.size : Int) = 6 := by omega
    cases hm : many m with
    | true =>
      go_enter Try.func23, Try.ntmps23
      go_wp2_with (first
        | (go_at_call 37; refine (rmany_ _ _).mono ?_; rintro e w1 ⟨rfl, rfl⟩; rw [hm])
        | go_in)
      go_ret
      exact ⟨rfl, rfl⟩
    | false =>
      by_cases h2 : 1 ≤ v
      · by_cases h2' : v ≤ 4094
        · by_cases h3 : 0 ≤ port
          · by_cases h3' : port ≤ 15
            · by_cases h4 : 0 ≤ now ∧ now ≤ 1099511627776
              · exact absurd ⟨⟨h1, ⟨h2, h2'⟩, ⟨h3, h3'⟩, h4⟩, hm⟩ hbad
              · have d4 := decide_eq_false h4
                clear h4 hbad
                go_enter Try.func23, Try.ntmps23
                go_wp2_with (first
                  | (go_at_call 37; refine (rmany_ _ _).mono ?_; rintro e w1 ⟨rfl, rfl⟩; rw [hm])
                  | (go_at_call 38; refine (rtime_ _ _).mono ?_; rintro e w1 ⟨rfl, rfl⟩; rw [d4])
                  | go_in)
                go_ret
                exact ⟨rfl, rfl⟩
            · clear hbad
              go_enter Try.func23, Try.ntmps23
              go_wp2_with (first
                | (go_at_call 37; refine (rmany_ _ _).mono ?_; rintro e w1 ⟨rfl, rfl⟩; rw [hm])
                | go_in)
              go_ret
              exact ⟨rfl, rfl⟩
          · clear hbad
            go_enter Try.func23, Try.ntmps23
            go_wp2_with (first
              | (go_at_call 37; refine (rmany_ _ _).mono ?_; rintro e w1 ⟨rfl, rfl⟩; rw [hm])
              | go_in)
            go_ret
            exact ⟨rfl, rfl⟩
        · clear hbad
          go_enter Try.func23, Try.ntmps23
          go_wp2_with (first
            | (go_at_call 37; refine (rmany_ _ _).mono ?_; rintro e w1 ⟨rfl, rfl⟩; rw [hm])
            | go_in)
          go_ret
          exact ⟨rfl, rfl⟩
      · clear hbad
        go_enter Try.func23, Try.ntmps23
        go_wp2_with (first
          | (go_at_call 37; refine (rmany_ _ _).mono ?_; rintro e w1 ⟨rfl, rfl⟩; rw [hm])
          | go_in)
        go_ret
        exact ⟨rfl, rfl⟩
  · have h1' : ¬ (m.size : Int) = 6 := by omega
    clear hbad
    go_enter Try.func23, Try.ntmps23
    go_wp2
    go_ret
    exact ⟨rfl, rfl⟩
end FdbR
end Go.Proofs.Ytnnpmbjicpndeaa
