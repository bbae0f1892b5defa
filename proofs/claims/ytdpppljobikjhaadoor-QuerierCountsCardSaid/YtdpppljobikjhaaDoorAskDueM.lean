/-
  Plain laws of a round of Due: who is due, what the round makes of those who wait.
-/
import Derived.Test.YtdpppljobikjhaaDoorAskTold
namespace Go.Proofs.YtdpppljobikjhaaDoor
set_option linter.unusedVariables false
set_option linter.unusedSimpArgs false
open Go.RowKit Go.Maps
namespace Ask
open Whl Mp
def late (m : Int) (A : List Pw) : List Pw := A.filter fun x => decide (m < x.at_)
def dueL (m : Int) (A : List Pw) : List Pw := A.filter fun x => decide (x.at_ ≤ m)
/-- one that was told, as it waits for its next time -/
def again (gap tu : Int) (m : Int) (x : Pw) : Pw := { x with at_ := m + gap, turn := tu + 1, left := x.left - 1 }
theorem due_split {m : Int} {A rest : List Pw} {x : Pw} (h : dueL m A = x :: rest) : ∃ A1 A2, A = A1 ++ x :: A2 ∧ (∀ y ∈ A1, m < y.at_) ∧ dueL m A2 = rest ∧ x.at_ ≤ m := by
  obtain ⟨A1, A2, e, h1, h2, h3⟩ := List.filter_eq_cons_iff.1 h
  refine ⟨A1, A2, e, fun y hy => ?_, h3, of_decide_eq_true h2⟩
  have := h1 y hy
  simp at this
  omega
theorem late_all {m : Int} {A : List Pw} (h : ∀ y ∈ A, m < y.at_) : late m A = A := List.filter_eq_self.2 fun y hy => decide_eq_true (h y hy)
theorem due_none {m : Int} {A : List Pw} (h : dueL m A = []) : ∀ y ∈ A, m < y.at_ := fun y hy => by
  have := (List.filter_eq_nil_iff.1 h) y hy
  simp at this
  omega
theorem late_drop {m : Int} {A1 A2 : List Pw} {x : Pw} (h : x.at_ ≤ m) : late m (A1 ++ x :: A2) = late m (A1 ++ A2) := by
  unfold late
  rw [List.filter_append, List.filter_append, List.filter_cons, decide_eq_false (by omega)]
  simp
theorem due_drop {m : Int} {A1 A2 : List Pw} (h : ∀ y ∈ A1, m < y.at_) : dueL m (A1 ++ A2) = dueL m A2 := by
  unfold dueL
  rw [List.filter_append]
  have e : A1.filter (fun x => decide (x.at_ ≤ m)) = [] := List.filter_eq_nil_iff.2 fun y hy => by
    have := h y hy
    simp
    omega
  rw [e, List.nil_append]
theorem step_best {m : Int} {A1 A2 B : List Pw} {x : Pw} (hA : ∀ y ∈ A1 ++ x :: A2, m ≤ y.at_) (hB : ∀ y ∈ B, m < y.at_) (h1 : ∀ y ∈ A1, m < y.at_) (hx : x.at_ ≤ m) :
    BestIs (((A1 ++ x :: A2) ++ B).map doc) (((A1 ++ x :: A2) ++ B).map doc).length A1.length ∧ (((A1 ++ x :: A2) ++ B).map doc)[A1.length]? = some (doc x) := by
  have hg : (((A1 ++ x :: A2) ++ B).map doc)[A1.length]? = some (doc x) := by simp
  refine ⟨⟨doc x, hg, (List.getElem?_eq_some_iff.1 hg).1, ?_, ?_⟩, hg⟩
  · have e : (((A1 ++ x :: A2) ++ B).map doc).take A1.length = A1.map doc := by simp
    rw [e]
    intro y hy
    obtain ⟨z, hz, rfl⟩ := List.mem_map.1 hy
    have := h1 z hz
    show x.at_ < z.at_
    omega
  · rw [List.take_length]
    intro y hy
    obtain ⟨z, hz, rfl⟩ := List.mem_map.1 hy
    show x.at_ ≤ z.at_
    rcases List.mem_append.1 hz with hz | hz
    · have := hA z hz; omega
    · have := hB z hz; omega
theorem step_next {gap tu : Int} {A1 A2 B : List Pw} {x : Pw} : next gap (((A1 ++ x :: A2) ++ B).map doc) A1.length (doc x) = ((A1 ++ A2) ++ (if 1 < x.left then B ++ [again gap tu x.at_ x] else B)).map doc := by
  have hc : cut (((A1 ++ x :: A2) ++ B).map doc) A1.length = ((A1 ++ A2) ++ B).map doc := by
    unfold cut
    have e1 : (((A1 ++ x :: A2) ++ B).map doc).take A1.length = A1.map doc := by simp
    have e2 : (((A1 ++ x :: A2) ++ B).map doc).drop (A1.length + 1) = (A2 ++ B).map doc := by
      rw [show ((A1 ++ x :: A2) ++ B).map doc = (A1.map doc ++ [doc x]) ++ (A2 ++ B).map doc by simp]
      exact List.drop_left' (by simp)
    rw [e1, e2]
    simp
  unfold next
  rw [hc]
  by_cases h : 1 < x.left
  · rw [if_pos (show 1 < (doc x).left from h), if_pos h]
    simp [doc, again]
  · rw [if_neg (show ¬ 1 < (doc x).left from h), if_neg h]
theorem apart_ne {L : List Pw} (h : Apart E L) : ∀ {x y : Pw}, x ∈ L → y ∈ L → x.key = y.key → x = y := fun hx hy hk => only_key L h hx hy hk
theorem strike_mid {A1 A2 B : List Pw} {x : Pw} (h : Apart E ((A1 ++ x :: A2) ++ B)) : (((A1 ++ x :: A2) ++ B).filter fun y => !Mp.keyIs E x.key y) = (A1 ++ A2) ++ B := by
  have hne : ∀ y ∈ A1 ++ A2 ++ B, y.key ≠ x.key := by
    unfold Apart at h
    rw [List.append_assoc, List.pairwise_append] at h
    obtain ⟨_, h2, h3⟩ := h
    rw [List.cons_append, List.pairwise_cons] at h2
    intro y hy
    rw [List.append_assoc] at hy
    rcases List.mem_append.1 hy with hy | hy
    · exact h3 y hy x (by simp)
    · exact fun e => h2.1 y hy e.symm
  have e1 : Mp.keyIs E x.key x = true := decide_eq_true rfl
  have e2 : ∀ l : List Pw, (∀ y ∈ l, y ∈ A1 ++ A2 ++ B) → (l.filter fun y => !Mp.keyIs E x.key y) = l := fun l hl => List.filter_eq_self.2 fun y hy => by
    have : Mp.keyIs E x.key y = false := decide_eq_false (hne y (hl y hy))
    rw [this]; rfl
  rw [List.filter_append, List.filter_append, List.filter_cons, e1]
  simp only [Bool.not_true, Bool.false_eq_true, if_false]
  rw [e2 A1 (by simp; intro y hy; exact Or.inl hy), e2 A2 (by intro y hy; simp [hy]), e2 B (by intro y hy; simp [hy])]
/-- what is known of one that waits -/
def OkW (x : Pw) : Prop := (1 ≤ x.left ∧ x.left ≤ 7) ∧ x.q.ss.length ≤ 1000 ∧ 0 ≤ x.at_ ∧ x.at_ ≤ 200000
theorem OkW.again {x : Pw} (h : OkW x) {gap tu m : Int} (h1 : 1 < x.left) (hg : 0 ≤ gap ∧ gap ≤ 1000) (hm : 0 ≤ m ∧ m ≤ 100000) : OkW (again gap tu m x) := by
  obtain ⟨h2, h3, h4⟩ := h
  exact ⟨⟨by show 1 ≤ x.left - 1; omega, by show x.left - 1 ≤ 7; omega⟩, h3, by show 0 ≤ m + gap; omega, by show m + gap ≤ 200000; omega⟩
theorem load_le {ws : List Pw} (h : ∀ x ∈ ws, OkW x) : load (ws.map doc) ≤ 7 * ws.length := by
  induction ws with
  | nil => simp [load]
  | cons a r ih =>
    have h1 := (h a (by simp)).1
    have h2 := ih (fun x hx => h x (by simp [hx]))
    simp only [load, List.map_cons, List.sum_cons, List.length_cons] at h2 ⊢
    have e : (doc a).left = a.left := rfl
    rw [e]
    omega
theorem left_doc {ws : List Pw} (h : ∀ x ∈ ws, OkW x) : ∀ y ∈ ws.map doc, 1 ≤ y.left := fun y hy => by
  obtain ⟨z, hz, rfl⟩ := List.mem_map.1 hy
  exact (h z hz).1.1
/-- what the wheel says is due -/
theorem due_tim {tu m : Int} {ws : List Pw} (hg : WhlI.Good tu (ws.map tim)) (hmin : ∀ x ∈ ws, m ≤ x.at_) {l : List WhlI.Tm} (h : WhlI.DueIs (ws.map tim) m l) : l = (dueL m ws).map tim := by
  refine WhlI.due_one hg h ⟨?_, ?_⟩
  · unfold dueL
    rw [List.filter_map]
    exact List.Perm.refl _
  · have hr := hg.rise
    rw [List.pairwise_map] at hr ⊢
    have hr2 : (dueL m ws).Pairwise fun a b => (tim a).2.2 < (tim b).2.2 := hr.filter _
    refine (List.Pairwise.and_mem.1 hr2).imp ?_
    rintro a b ⟨ha, hb, hab⟩
    have ha2 := List.mem_filter.1 ha
    have hb2 := List.mem_filter.1 hb
    have ha3 := hmin a ha2.1
    have hb3 := hmin b hb2.1
    have ha4 : a.at_ ≤ m := of_decide_eq_true ha2.2
    have hb4 : b.at_ ≤ m := of_decide_eq_true hb2.2
    have hab' : a.turn < b.turn := hab
    intro hc
    rw [WhlC.cmpT_neg] at hc
    have e1 : (tim a).2 = (a.at_, a.turn) := rfl
    have e2 : (tim b).2 = (b.at_, b.turn) := rfl
    rw [e1, e2] at hc
    simp only at hc
    omega
theorem late_tim {m : Int} {ws : List Pw} : ((ws.map tim).filter fun x => !WhlI.isDue m x) = (late m ws).map tim := by
  unfold late
  rw [List.filter_map]
  congr 1
  refine List.filter_congr fun x _ => ?_
  show (!decide (x.at_ ≤ m)) = decide (m < x.at_)
  by_cases h : x.at_ ≤ m
  · rw [decide_eq_true h, decide_eq_false (by omega)]; rfl
  · rw [decide_eq_false h, decide_eq_true (by omega)]; rfl
end Ask
end Go.Proofs.YtdpppljobikjhaaDoor
