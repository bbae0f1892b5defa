/-
  fdb: a table as it stands between the calls; a table that is none; live.
-/
import Derived.Test.YtnnpmbjicpndeaaFdbLearn
namespace Go.Proofs.Ytnnpmbjicpndeaa
set_option linter.unusedVariables false
set_option linter.unusedSimpArgs false
open Go.RowKit Go.Maps
namespace Fdb
open Mp FdbC
/-- a table as it stands between the calls -/
structure On (w : World) (g b : Nat) (room age : Int) (ts : List En) : Prop where
  at_ : At w g b room age ts
  apart : Apart E ts
  good : ∀ x ∈ ts, GoodE x
  len : (ts.length : Int) ≤ room
  room0 : 1 ≤ room
  room1 : room ≤ 1024
  age0 : 1 ≤ age
  age1 : age ≤ 1000000
section
variable {w w' : World} {g b : Nat} {room age : Int} {ts : List En}
theorem On.lt (h : On w g b room age ts) : g < w.heap.size ∧ b < w.heap.size := h.at_.lt
theorem On.keep {ys : List Nat} (h : On w g b room age ts) (hk : Keep ys w w') (hg : g ∉ ys) (hb : b ∉ ys) : On w' g b room age ts := ⟨h.at_.keep hk hg hb, h.apart, h.good, h.len, h.room0, h.room1, h.age0, h.age1⟩
theorem On.below (h : On w g b room age ts) (hb : Below w.heap.size w w') : On w' g b room age ts := h.keep (Keep.of_below hb []) (by simp) (by simp)
theorem On.times (h : On w g b room age ts) : ∀ x ∈ ts, 0 ≤ x.2.2 ∧ x.2.2 ≤ 1099511627776 := fun x hx => (h.good x hx).2.2.2
theorem On.small (h : On w g b room age ts) : ts.length ≤ 1024 := by
  have h1 := h.len
  have h2 := h.room1
  omega
theorem On.perm (h : On w g b room age ts) {l : List En} (hp : l.Perm ts) : On w g b room age l :=
  ⟨h.at_.perm hp, (hp.pairwise_iff (fun {x y} (h : E.key x ≠ E.key y) => Ne.symm h)).2 h.apart, fun x hx => h.good x (hp.mem_iff.1 hx), by rw [hp.length_eq]; exact h.len, h.room0, h.room1, h.age0, h.age1⟩
theorem On.of_gone {p : En → Bool} (h : On w g b room age ts) (ha : At w' g b room age (gone ts p)) : On w' g b room age (gone ts p) :=
  ⟨ha, h.apart.filter _, fun x hx => h.good x (List.mem_filter.1 hx).1, by have := List.length_filter_le (fun x => !p x) ts; have := h.len; unfold gone; omega, h.room0, h.room1, h.age0, h.age1⟩
theorem newO (w : World) (room age : Int) (h1 : 1 ≤ room) (h2 : room ≤ 1024) (h3 : 1 ≤ age) (h4 : age ≤ 1000000) :
    Calls Try.prog 8 #[.int .i64 room, .int .i64 age] w fun e w' => e = .returned (.tuple #[.pointer (some ⟨w.heap.size + 1, 0, none⟩), .int .i64 0]) ∧ On w' (w.heap.size + 1) w.heap.size room age [] ∧ Below w.heap.size w w' := by
  refine (new_ok w room age (by omega) (by omega) (by omega) (by omega)).mono ?_
  rintro e w' ⟨he, ha, hb⟩
  exact ⟨he, ⟨ha, List.Pairwise.nil, by simp, by simp; omega, h1, h2, h3, h4⟩, hb⟩
def LRes (hit : Bool) (w w' : World) (g b : Nat) (room age : Int) (ts : List En) (k : Key) (port now : Int) : Prop :=
  (hit = false ∧ ¬ (Good k.1.1 k.1.2 port now ∧ many k.1.2 = false) ∧ w = w') ∨
  (hit = true ∧ Good k.1.1 k.1.2 port now ∧ many k.1.2 = false ∧ Keep [b] w w' ∧ ∃ ts', Learnt room ts (k, port, now) ts' ∧ On w' g b room age ts')
theorem good_en {k : Key} {port now : Int} (h : Good k.1.1 k.1.2 port now) : GoodE (k, port, now) := ⟨h.2.1, h.1, h.2.2.1, h.2.2.2⟩
theorem learnO (h : On w g b room age ts) (k : Key) (port now : Int) :
    Calls Try.prog 10 #[.pointer (some ⟨g, 0, none⟩), .int .i64 k.1.1, .string k.1.2, .int .i64 port, .int .i64 now] w fun e w' => ∃ hit, e = .returned (.bool hit) ∧ LRes hit w w' g b room age ts k port now := by
  by_cases hg : Good k.1.1 k.1.2 port now ∧ many k.1.2 = false
  · refine (learn_ok w g b room age ts h.at_ h.apart (by have := h.small; omega) h.room0 k port now hg.1 hg.2).mono ?_
    rintro e w' ⟨rfl, hk, ts', hl, ha⟩
    exact ⟨true, rfl, Or.inr ⟨rfl, hg.1, hg.2, hk, ts', hl, ⟨ha, hl.apart h.apart, fun x hx => by
      rcases hl.mem hx with rfl | hx
      · exact good_en hg.1
      · exact h.good x hx, (hl.len h.apart h.len).1, h.room0, h.room1, h.age0, h.age1⟩⟩⟩
  · refine (learn_bad w g k.1.1 k.1.2 port now hg).mono ?_
    rintro e w' ⟨rfl, rfl⟩
    exact ⟨false, rfl, Or.inl ⟨rfl, hg, rfl⟩⟩
theorem lookO (h : On w g b room age ts) (k : Key) (now : Int) :
    Calls Try.prog 11 #[.pointer (some ⟨g, 0, none⟩), .int .i64 k.1.1, .string k.1.2, .int .i64 now] w fun e w' => e = .returned (tell (found age ts k now)) ∧ Keep [] w w' := by
  by_cases hn : 0 ≤ now ∧ now ≤ 1099511627776
  · exact look_ok w g b room age ts h.at_ h.apart h.times ⟨by have := h.age0; omega, h.age1⟩ k now hn
  · have e1 : found age ts k now = none := by unfold found; rw [if_neg hn]
    rw [e1]
    exact look_bad w k.1.1 k.1.2 now g hn
/-- what goes at a time -/
def old (age now : Int) (x : En) : Bool := decide (0 ≤ now ∧ now ≤ 1099511627776) && aged age now x
theorem expireO (h : On w g b room age ts) (now : Int) :
    Calls Try.prog 15 #[.pointer (some ⟨g, 0, none⟩), .int .i64 now] w fun e w' => e = .returned (.int .i64 ((ts.length : Int) - (gone ts (old age now)).length)) ∧ Keep [b] w w' ∧ On w' g b room age (gone ts (old age now)) := by
  by_cases hn : 0 ≤ now ∧ now ≤ 1099511627776
  · have e1 : old age now = aged age now := by funext x; unfold old; rw [decide_eq_true hn]; rfl
    rw [e1]
    refine (expire_ok w g b room age ts h.at_ h.apart (by have := h.small; omega) h.times ⟨by have := h.age0; omega, h.age1⟩ now hn).mono ?_
    rintro e w' ⟨rfl, hk, ha⟩
    exact ⟨rfl, hk, h.of_gone ha⟩
  · have e1 : gone ts (old age now) = ts := by
      unfold gone
      refine List.filter_eq_self.2 fun x _ => ?_
      unfold old
      rw [decide_eq_false hn]
      rfl
    rw [e1]
    refine (expire_bad w g now hn).mono ?_
    rintro e w' ⟨rfl, hk⟩
    exact ⟨by rw [Int.sub_self], hk.mono (by simp), h.keep hk (by simp) (by simp)⟩
theorem flushO (h : On w g b room age ts) (port : Int) :
    Calls Try.prog 16 #[.pointer (some ⟨g, 0, none⟩), .int .i64 port] w fun e w' => e = .returned (.int .i64 ((ts.length : Int) - (gone ts (onPort port)).length)) ∧ Keep [b] w w' ∧ On w' g b room age (gone ts (onPort port)) := by
  refine (flush_ok w g b room age ts h.at_ h.apart (by have := h.small; omega) port).mono ?_
  rintro e w' ⟨rfl, hk, ha⟩
  exact ⟨rfl, hk, h.of_gone ha⟩
theorem entriesO (h : On w g b room age ts) :
    Calls Try.prog 12 #[.pointer (some ⟨g, 0, none⟩)] w fun e w' => ∃ (l : List En) (v : Value), EntriesIs ts l ∧ e = .returned v ∧ w'.ownsRow w.heap.size 54 4 v l.length (l.flatMap fun x => cellsE (er x)) ∧ Below w.heap.size w w' :=
  entries_ w g b room age ts h.at_ h.apart (by have := h.small; omega)
end
theorem learn_nil (w : World) (v : Int) (m : ByteArray) (port now : Int) : Calls Try.prog 10 #[.pointer none, .int .i64 v, .string m, .int .i64 port, .int .i64 now] w fun e w' => e = .returned (.bool false) ∧ w = w' := by
  go_enter Try.func10, Try.ntmps10
  go_wp2
  go_ret
  exact ⟨rfl, rfl⟩
theorem look_nil (w : World) (v : Int) (m : ByteArray) (now : Int) : Calls Try.prog 11 #[.pointer none, .int .i64 v, .string m, .int .i64 now] w fun e w' => e = .returned (tell none) ∧ Below w.heap.size w w' := by
  go_enter Try.func11, Try.ntmps11
  go_wp2
  go_ret2
  exact ⟨rfl, by repeat (first | exact Below.refl _ _ | apply Below.drew | (refine Below.alloc ?_ (by simp <;> omega) _) | (refine Below.setCell ?_ (by simp <;> omega) _))⟩
theorem expire_nil (w : World) (now : Int) : Calls Try.prog 15 #[.pointer none, .int .i64 now] w fun e w' => e = .returned (.int .i64 0) ∧ Below w.heap.size w w' := by
  go_enter Try.func15, Try.ntmps15
  go_wp2
  go_ret
  exact ⟨rfl, by repeat (first | exact Below.refl _ _ | apply Below.drew | (refine Below.alloc ?_ (by simp <;> omega) _) | (refine Below.setCell ?_ (by simp <;> omega) _))⟩
theorem flush_nil (w : World) (port : Int) : Calls Try.prog 16 #[.pointer none, .int .i64 port] w fun e w' => e = .returned (.int .i64 0) ∧ Below w.heap.size w w' := by
  go_enter Try.func16, Try.ntmps16
  go_wp2
  go_ret
  exact ⟨rfl, by repeat (first | exact Below.refl _ _ | apply Below.drew | (refine Below.alloc ?_ (by simp <;> omega) _) | (refine Below.setCell ?_ (by simp <;> omega) _))⟩
theorem entries_nil (w : World) : Calls Try.prog 12 #[.pointer none] w fun e w' => e = .returned (.slice none 0 0) ∧ Below w.heap.size w w' := by
  go_enter Try.func12, Try.ntmps12
  go_wp2
  go_ret
  exact ⟨rfl, by repeat (first | exact Below.refl _ _ | apply Below.drew | (refine Below.alloc ?_ (by simp <;> omega) _) | (refine Below.setCell ?_ (by simp <;> omega) _))⟩
def mA : ByteArray := ⟨#[2, 97, 97, 97, 97, 97]⟩
def mB : ByteArray := ⟨#[2, 98, 98, 98, 98, 98]⟩
def kA : Key := ⟨(1, mA), by decide, by decide⟩
def kB : Key := ⟨(1, mB), by decide, by decide⟩
theorem ab : ¬ kA = kB := by decide
theorem goodA : Good 1 mA 0 5 := ⟨by decide, by decide, by decide, by decide⟩
theorem goodB : Good 1 mB 1 6 := ⟨by decide, by decide, by decide, by decide⟩
theorem live1 {ts : List En} (h : Learnt 1 [] (kA, 0, 5) ts) : ts = [(kA, 0, 5)] := h.one List.Pairwise.nil (Or.inl ⟨Or.inr (by decide), by simp [put, strike]⟩)
theorem live2 {ts : List En} (h : Learnt 1 [(kA, 0, 5)] (kB, 1, 6) ts) : ts = [(kB, 1, 6)] :=
  h.one (List.pairwise_singleton _ _) (Or.inr ⟨⟨by simp [hasK, keyIs, keyE, ab], by decide⟩, (kA, 0, 5), ⟨by simp, fun y hy => by simp at hy; subst hy; rw [cmpA_self]; omega⟩, by simp [put, strike, keyIs, keyE]⟩)
theorem live3 : found 10 [(kB, 1, 6)] kA 7 = none := by simp [found, keyIs, keyE, Ne.symm ab]
theorem live4 : found 10 [(kB, 1, 6)] kB 7 = some 1 := by simp [found, keyIs, keyE]
theorem live5 : found 10 [(kB, 1, 6)] kB 16 = none := by simp [found, keyIs, keyE]
theorem live6 : gone [(kB, 1, 6)] (old 10 16) = [] := by simp [gone, old, aged]
set_option maxHeartbeats 4000000 in
set_option maxRecDepth 20000 in
theorem live_ (w : World) : Calls Try.prog 9 #[] w fun e w' => e = .returned (.bool true) ∧ Below w.heap.size w w' := by
  go_enter Try.func9, Try.ntmps9
  go_wp2_with fail
  refine (newO w 1 10 (by omega) (by omega) (by omega) (by omega)).mono ?_
  rintro e w1 ⟨rfl, on1, b1⟩
  go_wp2_with fail
  refine (new_bad _ 0 10 (by omega)).mono ?_
  rintro e w2 ⟨rfl, rfl⟩
  go_wp2_with fail
  refine (learnO on1 kA 0 5).mono ?_
  rintro e w3 ⟨hit, rfl, hl⟩
  obtain ⟨rfl, hbad, _⟩ | ⟨rfl, _, _, k3, ts, hl, on3⟩ := hl
  · exact absurd ⟨goodA, rfl⟩ hbad
  cases live1 hl
  clear hl
  go_wp2_with fail
  refine (learnO on3 kB 1 6).mono ?_
  rintro e w4 ⟨hit, rfl, hl⟩
  obtain ⟨rfl, hbad, _⟩ | ⟨rfl, _, _, k4, ts, hl, on4⟩ := hl
  · exact absurd ⟨goodB, rfl⟩ hbad
  cases live2 hl
  clear hl
  go_wp2_with fail
  refine (lookO on4 kA 7).mono ?_
  rintro e w5 ⟨rfl, k5⟩
  rw [live3]
  simp only [tell]
  have on5 := on4.keep k5 (by simp) (by simp)
  go_wp2_with fail
  refine (lookO on5 kB 7).mono ?_
  rintro e w6 ⟨rfl, k6⟩
  rw [live4]
  simp only [tell]
  have on6 := on5.keep k6 (by simp) (by simp)
  go_wp2_with fail
  refine (lookO on6 kB 16).mono ?_
  rintro e w7 ⟨rfl, k7⟩
  rw [live5]
  simp only [tell]
  have on7 := on6.keep k7 (by simp) (by simp)
  go_wp2_with fail
  refine (expireO on7 16).mono ?_
  rintro e w8 ⟨rfl, k8, on8⟩
  rw [live6]
  go_wp2
  go_ret
  refine ⟨rfl, ?_⟩
  have hz : ∀ x ∈ [w.heap.size], w.heap.size ≤ x := by simp
  have hz0 : ∀ x ∈ ([] : List Nat), w.heap.size ≤ x := by simp
  have y1 := b1.size
  have y3 := Nat.le_trans y1 k3.size
  have y4 := Nat.le_trans y3 k4.size
  have y5 := Nat.le_trans y4 k5.size
  have y6 := Nat.le_trans y5 k6.size
  have y7 := Nat.le_trans y6 k7.size
  exact (((((b1.trans (k3.below y1 hz)).trans (k4.below y3 hz)).trans (k5.below y4 hz0)).trans (k6.below y5 hz0)).trans (k7.below y6 hz0)).trans (k8.below y7 hz)
end Fdb
end Go.Proofs.Ytnnpmbjicpndeaa
