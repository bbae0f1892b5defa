/-
  One call on both tables, the program's and the document's: they answer alike, and stay alike.
-/
import Derived.Test.YtnnpmbjicpndeaaFdbRef6
import Derived.Test.YtnnpmbjicpndeaaFdbOpen
import Derived.Deep.RegionHeld3
namespace Go.Proofs.Ytnnpmbjicpndeaa
set_option linter.unusedVariables false
set_option linter.unusedSimpArgs false
open Go.RowKit Go.Maps
namespace FdbR
open Mp FdbC Fdb
set_option maxRecDepth 20000 in
theorem alike_ (w : World) (A1 A2 : Option Addr) (c1 c2 : Nat) (l : List En) (h1 : Reads w w.heap.size 4 A1 l.length (l.flatMap cE)) (h2 : Reads w w.heap.size 4 A2 l.length (l.flatMap cE)) (hn : l.length ≤ 5000) :
    Calls Try.prog 14 #[.slice A1 l.length c1, .slice A2 l.length c2] w fun e w' => e = .returned (.bool true) ∧ ∃ m, w' = w.drewN m := by
  go_enter Try.func14, Try.ntmps14
  go_wp2
  go_loopw [5] (fun i wr => ∃ (k m : Nat), k ≤ l.length ∧ i = .int .i64 k ∧ wr = w.drewN m) (fun i _ => l.length - (intOf i).toNat)
  case atStart => exact ⟨0, 0, Nat.zero_le _, rfl, rfl⟩
  case round =>
    obtain ⟨k, m, hk, rfl, rfl⟩ := hrel
    by_cases hlt : k < l.length
    · have hlt' : (k : Int) < (l.length : Int) := by omega
      obtain ⟨b1, o1, x, rfl, hb1, hx, hc1⟩ := h1.chunk cE 4 (by omega) lenC hlt
      obtain ⟨b2, o2, x', rfl, hb2, hx', hc2⟩ := h2.chunk cE 4 (by omega) lenC hlt
      cases hx.symm.trans hx'
      have d0 : w.cell? ⟨b1, o1 + k * 4, none⟩ = some (.int .i64 x.1.1.1) := hc1 0 _ rfl
      have d1 : w.cell? ⟨b1, o1 + k * 4 + 1, none⟩ = some (.string x.1.1.2) := hc1 1 _ rfl
      have d2 : w.cell? ⟨b1, o1 + k * 4 + 2, none⟩ = some (.int .i64 x.2.1) := hc1 2 _ rfl
      have d3 : w.cell? ⟨b1, o1 + k * 4 + 3, none⟩ = some (.int .i64 x.2.2) := hc1 3 _ rfl
      have e0 : w.cell? ⟨b2, o2 + k * 4, none⟩ = some (.int .i64 x.1.1.1) := hc2 0 _ rfl
      have e1 : w.cell? ⟨b2, o2 + k * 4 + 1, none⟩ = some (.string x.1.1.2) := hc2 1 _ rfl
      have e2 : w.cell? ⟨b2, o2 + k * 4 + 2, none⟩ = some (.int .i64 x.2.1) := hc2 2 _ rfl
      have e3 : w.cell? ⟨b2, o2 + k * 4 + 3, none⟩ = some (.int .i64 x.2.2) := hc2 3 _ rfl
      clear hc1 hc2 h1 h2 hx hx'
      obtain ⟨⟨⟨v, mc⟩, okx⟩, p, at_⟩ := x
      simp only at *
      go_wp2
      go_quiet (fail)
      go_wp2
      exact ⟨⟨k + 1, m + nq, by omega, by go_num, by simp⟩, by simp [intOf]; omega⟩
    · have e : k = l.length := by omega
      subst e
      go_wp2
      go_ret
      exact ⟨rfl, m, rfl⟩
/-- both tables, alike -/
structure Both (w : World) (g b q : Nat) (room age : Int) (ts L : List En) : Prop where
  on : On w g b room age ts
  ref : RAt w q room age L
  sorted : Sorted L
  perm : ts.Perm L
  gr : g < q
  br : b < q
section
variable {w w' : World} {g b q : Nat} {room age : Int} {ts L : List En}
theorem Both.keep0 (h : Both w g b q room age ts L) (hk : Keep [] w w') : Both w' g b q room age ts L := ⟨h.on.keep hk (by simp) (by simp), h.ref.keep hk (by simp), h.sorted, h.perm, h.gr, h.br⟩
theorem Both.alloc (h : Both w g b q room age ts L) (o : Obj) : Both (w.alloc o) g b q room age ts L := h.keep0 ((Keep.refl [] w).alloc o)
theorem Both.drewN (h : Both w g b q room age ts L) (n : Nat) : Both (w.drewN n) g b q room age ts L := h.keep0 ((Keep.refl [] w).drewN n)
theorem Both.drew (h : Both w g b q room age ts L) : Both w.drew g b q room age ts L := h.keep0 ((Keep.refl [] w).drew)
theorem Both.small (h : Both w g b q room age ts L) : L.length ≤ 1024 := by rw [← h.perm.length_eq]; exact h.on.small
theorem Both.times (h : Both w g b q room age ts L) : ∀ x ∈ L, 0 ≤ x.2.2 ∧ x.2.2 ≤ 1099511627776 := fun x hx => h.on.times x (h.perm.mem_iff.2 hx)
theorem Both.ages (h : Both w g b q room age ts L) : 0 ≤ age ∧ age ≤ 1000000 := ⟨by have := h.on.age0; omega, h.on.age1⟩
theorem On_low (h : On w g b room age ts) (hb : Below q w w') (hg : g < q) (hbr : b < q) : On w' g b room age ts := by
  have hk : Keep ((List.range w.heap.size).filter fun x => decide (q ≤ x)) w w' := ⟨hb.os, hb.tape, hb.output, hb.size, fun k hk hx => hb.block k (by
    rw [List.mem_filter, List.mem_range, decide_eq_true_iff] at hx
    omega)⟩
  exact h.keep hk (by simp; omega) (by simp; omega)
theorem gone_perm {p : En → Bool} (h : ts.Perm L) : (gone ts p).Perm (gone L p) := h.filter _
theorem gone_sorted {p : En → Bool} (h : Sorted L) : Sorted (gone L p) := h.filter _
theorem strike_perm {a c : List En} (h : a.Perm c) (k : Key) : (strike a k).Perm (strike c k) := h.filter _
theorem put_perm {a c : List En} (h : a.Perm c) (x : En) : (put a x).Perm (put c x) := (strike_perm h x.1).append_right _
theorem hasK_perm {a c : List En} (h : a.Perm c) (k : Key) : hasK a k = hasK c k := by
  unfold hasK
  rw [Bool.eq_iff_iff, List.any_eq_true, List.any_eq_true]
  exact ⟨fun ⟨x, h1, h2⟩ => ⟨x, h.mem_iff.1 h1, h2⟩, fun ⟨x, h1, h2⟩ => ⟨x, h.mem_iff.2 h1, h2⟩⟩
theorem learnt_perm {room : Int} {a c a' c' : List En} (hd : Apart E a) (h : a.Perm c) {x : En} (h1 : Learnt room a x a') (h2 : Learnt room c x c') : a'.Perm c' := by
  have hl := h.length_eq
  have hh := hasK_perm h x.1
  rcases h1 with ⟨q1, rfl⟩ | ⟨q1, e1, o1, rfl⟩
  · rcases h2 with ⟨q2, rfl⟩ | ⟨q2, e2, o2, rfl⟩
    · exact put_perm h x
    · rw [hh, hl] at q1
      rcases q1 with q1 | q1
      · rw [q1] at q2; cases q2.1
      · omega
  · rcases h2 with ⟨q2, rfl⟩ | ⟨q2, e2, o2, rfl⟩
    · rw [hh, hl] at q1
      rcases q2 with q2 | q2
      · rw [q2] at q1; cases q1.1
      · omega
    · obtain rfl := old_one hd o1 (o2.perm h.symm)
      exact put_perm (strike_perm h _) x
theorem learnG (h : On w g b room age ts) (k : Key) (port now : Int) (hg : Fdb.Good k.1.1 k.1.2 port now ∧ many k.1.2 = false) :
    Calls Try.prog 10 #[.pointer (some ⟨g, 0, none⟩), .int .i64 k.1.1, .string k.1.2, .int .i64 port, .int .i64 now] w fun e w' => e = .returned (.bool true) ∧ Keep [b] w w' ∧ ∃ ts', Learnt room ts (k, port, now) ts' ∧ On w' g b room age ts' := by
  refine (learnO h k port now).mono ?_
  rintro e w' ⟨hit, rfl, hl⟩
  obtain ⟨rfl, hbad, _⟩ | ⟨rfl, _, _, k2, ts', hl, on2⟩ := hl
  · exact absurd hg hbad
  · exact ⟨rfl, k2, ts', hl, on2⟩
theorem learnB (h : On w g b room age ts) (k : Key) (port now : Int) (hg : ¬ (Fdb.Good k.1.1 k.1.2 port now ∧ many k.1.2 = false)) :
    Calls Try.prog 10 #[.pointer (some ⟨g, 0, none⟩), .int .i64 k.1.1, .string k.1.2, .int .i64 port, .int .i64 now] w fun e w' => e = .returned (.bool false) ∧ w = w' := by
  refine (learnO h k port now).mono ?_
  rintro e w' ⟨hit, rfl, hl⟩
  obtain ⟨rfl, hbad, rfl⟩ | ⟨rfl, h1, h2, _⟩ := hl
  · exact ⟨rfl, rfl⟩
  · exact absurd ⟨h1, h2⟩ hg
end
/-- what a call leaves behind: the tables alike, and what lies below them as it was -/
def Then (w w' : World) (g b q : Nat) (room age : Int) : Prop :=
  ∃ ts' L', Both w' g b q room age ts' L' ∧ (∀ B, B ≤ g → B ≤ b → Below B w w')
theorem keep_low {ys : List Nat} {w w' : World} (hk : Keep ys w w') {B : Nat} (h1 : ∀ y ∈ ys, B ≤ y) (h2 : B ≤ w.heap.size) : Below B w w' := hk.below h2 h1
set_option maxHeartbeats 8000000 in
set_option maxRecDepth 100000 in
theorem step_ (w : World) (g b q : Nat) (room age : Int) (ts L : List En) (h : Both w g b q room age ts L) (x : OpF) (hx : OkOp x) :
    Calls Try.prog 13 #[.pointer (some ⟨g, 0, none⟩), .pointer (some ⟨q, 0, none⟩), .agg #[.int .i64 x.kind, .int .i64 x.v, .string x.m, .int .i64 x.port, .int .i64 x.now]] w fun e w' => e = .returned (.bool true) ∧ Then w w' g b q room age := by
  obtain ⟨kd, v, m, pt, nw⟩ := x
  have hkey : okK (v, m) := hx.key
  have hlt := h.ref.lt
  have hgr := h.gr
  have hbr := h.br
  have hsm := h.small
  have HS := Lib.hid h
  have hbox : Blk (w.alloc (.cells #[.int .i64 kd, .int .i64 v, .string m, .int .i64 pt, .int .i64 nw] 30)) w.heap.size 30 #[.int .i64 kd, .int .i64 v, .string m, .int .i64 pt, .int .i64 nw] := Blk.new w _ _
  have v1 : (w.alloc (.cells #[.int .i64 kd, .int .i64 v, .string m, .int .i64 pt, .int .i64 nw] 30)).cell? ⟨w.heap.size, 1, none⟩ = some (.int .i64 v) := hbox.cell 1
  have v2 : (w.alloc (.cells #[.int .i64 kd, .int .i64 v, .string m, .int .i64 pt, .int .i64 nw] 30)).cell? ⟨w.heap.size, 2, none⟩ = some (.string m) := hbox.cell 2
  have v3 : (w.alloc (.cells #[.int .i64 kd, .int .i64 v, .string m, .int .i64 pt, .int .i64 nw] 30)).cell? ⟨w.heap.size, 3, none⟩ = some (.int .i64 pt) := hbox.cell 3
  have v4 : (w.alloc (.cells #[.int .i64 kd, .int .i64 v, .string m, .int .i64 pt, .int .i64 nw] 30)).cell? ⟨w.heap.size, 4, none⟩ = some (.int .i64 nw) := hbox.cell 4
  have hlow : ∀ B, B ≤ g → B ≤ b → Below B w (w.alloc (.cells #[.int .i64 kd, .int .i64 v, .string m, .int .i64 pt, .int .i64 nw] 30)).drew := fun B hB1 hB2 => ((Below.refl B w).alloc (by omega) _).drew
  have hlow0 : ∀ B, B ≤ g → B ≤ b → Below B w (w.alloc (.cells #[.int .i64 kd, .int .i64 v, .string m, .int .i64 pt, .int .i64 nw] 30)) := fun B hB1 hB2 => ((Below.refl B w).alloc (by omega) _)
  have HLOW := Lib.hid hlow
  have HLOW0 := Lib.hid hlow0
  have hs1 := Lib.hid (h.alloc (.cells #[.int .i64 kd, .int .i64 v, .string m, .int .i64 pt, .int .i64 nw] 30))
  have HBOX := Lib.hid hbox
  have hsz : w.heap.size < (w.alloc (.cells #[.int .i64 kd, .int .i64 v, .string m, .int .i64 pt, .int .i64 nw] 30)).heap.size := by simp
  clear hlow hlow0 hbox hx h
  by_cases hk0 : kd = 0
  · subst hk0
    by_cases hgood : Fdb.Good v m pt nw ∧ many m = false
    · have HG := Lib.hid hgood
      clear hgood
      go_enter Try.func13, Try.ntmps13
      go_wp2_with fail
      go_region_held3 (fun w' => w'.cell? ⟨w.heap.size, 1, none⟩ = some (.int .i64 v) ∧ w'.cell? ⟨w.heap.size, 2, none⟩ = some (.string m) ∧ w'.cell? ⟨w.heap.size, 3, none⟩ = some (.int .i64 pt) ∧ w'.cell? ⟨w.heap.size, 4, none⟩ = some (.int .i64 nw))
        (first
          | exact g6
          | exact g5
          | (exact ⟨v1, v2, v3, v4⟩))
        (first
          | (go_at_call 10; refine (learnG (hs1.out.drew.on) ⟨(v, m), hkey⟩ pt nw HG.out).mono ?_; rintro e w5 ⟨rfl, k5, ts5, l5, on5⟩; have k5z : w.heap.size < w5.heap.size := Nat.lt_of_lt_of_le hsz k5.size; have B5 := Keep.blk k5 (HBOX.out.drew) (by simp; omega); have g5 : w5.cell? ⟨w.heap.size, 1, none⟩ = some (.int .i64 v) ∧ w5.cell? ⟨w.heap.size, 2, none⟩ = some (.string m) ∧ w5.cell? ⟨w.heap.size, 3, none⟩ = some (.int .i64 pt) ∧ w5.cell? ⟨w.heap.size, 4, none⟩ = some (.int .i64 nw) := ⟨B5.cell 1, B5.cell 2, B5.cell 3, B5.cell 4⟩; have HB5 := Lib.hid B5; have HON5 := Lib.hid on5; have HL5 := Lib.hid l5; have HR5 := Lib.hid (hs1.out.drew.ref.keep k5 (by simp; omega)); have HK5 := Lib.hid k5; clear k5 on5 B5 l5)
          | (go_at_call 23; refine (rlearn_ok _ q room age L HR5.out HS.out.sorted (by omega) HS.out.on.room0 ⟨(v, m), hkey⟩ pt nw HG.out.1 HG.out.2).mono ?_; rintro e w6 ⟨rfl, s6, L6, ts6, so6, le6, pe6, r6⟩; have B6 := s6.blk _ _ _ HB5.out (by decide) (by omega); have g6 : w6.cell? ⟨w.heap.size, 1, none⟩ = some (.int .i64 v) ∧ w6.cell? ⟨w.heap.size, 2, none⟩ = some (.string m) ∧ w6.cell? ⟨w.heap.size, 3, none⟩ = some (.int .i64 pt) ∧ w6.cell? ⟨w.heap.size, 4, none⟩ = some (.int .i64 nw) := ⟨B6.cell 1, B6.cell 2, B6.cell 3, B6.cell 4⟩; have HB6 := Lib.hid s6.low; have HR6 := Lib.hid r6; have HSO6 := Lib.hid so6; have HPE6 := Lib.hid (((learnt_perm HS.out.on.apart HS.out.perm HL5.out le6).trans pe6.symm)); clear s6 r6 B6 so6 pe6 le6))
      all_goals
        go_wp2
        go_ret
        refine ⟨retb (by simp), _, _, ⟨On_low HON5.out HB6.out hgr hbr, HR6.out, HSO6.out, HPE6.out, hgr, hbr⟩, fun B hB1 hB2 => ?_⟩
        exact ((HLOW.out B hB1 hB2).trans (keep_low HK5.out (by simp; omega) (by simp; omega))).trans (HB6.out.mono (by omega))
    · have hl1 : ∀ n : Nat, Calls Try.prog 10 #[.pointer (some ⟨g, 0, none⟩), .int .i64 v, .string m, .int .i64 pt, .int .i64 nw] ((w.alloc (.cells #[.int .i64 0, .int .i64 v, .string m, .int .i64 pt, .int .i64 nw] 30)).drewN n) fun e w'' => e = .returned (.bool false) ∧ ∃ m1, w'' = (w.alloc (.cells #[.int .i64 0, .int .i64 v, .string m, .int .i64 pt, .int .i64 nw] 30)).drewN m1 :=
        fun n => (learnB ((hs1.out.drewN n).on) ⟨(v, m), hkey⟩ pt nw hgood).mono fun _ _ r => ⟨r.1, n, r.2.symm⟩
      have hl2 : ∀ n : Nat, Calls Try.prog 23 #[.pointer (some ⟨q, 0, none⟩), .int .i64 v, .string m, .int .i64 pt, .int .i64 nw] ((w.alloc (.cells #[.int .i64 0, .int .i64 v, .string m, .int .i64 pt, .int .i64 nw] 30)).drewN n) fun e w'' => e = .returned (.bool false) ∧ ∃ m1, w'' = (w.alloc (.cells #[.int .i64 0, .int .i64 v, .string m, .int .i64 pt, .int .i64 nw] 30)).drewN m1 :=
        fun n => (rlearn_bad _ q v m pt nw hgood).mono fun _ _ r => ⟨r.1, n, r.2.symm⟩
      clear hgood
      go_enter Try.func13, Try.ntmps13
      go_wp2_with fail
      go_quiet (first | exact hl1 _ | exact hl2 _)
      go_wp2
      go_ret
      exact ⟨retb (by simp), _, _, hs1.out.drewN _, fun B hB1 hB2 => below_drewN (HLOW0.out B hB1 hB2) _⟩
  · by_cases hk1 : kd = 1
    · subst hk1
      go_enter Try.func13, Try.ntmps13
      go_wp2_with fail
      refine (lookO hs1.out.on ⟨(v, m), hkey⟩ nw).mono ?_
      rintro e w5 ⟨rfl, k5⟩
      have z5 := Nat.lt_of_lt_of_le hsz k5.size
      have B5 := Keep.blk k5 HBOX.out (by simp)
      have u1 : w5.cell? ⟨w.heap.size, 1, none⟩ = some (.int .i64 v) := B5.cell 1
      have u2 : w5.cell? ⟨w.heap.size, 2, none⟩ = some (.string m) := B5.cell 2
      have u4 : w5.cell? ⟨w.heap.size, 4, none⟩ = some (.int .i64 nw) := B5.cell 4
      have S5 := Lib.hid (hs1.out.keep0 k5)
      have HK5 := Lib.hid k5
      clear k5 B5
      rw [← found_perm HS.out.on.apart HS.out.perm.symm]
      have hrl := rlook_ w5 q room age L S5.out.ref HS.out.sorted.apart (by omega) HS.out.times HS.out.ages ⟨(v, m), hkey⟩ nw
      unfold RLook at hrl
      generalize found age L ⟨(v, m), hkey⟩ nw = fo at *
      cases fo
      all_goals
        simp only [tell] at *
        go_wp2_with fail
        refine hrl.mono ?_
        rintro e w6 ⟨rfl, n6, rfl⟩
        clear hrl
        go_wp2
        go_ret
        refine ⟨rfl, _, _, S5.out.drewN _, fun B hB1 hB2 => ?_⟩
        exact below_drewN ((HLOW0.out B hB1 hB2).trans (keep_low HK5.out (by simp) (by simp; omega))) n6
    · by_cases hk2 : kd = 2
      · subst hk2
        go_enter Try.func13, Try.ntmps13
        go_wp2_with fail
        go_region_held3 (fun w' => w'.cell? ⟨w.heap.size, 4, none⟩ = some (.int .i64 nw))
          (first
            | exact g6
            | exact g5
            | (exact v4))
          (first
            | (go_at_call 15; refine (expireO (hs1.out.drew.on) nw).mono ?_; rintro e w5 ⟨rfl, k5, on5⟩; have k5z : w.heap.size < w5.heap.size := Nat.lt_of_lt_of_le hsz k5.size; have B5 := Keep.blk k5 (HBOX.out.drew) (by simp; omega); have g5 : w5.cell? ⟨w.heap.size, 4, none⟩ = some (.int .i64 nw) := B5.cell 4; have HB5 := Lib.hid B5; have HON5 := Lib.hid on5; have HR5 := Lib.hid (hs1.out.drew.ref.keep k5 (by simp; omega)); have HK5 := Lib.hid k5; clear k5 on5 B5)
            | (go_at_call 25; refine (rexpire_ _ q room age L HR5.out (by omega) HS.out.times HS.out.ages nw).mono ?_; rintro e w6 ⟨rfl, k6, r6⟩; have B6 := Keep.blk k6 HB5.out (by simp; omega); have g6 : w6.cell? ⟨w.heap.size, 4, none⟩ = some (.int .i64 nw) := B6.cell 4; have HK6 := Lib.hid k6; have HR6 := Lib.hid r6; clear k6 r6 B6))
        all_goals
          have E1 := HS.out.perm.length_eq
          have E2 := (gone_perm (p := old age nw) HS.out.perm).length_eq
          rw [E1, E2]
          clear E1 E2
          go_wp2
          go_ret
          refine ⟨retb (by simp), _, _, ⟨HON5.out.keep HK6.out (by simp; omega) (by simp; omega), HR6.out, gone_sorted HS.out.sorted, gone_perm HS.out.perm, hgr, hbr⟩, fun B hB1 hB2 => ?_⟩
          exact ((HLOW.out B hB1 hB2).trans (keep_low HK5.out (by simp; omega) (by simp; omega))).trans (keep_low HK6.out (by simp; omega) (by omega))
      · by_cases hk3 : kd = 3
        · subst hk3
          go_enter Try.func13, Try.ntmps13
          go_wp2_with fail
          go_region_held3 (fun w' => w'.cell? ⟨w.heap.size, 3, none⟩ = some (.int .i64 pt))
            (first
              | exact g6
              | exact g5
              | (exact v3))
            (first
              | (go_at_call 16; refine (flushO (hs1.out.drew.on) pt).mono ?_; rintro e w5 ⟨rfl, k5, on5⟩; have k5z : w.heap.size < w5.heap.size := Nat.lt_of_lt_of_le hsz k5.size; have B5 := Keep.blk k5 (HBOX.out.drew) (by simp; omega); have g5 : w5.cell? ⟨w.heap.size, 3, none⟩ = some (.int .i64 pt) := B5.cell 3; have HB5 := Lib.hid B5; have HON5 := Lib.hid on5; have HR5 := Lib.hid (hs1.out.drew.ref.keep k5 (by simp; omega)); have HK5 := Lib.hid k5; clear k5 on5 B5)
              | (go_at_call 26; refine (rflush_ _ q room age L HR5.out (by omega) pt).mono ?_; rintro e w6 ⟨rfl, k6, r6⟩; have B6 := Keep.blk k6 HB5.out (by simp; omega); have g6 : w6.cell? ⟨w.heap.size, 3, none⟩ = some (.int .i64 pt) := B6.cell 3; have HK6 := Lib.hid k6; have HR6 := Lib.hid r6; clear k6 r6 B6))
          all_goals
            have E1 := HS.out.perm.length_eq
            have E2 := (gone_perm (p := onPort pt) HS.out.perm).length_eq
            rw [E1, E2]
            clear E1 E2
            go_wp2
            go_ret
            refine ⟨retb (by simp), _, _, ⟨HON5.out.keep HK6.out (by simp; omega) (by simp; omega), HR6.out, gone_sorted HS.out.sorted, gone_perm HS.out.perm, hgr, hbr⟩, fun B hB1 hB2 => ?_⟩
            exact ((HLOW.out B hB1 hB2).trans (keep_low HK5.out (by simp; omega) (by simp; omega))).trans (keep_low HK6.out (by simp; omega) (by omega))
        · have q0 : (kd == 0) = false := by rw [beq_eq_false_iff_ne]; exact hk0
          have q1 : (kd == 1) = false := by rw [beq_eq_false_iff_ne]; exact hk1
          have q2 : (kd == 2) = false := by rw [beq_eq_false_iff_ne]; exact hk2
          have q3 : (kd == 3) = false := by rw [beq_eq_false_iff_ne]; exact hk3
          go_enter Try.func13, Try.ntmps13
          go_wp2_with fail
          refine (entriesO hs1.out.on).mono ?_
          rintro e w5 ⟨le, v5, hle, rfl, hown, b5⟩
          obtain rfl := entries_eq HS.out.sorted HS.out.perm hle
          have z5 := b5.size
          have S5 := Lib.hid (hs1.out.keep0 (Keep.of_below b5 []))
          have HB5 := Lib.hid b5
          have HOWN := Lib.hid hown
          obtain ⟨A5, c5, rfl, rd5⟩ := own_form hown
          obtain ⟨vr, hblk, hrown⟩ := S5.out.ref
          obtain ⟨Ar, cr, rfl, rdr⟩ := own_form hrown
          have c2 : w5.cell? ⟨q, 2, none⟩ = some (.slice Ar le.length cr) := hblk.cell 2
          have hal := alike_ w5 A5 Ar c5 cr le rd5 rdr (by omega)
          clear hle hown b5 hblk hrown rd5 rdr
          go_wp2_with fail
          refine hal.mono ?_
          rintro e w6 ⟨rfl, n6, rfl⟩
          clear hal
          go_wp2
          go_loopw [13] (fun i wr => ∃ (j : Nat) (l' : List En), j ≤ le.length ∧ i = .int .i64 j ∧ l'.length = le.length ∧ wr.ownsRow (w.alloc (.cells #[.int .i64 kd, .int .i64 v, .string m, .int .i64 pt, .int .i64 nw] 30)).heap.size 54 4 (.slice A5 le.length c5) le.length (l'.flatMap cE) ∧ Below (w.alloc (.cells #[.int .i64 kd, .int .i64 v, .string m, .int .i64 pt, .int .i64 nw] 30)).heap.size w5 wr) (fun i _ => le.length - (intOf i).toNat)
          case atStart => exact ⟨0, le, Nat.zero_le _, rfl, rfl, HOWN.out, below_drewN (Below.refl _ _) n6⟩
          case round =>
            obtain ⟨j, l', hj, rfl, hl', hown, hbel⟩ := hrel
            have HBEL := Lib.hid hbel
            have HL' := Lib.hid hl'
            by_cases hlt : j < le.length
            · have hlt' : (j : Int) < (le.length : Int) := by omega
              obtain ⟨y, hy⟩ : ∃ y, l'[j]? = some y := ⟨_, List.getElem?_eq_getElem (by omega)⟩
              obtain ⟨gg, cap, hv, hge, _, _, hrow⟩ := Row.of_own hown (by omega)
              cases hv
              have d2 : wr.cell? ⟨gg, j * 4 + 2, none⟩ = some (.int .i64 y.2.1) := hrow.at_ lenC hy (j := 2) (by omega) rfl
              have f2 := hrow.frozen (j * 4 + 2)
              have HO2 := Lib.hid (own_set hown (j * 4 + 2) (.int .i64 99))
              have HFL := Lib.hid (flat_set cE 4 lenC y ((y.1, 99, y.2.2) : En) 2 (by omega) (.int .i64 99) rfl l' j hy)
              clear hown hbel hl' hy hrow
              go_wp2
              exact ⟨⟨j + 1, l'.set j (y.1, 99, y.2.2), by omega, by go_num, by rw [List.length_set]; exact HL'.out, by have h2 := HO2.out; rw [HFL.out] at h2; exact h2, HBEL.out.setCell hge _⟩, by simp [intOf] <;> omega⟩
            · clear hown hbel hl'
              go_wp2
              go_ret
              exact ⟨rfl, _, _, hs1.out.keep0 (Keep.of_below (HB5.out.trans HBEL.out) []), fun B hB1 hB2 => (HLOW0.out B hB1 hB2).trans ((HB5.out.trans HBEL.out).mono (by simp; omega))⟩
end FdbR
end Go.Proofs.Ytnnpmbjicpndeaa
