/-
  One call on both wheels, the program's and the document's: they answer alike, and stay alike.
-/
import Derived.Test.YtifhjbboddfbcaaWhlLive
import Derived.Test.YtifhjbboddfbcaaWhlOpen
import Derived.Deep.RegionHeld3
namespace Go.Proofs.Ytifhjbboddfbcaa
set_option linter.unusedVariables false
set_option linter.unusedSimpArgs false
open Go.RowKit Go.Maps
namespace WhlL
open Whl WhlC WhlS WhlR
structure St (w : World) (g b r : Nat) (room tu : Int) (ts : List Tm) : Prop where
  on : On w g b room tu ts
  ref : RAt w r room ts
  gr : g < r
  br : b < r
section
variable {w w' : World} {g b r : Nat} {room tu : Int} {ts : List Tm}
theorem St.drew (h : St w g b r room tu ts) : St w.drew g b r room tu ts := ⟨h.on.keep ((Keep.refl [] w).drew) (by simp) (by simp), h.ref.keep ((Keep.refl [] w).drew) (by simp), h.gr, h.br⟩
theorem St.alloc (h : St w g b r room tu ts) (o : Obj) : St (w.alloc o) g b r room tu ts := ⟨h.on.keep ((Keep.refl [] w).alloc o) (by simp) (by simp), h.ref.alloc o, h.gr, h.br⟩
theorem St.keep0 (h : St w g b r room tu ts) (hk : Keep [] w w') : St w' g b r room tu ts := ⟨h.on.keep hk (by simp) (by simp), h.ref.keep hk (by simp), h.gr, h.br⟩
theorem On_low (h : On w g b room tu ts) (hb : Below r w w') (hg : g < r) (hbr : b < r) : On w' g b room tu ts := by
  obtain ⟨⟨h1, ⟨es, ⟨es0, clock, h2, F, hs, hD⟩, hp⟩, h3⟩, h4⟩ := h
  exact ⟨⟨h1.below hb hg, ⟨es, ⟨es0, clock, (hb.block b hbr).trans h2, F, hs, hD⟩, hp⟩, h3⟩, h4⟩
theorem rarmO (h : RAt w r room ts) (hg : WhlS.Good tu ts) (hn : ts.length ≤ 4000) (k : ByteArray) (t : Int) :
    Calls Try.prog 30 #[.pointer (some ⟨r, 0, none⟩), .string k, .int .i64 t] w fun e w' => e = .returned (.int .i64 (armS room tu ts k t).1) ∧ Below r w w' ∧ RAt w' r room (armS room tu ts k t).2.2 ∧ ∀ bx T cs, Blk w bx T cs → 78 ≠ T → bx ≠ r → Blk w' bx T cs := by
  unfold armS
  by_cases ht : t < 0
  · rw [if_pos ht]
    exact (rarm_neg w r k t ht).mono fun _ _ q => ⟨q.1, by rw [q.2]; exact Below.refl _ _, by rw [q.2]; exact h, fun bx T cs hB _ _ => by rw [q.2]; exact hB⟩
  · rw [if_neg ht]
    by_cases hf : ts.any (keyIs k) = false ∧ room ≤ ts.length
    · rw [if_pos hf]
      exact (rarm_full w r room ts h (by omega) k t (by omega) hf.1 hf.2).mono fun _ _ ⟨q1, n, q2⟩ => ⟨q1, by rw [q2]; exact below_drewN (Below.refl _ _) n, by rw [q2]; exact h, fun bx T cs hB _ _ => by rw [q2]; exact hB⟩
    · rw [if_neg hf]
      refine rarm_ok w r room ts h hg.keys hn k t _ (by omega) ?_
      cases ha : ts.any (keyIs k)
      · right
        rw [ha] at hf
        simp at hf
        omega
      · left; rfl
theorem armS_len (room tu : Int) (ts : List Tm) (k : ByteArray) (t : Int) : (armS room tu ts k t).2.2.length ≤ ts.length + 1 ∧ tu ≤ (armS room tu ts k t).2.1 ∧ (armS room tu ts k t).2.1 ≤ tu + 1 := by
  unfold armS
  have hf := List.length_filter_le (fun x => !keyIs k x) ts
  split
  · exact ⟨Nat.le_succ _, Int.le_refl _, by simp only; omega⟩
  · split
    · exact ⟨Nat.le_succ _, Int.le_refl _, by simp only; omega⟩
    · refine ⟨?_, by simp only; omega, Int.le_refl _⟩
      simp only [List.length_append, List.length_singleton]
      exact Nat.succ_le_succ hf
end
/-- what a call leaves behind: the wheels alike, and what lies below them as it was -/
def Then (w w' : World) (g b r : Nat) (room tu : Int) (ts : List Tm) : Prop :=
  ∃ tu' ts', St w' g b r room tu' ts' ∧ ts'.length ≤ ts.length + 1 ∧ tu ≤ tu' ∧ tu' ≤ tu + 1 ∧ (∀ B, B ≤ g → B ≤ b → Below B w w')
theorem keep_low {ys : List Nat} {w w' : World} (hk : Keep ys w w') {B : Nat} (h1 : ∀ y ∈ ys, B ≤ y) (h2 : B ≤ w.heap.size) : Below B w w' := hk.below h2 h1
set_option maxHeartbeats 8000000 in
set_option maxRecDepth 100000 in
theorem step_ (w : World) (g b r : Nat) (room tu : Int) (ts : List Tm) (h : St w g b r room tu ts) (hn : ts.length ≤ 1000) (h0 : 0 ≤ tu) (h1 : tu ≤ 1000000) (x : OpW) (hx : OkOp x) :
    Calls Try.prog 18 #[.pointer (some ⟨g, 0, none⟩), .pointer (some ⟨r, 0, none⟩), .agg #[.int .i64 x.kind, .string x.key, .int .i64 x.at_]] w fun e w' => e = .returned (.bool true) ∧ Then w w' g b r room tu ts := by
  obtain ⟨kd, key, tm⟩ := x
  have hkey : key.size ≤ maxLen := hx.key
  have hlt := h.ref.lt
  have hgr := h.gr
  have hbr := h.br
  have HS := Lib.hid h
  have hbox : Blk (w.alloc (.cells #[.int .i64 kd, .string key, .int .i64 tm] 48)) w.heap.size 48 #[.int .i64 kd, .string key, .int .i64 tm] := Blk.new w _ _
  have v1 : (w.alloc (.cells #[.int .i64 kd, .string key, .int .i64 tm] 48)).cell? ⟨w.heap.size, 1, none⟩ = some (.string key) := hbox.cell 1
  have v2 : (w.alloc (.cells #[.int .i64 kd, .string key, .int .i64 tm] 48)).cell? ⟨w.heap.size, 2, none⟩ = some (.int .i64 tm) := hbox.cell 2
  have hlow : ∀ B, B ≤ g → B ≤ b → Below B w (w.alloc (.cells #[.int .i64 kd, .string key, .int .i64 tm] 48)).drew := fun B hB1 hB2 => ((Below.refl B w).alloc (by omega) _).drew
  have hlow0 : ∀ B, B ≤ g → B ≤ b → Below B w (w.alloc (.cells #[.int .i64 kd, .string key, .int .i64 tm] 48)) := fun B hB1 hB2 => ((Below.refl B w).alloc (by omega) _)
  have HLOW := Lib.hid hlow
  have HLOW0 := Lib.hid hlow0
  have hs1 := Lib.hid (h.alloc (.cells #[.int .i64 kd, .string key, .int .i64 tm] 48))
  have HBOX := Lib.hid hbox
  have hsz : w.heap.size < (w.alloc (.cells #[.int .i64 kd, .string key, .int .i64 tm] 48)).heap.size := by simp
  clear hlow hlow0 hbox hx h
  by_cases hk0 : kd = 0
  · subst hk0
    go_enter Try.func18, Try.ntmps18
    go_wp2_with fail
    go_region_held3 (fun w' => w'.cell? ⟨w.heap.size, 1, none⟩ = some (.string key) ∧ w'.cell? ⟨w.heap.size, 2, none⟩ = some (.int .i64 tm))
      (first
        | exact g6
        | exact g5
        | (exact ⟨v1, v2⟩))
      (first
        | (go_at_call 22; refine (arm_ (hs1.out.drew.on) hkey tm (by omega) (by omega) (by omega)).mono ?_; rintro e w5 ⟨rfl, k5, on5⟩; have k5z : w.heap.size < w5.heap.size := Nat.lt_of_lt_of_le hsz k5.size; have B5 := Keep.blk k5 (HBOX.out.drew) (by simp; omega); have g5 : w5.cell? ⟨w.heap.size, 1, none⟩ = some (.string key) ∧ w5.cell? ⟨w.heap.size, 2, none⟩ = some (.int .i64 tm) := ⟨B5.cell 1, B5.cell 2⟩; have HB5 := Lib.hid B5; have HON5 := Lib.hid on5; have HR5 := Lib.hid (hs1.out.drew.ref.keep k5 (by simp; omega)); have HK5 := Lib.hid k5; clear k5 on5 B5)
        | (go_at_call 30; refine (rarmO (tu := tu) HR5.out HS.out.on.good (by omega) key tm).mono ?_; rintro e w6 ⟨rfl, b6, r6, blk6⟩; have B6 := blk6 _ _ _ HB5.out (by decide) (by omega); have g6 : w6.cell? ⟨w.heap.size, 1, none⟩ = some (.string key) ∧ w6.cell? ⟨w.heap.size, 2, none⟩ = some (.int .i64 tm) := ⟨B6.cell 1, B6.cell 2⟩; have HB6 := Lib.hid b6; have HR6 := Lib.hid r6; clear blk6 b6 r6 B6))
    all_goals
      go_wp2
      go_ret
      refine ⟨retb (by simp), _, _, ⟨On_low HON5.out HB6.out hgr hbr, HR6.out, hgr, hbr⟩, (armS_len room tu ts key tm).1, (armS_len room tu ts key tm).2.1, (armS_len room tu ts key tm).2.2, fun B hB1 hB2 => ?_⟩
      exact ((HLOW.out B hB1 hB2).trans (keep_low HK5.out (by simp; omega) (by simp; omega))).trans (HB6.out.mono (by omega))
  · by_cases hk1 : kd = 1
    · subst hk1
      go_enter Try.func18, Try.ntmps18
      go_wp2_with fail
      go_region_held3 (fun w' => w'.cell? ⟨w.heap.size, 1, none⟩ = some (.string key))
        (first
          | exact g6
          | exact g5
          | (exact v1))
        (first
          | (go_at_call 23; refine (cancelO (hs1.out.drew.on) hkey).mono ?_; rintro e w5 ⟨rfl, k5, on5⟩; have k5z : w.heap.size < w5.heap.size := Nat.lt_of_lt_of_le hsz k5.size; have B5 := Keep.blk k5 (HBOX.out.drew) (by simp; omega); have g5 : w5.cell? ⟨w.heap.size, 1, none⟩ = some (.string key) := B5.cell 1; have HB5 := Lib.hid B5; have HON5 := Lib.hid on5; have HR5 := Lib.hid (hs1.out.drew.ref.keep k5 (by simp; omega)); have HK5 := Lib.hid k5; clear k5 on5 B5)
          | (go_at_call 31; refine (rcancel_ _ r room ts HR5.out HS.out.on.good.keys (by omega) key).mono ?_; rintro e w6 ⟨rfl, k6, r6⟩; have B6 := Keep.blk k6 HB5.out (by simp; omega); have g6 : w6.cell? ⟨w.heap.size, 1, none⟩ = some (.string key) := B6.cell 1; have HK6 := Lib.hid k6; have HR6 := Lib.hid r6; clear k6 r6 B6))
      all_goals
        go_wp2
        go_ret
        refine ⟨retb (by simp), _, _, ⟨HON5.out.keep HK6.out (by simp; omega) (by simp; omega), HR6.out, hgr, hbr⟩, Nat.le_succ_of_le (List.length_filter_le _ _), Int.le_refl _, by omega, fun B hB1 hB2 => ?_⟩
        exact ((HLOW.out B hB1 hB2).trans (keep_low HK5.out (by simp; omega) (by simp; omega))).trans (keep_low HK6.out (by simp; omega) (by omega))
    · by_cases hk2 : kd = 2
      · subst hk2
        go_enter Try.func18, Try.ntmps18
        go_wp2_with fail
        refine (at_ _ _ _ _ _ _ hs1.out.on.at_ HS.out.on.good.keys _ hkey).mono ?_
        rintro e w5 ⟨rfl, b5⟩
        have z5 := b5.size
        have B5 := HBOX.out.below b5 hsz
        have u1 : w5.cell? ⟨w.heap.size, 1, none⟩ = some (.string key) := B5.cell 1
        have S5 := Lib.hid (hs1.out.keep0 (Keep.of_below b5 []))
        have HB5 := Lib.hid b5
        clear b5 B5
        go_wp2_with fail
        refine (rat_ _ r room ts S5.out.ref (by omega) key).mono ?_
        rintro e w6 ⟨rfl, rfl⟩
        go_wp2
        all_goals
          go_ret
          refine ⟨retb (by simp), tu, ts, S5.out, Nat.le_succ _, Int.le_refl _, by omega, fun B hB1 hB2 => ?_⟩
          exact (HLOW0.out B hB1 hB2).trans (HB5.out.mono (by simp; omega))
      · by_cases hk3 : kd = 3
        · subst hk3
          go_enter Try.func18, Try.ntmps18
          go_wp2_with fail
          refine (nextO hs1.out.on (by omega)).mono ?_
          rintro e w5 ⟨⟨m, is, hnv, rfl⟩, b5⟩
          have z5 := b5.size
          have S5 := Lib.hid (hs1.out.keep0 (Keep.of_below b5 []))
          have HB5 := Lib.hid b5
          clear b5
          go_wp2_with fail
          refine (rnext_ _ r room ts S5.out.ref (by omega)).mono ?_
          rintro e w6 ⟨hr6, n6, rfl⟩
          have S6 := Lib.hid (S5.out.keep0 ((Keep.refl [] w5).drewN n6))
          have hfin : e = .returned (.tuple #[.int .i64 m, .bool is]) := by
            rcases hr6 with ⟨q1, q2⟩ | ⟨m', q1, q2⟩
            · obtain ⟨e1, e2⟩ := next_one hnv (Or.inl ⟨q1, rfl, rfl⟩)
              rw [e1, e2]; exact q2
            · obtain ⟨e1, e2⟩ := next_one hnv (Or.inr ⟨q1, rfl⟩)
              rw [e1, e2]; exact q2
          subst hfin
          clear hnv hr6
          go_wp2
          all_goals
            go_ret
            refine ⟨retb (by simp), tu, ts, S6.out, Nat.le_succ _, Int.le_refl _, by omega, fun B hB1 hB2 => ?_⟩
            exact below_drewN ((HLOW0.out B hB1 hB2).trans (HB5.out.mono (by simp; omega))) n6
        · by_cases hk4 : kd = 4
          · subst hk4
            go_enter Try.func18, Try.ntmps18
            go_wp2_with fail
            refine (dueO hs1.out.on (by omega) tm).mono ?_
            rintro e w5 ⟨la, va, da, rfl, owna, k5, on5⟩
            have k5z : w.heap.size < w5.heap.size := Nat.lt_of_lt_of_le hsz k5.size
            have B5 := Keep.blk k5 HBOX.out (by simp; omega)
            have u2 : w5.cell? ⟨w.heap.size, 2, none⟩ = some (.int .i64 tm) := B5.cell 2
            have HR5 := Lib.hid (hs1.out.ref.keep k5 (by simp; omega))
            have HON5 := Lib.hid on5
            have HK5 := Lib.hid k5
            obtain ⟨Aa, ca, rfl, _⟩ := reads_own owna
            clear k5 on5 B5
            go_wp2_with fail
            refine (rdue_ _ r room ts HR5.out HS.out.on.good.keys HS.out.on.good.rise (by omega) tm).mono ?_
            rintro e w6 ⟨lb, vb, db, rfl, ownb, k6, r6⟩
            have k6z := k6.size
            have el := due_one HS.out.on.good db da
            subst el
            have owna6 := own_keep owna k6 (by simp; omega)
            obtain ⟨Aa', ca', hva, ra⟩ := reads_own owna6
            cases hva
            obtain ⟨Ab, cb, rfl, rb⟩ := reads_own ownb
            have hlb : lb.length ≤ 1000 := by have := da.1.length_eq; have := List.length_filter_le (isDue tm) ts; omega
            have HON6 := Lib.hid (HON5.out.keep k6 (by simp; omega) (by simp; omega))
            have HR6 := Lib.hid r6
            have HK6 := Lib.hid k6
            have hsame := same_ _ _ _ ca cb lb.length _ ra rb (by omega)
            clear owna owna6 ownb k6 r6 da db ra rb
            go_wp2_with fail
            refine hsame.mono ?_
            rintro e w7 ⟨rfl, m7, rfl⟩
            clear hsame
            go_wp2
            go_ret
            refine ⟨rfl, tu, _, ⟨HON6.out.keep ((Keep.refl [] _).drewN m7) (by simp) (by simp), HR6.out, hgr, hbr⟩, Nat.le_succ_of_le (List.length_filter_le _ _), Int.le_refl _, by omega, fun B hB1 hB2 => ?_⟩
            exact below_drewN (((HLOW0.out B hB1 hB2).trans (keep_low HK5.out (by simp; omega) (by simp; omega))).trans (keep_low HK6.out (by simp; omega) (by omega))) m7
          · have q0 : (kd == 0) = false := by rw [beq_eq_false_iff_ne]; exact hk0
            have q1 : (kd == 1) = false := by rw [beq_eq_false_iff_ne]; exact hk1
            have q2 : (kd == 2) = false := by rw [beq_eq_false_iff_ne]; exact hk2
            have q3 : (kd == 3) = false := by rw [beq_eq_false_iff_ne]; exact hk3
            have q4 : (kd == 4) = false := by rw [beq_eq_false_iff_ne]; exact hk4
            obtain ⟨vr, hblk, hown⟩ := hs1.out.ref
            obtain ⟨Ar, cr, rfl, _⟩ := own_form hown
            have c1 : (w.alloc (.cells #[.int .i64 kd, .string key, .int .i64 tm] 48)).cell? ⟨r, 1, none⟩ = some (.slice Ar ts.length cr) := hblk.cell 1
            clear hblk hown
            have hlen : ∀ n : Nat, Calls Try.prog 19 #[.pointer (some ⟨g, 0, none⟩)] ((w.alloc (.cells #[.int .i64 kd, .string key, .int .i64 tm] 48)).drewN n) fun e w'' => e = .returned (.int .i64 ts.length) ∧ ∃ m, w'' = (w.alloc (.cells #[.int .i64 kd, .string key, .int .i64 tm] 48)).drewN m :=
              fun n => (len_ _ g b room tu ts ((hs1.out.keep0 ((Keep.refl [] _).drewN n)).on.at_)).mono fun _ _ q => ⟨q.1, n, q.2.symm⟩
            go_enter Try.func18, Try.ntmps18
            go_wp2
            go_quiet (exact hlen _)
            go_wp2
            go_ret
            refine ⟨retb (by simp), tu, ts, hs1.out.keep0 ((Keep.refl [] _).drewN _), Nat.le_succ _, Int.le_refl _, by omega, fun B hB1 hB2 => below_drewN (HLOW0.out B hB1 hB2) _⟩
end WhlL
end Go.Proofs.Ytifhjbboddfbcaa
