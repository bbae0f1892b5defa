/-
  The walk of told of querier.Asks.
-/
import Derived.Test.YtdpppljobikjhaaDoorAskOps
namespace Go.Proofs.YtdpppljobikjhaaDoor
set_option linter.unusedVariables false
set_option linter.unusedSimpArgs false
open Go.RowKit Go.Maps
namespace Ask
open Whl Mp
/-- what is known of a question that was told: where its sources lie, and what waits behind it -/
def Told (w w' : World) (g gw bw bm : Nat) (count gap turn tu : Int) (ts ws : List Pw) (x : Pw) (m : Int) (s : Nat) : Prop :=
  w.heap.size ≤ s ∧ Blk w' s 22 (x.q.ss.map Value.string).toArray ∧ Keep [gw, bw, bm] w w' ∧
  (1 < x.left ∧ At w' g gw bw bm count gap turn (tu + 1) (ts ++ [{x with at_ := m + gap, turn := tu + 1, left := x.left - 1}]) ((ws.filter fun y => !Mp.keyIs E x.key y) ++ [{x with at_ := m + gap, turn := tu + 1, left := x.left - 1}]) ∨
   ¬ 1 < x.left ∧ At w' g gw bw bm count gap turn tu ts (ws.filter fun y => !Mp.keyIs E x.key y))
theorem At.told {w w' : World} {g gw bw bm : Nat} {count gap turn tu tu' : Int} {ts ws ts' ws' : List Pw} (h : At w g gw bw bm count gap turn tu ts ws) (hk : Keep [gw, bw, bm] w w') (hmap : Has E Tryd.prog 3 w' bm ws') (hon : WhlI.On w' gw bw 200 tu' (ts'.map tim))
    (hsub : ∀ x ∈ ts', x ∈ ws') (happ : Apart E ws') (hmem : ∀ y ∈ ws', ∃ z ∈ ws, y.key = z.key ∧ y.sl = z.sl ∧ y.q = z.q) : At w' g gw bw bm count gap turn tu' ts' ws' := by
  have h1 := h.bk.lw
  have h2 := h.bk.lb
  have h3 := h.bk.lm
  refine ⟨⟨Keep.blk hk h.bk.blk (by simp; omega), hmap, fun y hy => ?_, happ, fun y hy => ?_, h.bk.lw, h.bk.lb, h.bk.lm, h.bk.n1, h.bk.n2⟩, hon, hsub⟩
  · obtain ⟨z, hz, _, e2, e3⟩ := hmem y hy
    obtain ⟨s, q1, q2, q3⟩ := (h.bk.src z hz).keep hk (by simp; omega)
    exact ⟨s, by rw [e2, e3]; exact q1, q2, by rw [e3]; exact q3⟩
  · obtain ⟨z, hz, e1, _, _⟩ := hmem y hy
    rw [e1]
    exact h.bk.top z hz
theorem mem_no {ws : List Pw} {k : Int} {y : Pw} (h : y ∈ ws.filter fun y => !Mp.keyIs E k y) : y ∈ ws ∧ y.key ≠ k := by
  obtain ⟨h1, h2⟩ := List.mem_filter.1 h
  refine ⟨h1, fun e => ?_⟩
  have : Mp.keyIs E k y = true := decide_eq_true e
  rw [this] at h2
  cases h2
theorem keep_mem {ws : List Pw} {k : Int} {y : Pw} (h : y ∈ ws) (hk : y.key ≠ k) : y ∈ ws.filter fun y => !Mp.keyIs E k y := by
  refine List.mem_filter.2 ⟨h, ?_⟩
  have : Mp.keyIs E k y = false := decide_eq_false hk
  rw [this]
  rfl
theorem apart_put {ws : List Pw} (h : Apart E ws) (x : Pw) : Apart E ((ws.filter fun y => !Mp.keyIs E x.key y) ++ [x]) := by
  unfold Apart
  rw [List.pairwise_append]
  refine ⟨h.filter _, List.pairwise_singleton _ _, fun a ha b hb => ?_⟩
  simp at hb
  subst hb
  exact (mem_no ha).2
theorem strike_put {ws : List Pw} {k : Int} {x : Pw} (hx : x.key = k) : (((ws.filter fun y => !Mp.keyIs E k y) ++ [x]).filter fun y => !Mp.keyIs E k y) = ws.filter fun y => !Mp.keyIs E k y := by
  have e : Mp.keyIs E k x = true := decide_eq_true hx
  rw [List.filter_append, List.filter_filter, List.filter_cons, e]
  simp
set_option maxHeartbeats 4000000 in
set_option maxRecDepth 20000 in
theorem told_ (w : World) (g gw bw bm : Nat) (count gap turn tu : Int) (ts ws : List Pw) (h : At w g gw bw bm count gap turn tu ts ws) (x : Pw) (hx : x ∈ ws) (hno : ∀ y ∈ ts, y.key ≠ x.key) (m : Int)
    (hm0 : 0 ≤ m) (hm1 : m ≤ 100000000) (hg0 : 0 ≤ gap) (hg1 : gap ≤ 1000) (ht1 : turn ≤ 1000000) (hu0 : 0 ≤ tu) (hu1 : tu < 1000000) (hl : ws.length ≤ 4000) (hts : ts.length < 200) (hx0 : 1 ≤ x.left) (hx1 : x.left ≤ 7) (hss : x.q.ss.length ≤ 1000) :
    Calls Tryd.prog 29 #[.pointer (some ⟨g, 0, none⟩), .int .i64 x.key, .int .i64 m] w fun e w' => ∃ s, e = .returned (.agg #[.int .i64 x.q.v, .string x.q.g, .slice (some ⟨s, 0, none⟩) x.q.ss.length x.q.ss.length]) ∧ Told w w' g gw bw bm count gap turn tu ts ws x m s := by
  obtain ⟨sx, hsl, hgs, hsb⟩ := h.bk.src x hx
  obtain ⟨hk0, hk1⟩ := h.bk.top x hx
  have hwf := Lib.hid (wf_of (k := x.key) hk0 (by omega))
  have hkey := Lib.hid (WhlI.keyOf hwf.out)
  have hb := h.bk.blk
  have hgl := hb.lt
  obtain ⟨hwl, hbl⟩ := h.on.lt
  have hml := h.bk.map.lt
  have lw := h.bk.lw
  have lb := h.bk.lb
  have lm := h.bk.lm
  have n1 := h.bk.n1
  have n2 := h.bk.n2
  have hsx := hsb.lt
  have c4 : w.cell? ⟨g, 4, none⟩ = some (.map (some bm)) := hb.cell 4
  have hlook : ∀ o, (Instr.lookup 73 (.map (some bm)) (.int .i64 x.key) false).run Tryd.prog (w.alloc o) = .ok (.agg #[.int .i64 x.q.v, .string x.q.g, .slice (some ⟨sx, 0, none⟩) x.q.ss.length x.q.ss.length, .int .i64 x.left]) (w.alloc o) := fun o => by
    rw [(h.bk.map.alloc o).look sameE WhlI.law Tryd.underlying73 (zeroW _) h.bk.apart hkey.out, look_has (k := x.key) hx h.bk.apart (show E.key x = x.key from rfl)]
    show Result.ok (valW x) _ = _
    unfold valW
    rw [hsl]
    rfl
  have hwr : IntKind.i64.wrap (x.left - 1) = x.left - 1 := IntWalk.i64_in _ (by omega)
  have hwr2 : IntKind.i64.wrap (m + gap) = m + gap := IntWalk.i64_in _ (by omega)
  have HA := Lib.hid h
  have HNO := Lib.hid hno
  have HX := Lib.hid hx
  have HSL := Lib.hid hsl
  have HSB := Lib.hid hsb
  clear h hb hx hsl hsb hno
  have hW := Lib.hid (((Keep.refl [] w).alloc (.cells #[.int .i64 0, .string { data := #[] }, .slice none 0 0] 52)).alloc (.cells #[.int .i64 x.q.v, .string x.q.g, .slice (some ⟨sx, 0, none⟩) x.q.ss.length x.q.ss.length, .int .i64 (x.left - 1)] 79))
  have b6 := (Blk.new w 52 #[.int .i64 0, .string { data := #[] }, .slice none 0 0]).alloc (.cells #[.int .i64 x.q.v, .string x.q.g, .slice (some ⟨sx, 0, none⟩) x.q.ss.length x.q.ss.length, .int .i64 (x.left - 1)] 79)
  have b7 := Blk.new (w.alloc (.cells #[.int .i64 0, .string { data := #[] }, .slice none 0 0] 52)) 79 #[.int .i64 x.q.v, .string x.q.g, .slice (some ⟨sx, 0, none⟩) x.q.ss.length x.q.ss.length, .int .i64 (x.left - 1)]
  rw [show (w.alloc (.cells #[.int .i64 0, .string { data := #[] }, .slice none 0 0] 52)).heap.size = w.heap.size + 1 by simp] at b7
  have HB6 := Lib.hid b6
  have HB7 := Lib.hid b7
  clear b6 b7
  go_enter Tryd.func29, Tryd.ntmps29
  go_wp2
  generalize (w.alloc (.cells #[.int .i64 0, .string { data := #[] }, .slice none 0 0] 52)).alloc (.cells #[.int .i64 x.q.v, .string x.q.g, .slice (some ⟨sx, 0, none⟩) x.q.ss.length x.q.ss.length, .int .i64 (x.left - 1)] 79) = W at *
  have HAT := Lib.hid (HA.out.keep hW.out (by simp))
  have e4 : W.cell? ⟨g, 4, none⟩ = some (.map (some bm)) := HAT.out.bk.blk.cell 4
  have p0 : W.cell? ⟨w.heap.size + 1, 0, none⟩ = some (.int .i64 x.q.v) := HB7.out.cell 0
  have p1 : W.cell? ⟨w.heap.size + 1, 1, none⟩ = some (.string x.q.g) := HB7.out.cell 1
  have p2 : W.cell? ⟨w.heap.size + 1, 2, none⟩ = some (.slice (some ⟨sx, 0, none⟩) x.q.ss.length x.q.ss.length) := HB7.out.cell 2
  have p3 : W.cell? ⟨w.heap.size + 1, 3, none⟩ = some (.int .i64 (x.left - 1)) := HB7.out.cell 3
  clear hlook c4
  refine region_tail 6 (by kernel_rfl) (by kernel_rfl) ?_
  simp only [List.take_succ_cons, List.take_zero, List.drop_succ_cons, List.drop_zero]
  refine SW.un ?_
  (refine SW.want (by kernel_rfl) (fun K hK => ?_); have HK := Lib.hid hK; clear hK; go_simp; refine SW.on HK ?_; clear HK K)
  (refine SW.want (by kernel_rfl) (fun K hK => ?_); have HK := Lib.hid hK; clear hK; go_simp; refine SW.on HK ?_; clear HK K)
  (refine SW.want (by kernel_rfl) (fun K hK => ?_); have HK := Lib.hid hK; clear hK; go_simp; refine SW.on HK ?_; clear HK K)
  (refine SW.want (by kernel_rfl) (fun K hK => ?_); have HK := Lib.hid hK; clear hK; go_simp; refine SW.on HK ?_; clear HK K)
  (refine SW.want (by kernel_rfl) (fun K hK => ?_); have HK := Lib.hid hK; clear hK; go_simp; refine SW.on HK ?_; clear HK K)
  (refine SW.want (by kernel_rfl) (fun K hK => ?_); have HK := Lib.hid hK; clear hK; go_simp; refine SW.on HK ?_; clear HK K)
  refine SW.nil ?_
  clear e4 p0 p1 p2 p3
  by_cases hone : 1 < x.left
  · have hone' : 0 < x.left - 1 := by omega
    go_wp2_with (first
      | (at_mapUpdate; refine wpList_put _ rfl _ _ _ _ rfl 3 79 WhlI.law Tryd.underlying73 sameE bm ws rfl (HAT.out.bk.map.drewN 1) (by unfold maxLen; omega) _ ({x with at_ := m + gap, turn := tu + 1, left := x.left - 1} : Pw) rfl (by show _ = valW _; unfold valW; rw [HSL.out]; rfl) hkey.out ?_; intro w2 hm2 hg2; have HK2 := Lib.hid (((Keep.refl [bm] W).drewN 1).trans (Keep.of_grown hg2 (by simp))); have HM2 := Lib.hid hm2; have HB72 := Lib.hid (Keep.blk HK2.out HB7.out (by simp; omega)); have p3 : w2.cell? ⟨w.heap.size + 1, 3, none⟩ = some (.int .i64 (x.left - 1)) := HB72.out.cell 3; clear hm2 hg2)
      | go_in)
    have hblk2 := Keep.blk HK2.out HAT.out.bk.blk (by simp; omega)
    have e3 : w2.cell? ⟨g, 3, none⟩ = some (.pointer (some ⟨gw, 0, none⟩)) := hblk2.cell 3
    have e1 : w2.cell? ⟨g, 1, none⟩ = some (.int .i64 gap) := hblk2.cell 1
    have hon2 := HAT.out.on.keep HK2.out (by simp; omega) (by simp; omega)
    have hany : (ts.map tim).any (Whl.keyIs x.key) = false := by
      rw [List.any_eq_false]
      intro y hy
      obtain ⟨z, hz, rfl⟩ := List.mem_map.1 hy
      intro hk
      exact HNO.out z hz (of_decide_eq_true hk)
    have harm := WhlI.arm_ (hon2.keep ((Keep.refl [] w2).drewN 1) (by simp) (by simp)) hwf.out (m + gap) (by simp; omega) hu0 (by omega)
    rw [arm_room (by omega) hany (by simpa using hts)] at harm
    clear p3 hblk2 hon2 hany
    refine region_tail 11 (by kernel_rfl) (by kernel_rfl) ?_
    simp only [List.take_succ_cons, List.take_zero, List.drop_succ_cons, List.drop_zero]
    refine SW.un ?_
    (refine SW.want (by kernel_rfl) (fun K hK => ?_); have HK := Lib.hid hK; clear hK; go_simp; refine SW.on HK ?_; clear HK K)
    (refine SW.want (by kernel_rfl) (fun K hK => ?_); have HK := Lib.hid hK; clear hK; go_simp; refine SW.on HK ?_; clear HK K)
    (refine SW.want (by kernel_rfl) (fun K hK => ?_); have HK := Lib.hid hK; clear hK; go_simp; refine SW.on HK ?_; clear HK K)
    (refine SW.want (by kernel_rfl) (fun K hK => ?_); have HK := Lib.hid hK; clear hK; go_simp; refine SW.on HK ?_; clear HK K)
    (refine SW.want (by kernel_rfl) (fun K hK => ?_); have HK := Lib.hid hK; clear hK; go_simp; refine SW.on HK ?_; clear HK K)
    (refine SW.want (by kernel_rfl) (fun K hK => ?_); have HK := Lib.hid hK; clear hK; go_simp; refine SW.on HK ?_; clear HK K)
    (refine SW.want (by kernel_rfl) (fun K hK => ?_); have HK := Lib.hid hK; clear hK; go_simp; refine SW.on HK ?_; clear HK K)
    (refine SW.want (by kernel_rfl) (fun K hK => ?_); have HK := Lib.hid hK; clear hK; go_simp; refine SW.on HK ?_; clear HK K)
    (refine SW.want (by kernel_rfl) (fun K hK => ?_); have HK := Lib.hid hK; clear hK; go_simp; refine SW.on HK ?_; clear HK K)
    (refine SW.want (by kernel_rfl) (fun K hK => ?_); have HK := Lib.hid hK; clear hK; go_simp; refine SW.on HK ?_; clear HK K)
    (refine SW.want (by kernel_rfl) (fun K hK => ?_); have HK := Lib.hid hK; clear hK; go_simp; refine SW.on HK ?_; clear HK K)
    refine SW.nil ?_
    clear e3 e1
    go_wp2_with (first
      | (go_at_call 24; refine harm.mono ?_; rintro e w3 ⟨rfl, k3, on3⟩; have HK3 := Lib.hid ((((hW.out.mono (ys := [gw, bw, bm]) (by simp)).trans (HK2.out.mono (by simp))).drewN 1).trans (k3.mono (by simp))); have HM3 := Lib.hid (HM2.out.block (w' := w3) (k3.block bm (HM2.out.drewN 1).lt (by simp; omega))); have HO3 := Lib.hid on3; have HB73 := Lib.hid (Keep.blk k3 (HB72.out.drewN 1) (by simp; omega)); have HB63 := Lib.hid (Keep.blk k3 ((Keep.blk HK2.out HB6.out (by simp; omega)).drewN 1) (by simp; omega)); have HSB3 := Lib.hid (Keep.blk HK3.out HSB.out (by simp; omega)); have z3 : w.heap.size + 1 < w3.heap.size := HB73.out.lt; have HQ4 := Lib.hid (Blk.new w3 52 #[.int .i64 x.q.v, .string x.q.g, .slice (some ⟨sx, 0, none⟩) x.q.ss.length x.q.ss.length]); have HB64 := Lib.hid (HB63.out.alloc (.cells #[.int .i64 x.q.v, .string x.q.g, .slice (some ⟨sx, 0, none⟩) x.q.ss.length x.q.ss.length] 52)); have HRD : Hid (Reads (w3.alloc (.cells #[.int .i64 x.q.v, .string x.q.g, .slice (some ⟨sx, 0, none⟩) x.q.ss.length x.q.ss.length] 52)) (w3.alloc (.cells #[.int .i64 x.q.v, .string x.q.g, .slice (some ⟨sx, 0, none⟩) x.q.ss.length x.q.ss.length] 52)).heap.size 1 (some ⟨sx, 0, none⟩) x.q.ss.length (x.q.ss.map Value.string)) := Lib.hid (by have h5 := blk_reads (HSB3.out.alloc (.cells #[.int .i64 x.q.v, .string x.q.g, .slice (some ⟨sx, 0, none⟩) x.q.ss.length x.q.ss.length] 52)) (B := (w3.alloc (.cells #[.int .i64 x.q.v, .string x.q.g, .slice (some ⟨sx, 0, none⟩) x.q.ss.length x.q.ss.length] 52)).heap.size) (by simp; omega); rw [List.length_map] at h5; exact h5); have p0 : w3.cell? ⟨w.heap.size + 1, 0, none⟩ = some (.int .i64 x.q.v) := HB73.out.cell 0; have p1 : w3.cell? ⟨w.heap.size + 1, 1, none⟩ = some (.string x.q.g) := HB73.out.cell 1; have p2 : w3.cell? ⟨w.heap.size + 1, 2, none⟩ = some (.slice (some ⟨sx, 0, none⟩) x.q.ss.length x.q.ss.length) := HB73.out.cell 2)
      | (go_at_call 25; refine (own_ _ (some ⟨sx, 0, none⟩) _ _ x.q.ss HRD.out hss).mono ?_; rintro e w5 ⟨rfl, hs5, b5⟩; have z5 := b5.size; have HS5 := Lib.hid hs5; have HE5 := Lib.hid b5; have HQ5 := Lib.hid (HQ4.out.below b5 (by simp)); have HB65 := Lib.hid (HB64.out.below b5 (by simp; omega)); have r2 : w5.cell? ⟨w3.heap.size, 2, none⟩ = _ := HQ5.out.cell 2; have fr2 := HQ5.out.frozen 2; have r0 : w5.cell? ⟨w3.heap.size, 0, none⟩ = _ := HQ5.out.cell 0; have r1 : w5.cell? ⟨w3.heap.size, 1, none⟩ = _ := HQ5.out.cell 1; have s0 : w5.cell? ⟨w.heap.size, 0, none⟩ = _ := HB65.out.cell 0; have s1 : w5.cell? ⟨w.heap.size, 1, none⟩ = _ := HB65.out.cell 1; have s2 : w5.cell? ⟨w.heap.size, 2, none⟩ = _ := HB65.out.cell 2; have fs0 := HB65.out.frozen 0; have fs1 := HB65.out.frozen 1; have fs2 := HB65.out.frozen 2; clear hs5 b5)
      | go_in)
    have hb6 : Blk ((((w5.setCell ⟨w3.heap.size, 2, none⟩ (.slice (some ⟨w3.heap.size + 1, 0, none⟩) x.q.ss.length x.q.ss.length)).setCell ⟨w.heap.size, 0, none⟩ (.int .i64 x.q.v)).setCell ⟨w.heap.size, 1, none⟩ (.string x.q.g)).setCell ⟨w.heap.size, 2, none⟩ (.slice (some ⟨w3.heap.size + 1, 0, none⟩) x.q.ss.length x.q.ss.length)) w.heap.size 52 #[.int .i64 x.q.v, .string x.q.g, .slice (some ⟨w3.heap.size + 1, 0, none⟩) x.q.ss.length x.q.ss.length] := by
      have h6 := (((HB65.out.far (p := ⟨w3.heap.size, 2, none⟩) (show w.heap.size ≠ w3.heap.size by omega) (.slice (some ⟨w3.heap.size + 1, 0, none⟩) x.q.ss.length x.q.ss.length)).set_ 0 (.int .i64 x.q.v)).set_ 1 (.string x.q.g)).set_ 2 (.slice (some ⟨w3.heap.size + 1, 0, none⟩) x.q.ss.length x.q.ss.length)
      exact h6
    have hk6 : Keep [w.heap.size] w3 ((((w5.setCell ⟨w3.heap.size, 2, none⟩ (.slice (some ⟨w3.heap.size + 1, 0, none⟩) x.q.ss.length x.q.ss.length)).setCell ⟨w.heap.size, 0, none⟩ (.int .i64 x.q.v)).setCell ⟨w.heap.size, 1, none⟩ (.string x.q.g)).setCell ⟨w.heap.size, 2, none⟩ (.slice (some ⟨w3.heap.size + 1, 0, none⟩) x.q.ss.length x.q.ss.length)) := ((((((Keep.refl [w.heap.size] w3).alloc (.cells #[.int .i64 x.q.v, .string x.q.g, .slice (some ⟨sx, 0, none⟩) x.q.ss.length x.q.ss.length] 52)).trans (Keep.of_below HE5.out _)).set_ (p := ⟨w3.heap.size, 2, none⟩) (Or.inr (Nat.le_refl _)) _).set_ (p := ⟨w.heap.size, 0, none⟩) (Or.inl (by simp)) _).set_ (p := ⟨w.heap.size, 1, none⟩) (Or.inl (by simp)) _).set_ (p := ⟨w.heap.size, 2, none⟩) (Or.inl (by simp)) _
    have hs6 : Blk ((((w5.setCell ⟨w3.heap.size, 2, none⟩ (.slice (some ⟨w3.heap.size + 1, 0, none⟩) x.q.ss.length x.q.ss.length)).setCell ⟨w.heap.size, 0, none⟩ (.int .i64 x.q.v)).setCell ⟨w.heap.size, 1, none⟩ (.string x.q.g)).setCell ⟨w.heap.size, 2, none⟩ (.slice (some ⟨w3.heap.size + 1, 0, none⟩) x.q.ss.length x.q.ss.length)) (w3.heap.size + 1) 22 (x.q.ss.map Value.string).toArray := by
      have h7 := HS5.out
      rw [show (w3.alloc (.cells #[.int .i64 x.q.v, .string x.q.g, .slice (some ⟨sx, 0, none⟩) x.q.ss.length x.q.ss.length] 52)).heap.size = w3.heap.size + 1 by simp] at h7
      exact (((h7.far (p := ⟨w3.heap.size, 2, none⟩) (show w3.heap.size + 1 ≠ w3.heap.size by omega) _).far (p := ⟨w.heap.size, 0, none⟩) (show w3.heap.size + 1 ≠ w.heap.size by omega) _).far (p := ⟨w.heap.size, 1, none⟩) (show w3.heap.size + 1 ≠ w.heap.size by omega) _).far (p := ⟨w.heap.size, 2, none⟩) (show w3.heap.size + 1 ≠ w.heap.size by omega) _
    generalize ((((w5.setCell ⟨w3.heap.size, 2, none⟩ (.slice (some ⟨w3.heap.size + 1, 0, none⟩) x.q.ss.length x.q.ss.length)).setCell ⟨w.heap.size, 0, none⟩ (.int .i64 x.q.v)).setCell ⟨w.heap.size, 1, none⟩ (.string x.q.g)).setCell ⟨w.heap.size, 2, none⟩ (.slice (some ⟨w3.heap.size + 1, 0, none⟩) x.q.ss.length x.q.ss.length)) = WF at *
    have q0 : WF.cell? ⟨w.heap.size, 0, none⟩ = some (.int .i64 x.q.v) := hb6.cell 0
    have q1 : WF.cell? ⟨w.heap.size, 1, none⟩ = some (.string x.q.g) := hb6.cell 1
    have q2 : WF.cell? ⟨w.heap.size, 2, none⟩ = some (.slice (some ⟨w3.heap.size + 1, 0, none⟩) x.q.ss.length x.q.ss.length) := hb6.cell 2
    have hk7 : Keep [gw, bw, bm] w WF := HK3.out.then hk6 (by simp)
    have hm7 := HM3.out.block (w' := WF) (hk6.block bm HM3.out.lt (by simp; omega))
    have ho7 := HO3.out.keep hk6 (by simp; omega) (by simp; omega)
    refine bodyPost_ret (v := .agg #[.int .i64 x.q.v, .string x.q.g, .slice (some ⟨w3.heap.size + 1, 0, none⟩) x.q.ss.length x.q.ss.length]) (by simp [results, Tryd.results29, go_sem, q0, q1, q2]) rfl ⟨w3.heap.size + 1, rfl, by omega, hs6, hk7, ?_⟩
    left
    refine ⟨by omega, HA.out.told hk7 hm7 ?_ (fun y hy => ?_) (apart_put HA.out.bk.apart ({x with at_ := m + gap, turn := tu + 1, left := x.left - 1} : Pw)) (fun y hy => ?_)⟩
    · rw [List.map_append]
      exact ho7
    · rcases List.mem_append.1 hy with hy | hy
      · exact List.mem_append_left _ (keep_mem (HA.out.sub y hy) (HNO.out y hy))
      · exact List.mem_append_right _ hy
    · rcases List.mem_append.1 hy with hy | hy
      · exact ⟨y, (mem_no hy).1, rfl, rfl, rfl⟩
      · simp at hy
        subst hy
        exact ⟨x, HX.out, rfl, rfl, rfl⟩
  · have hone' : ¬ 0 < x.left - 1 := by omega
    have hone2 : x.left - 1 ≤ 0 := by omega
    go_wp2_with (first
      | (at_mapUpdate; refine wpList_put _ rfl _ _ _ _ rfl 3 79 WhlI.law Tryd.underlying73 sameE bm ws rfl (HAT.out.bk.map.drewN 1) (by unfold maxLen; omega) _ ({x with left := x.left - 1} : Pw) rfl (by show _ = valW _; unfold valW; rw [HSL.out]; rfl) hkey.out ?_; intro w2 hm2 hg2; have HK2 := Lib.hid (((Keep.refl [bm] W).drewN 1).trans (Keep.of_grown hg2 (by simp))); have hm2' : Has E Tryd.prog 3 w2 bm ((ws.filter fun y => !Mp.keyIs E x.key y) ++ [{x with left := x.left - 1}]) := hm2; have HM2 := Lib.hid hm2'; have HB72 := Lib.hid (Keep.blk HK2.out HB7.out (by simp; omega)); have p3 : w2.cell? ⟨w.heap.size + 1, 3, none⟩ = some (.int .i64 (x.left - 1)) := HB72.out.cell 3; have e4' : w2.cell? ⟨g, 4, none⟩ = some (.map (some bm)) := (Keep.blk HK2.out HAT.out.bk.blk (by simp; omega)).cell 4; have hg2' : g < w2.heap.size := (Keep.blk HK2.out HAT.out.bk.blk (by simp; omega)).lt; clear hm2 hm2' hg2)
      | (at_delete; refine wpList_del _ rfl _ _ _ _ rfl 79 WhlI.law Tryd.underlying73 sameE bm _ rfl HM2.out _ x.key rfl hkey.out ?_; intro w3 hm3 hg3; rw [strike_put (k := x.key) (x := ({x with left := x.left - 1} : Pw)) rfl] at hm3; have k3 : Keep [bm] w2 w3 := Keep.of_grown hg3 (by simp); have HK3 := Lib.hid (((hW.out.mono (ys := [gw, bw, bm]) (by simp)).trans (HK2.out.mono (by simp))).trans (k3.mono (by simp))); have HM3 := Lib.hid hm3; have HO3 := Lib.hid ((HAT.out.on.keep HK2.out (by simp; omega) (by simp; omega)).keep k3 (by simp; omega) (by simp; omega)); have HB73 := Lib.hid (Keep.blk k3 HB72.out (by simp; omega)); have HB63 := Lib.hid (Keep.blk k3 (Keep.blk HK2.out HB6.out (by simp; omega)) (by simp; omega)); have HSB3 := Lib.hid (Keep.blk HK3.out HSB.out (by simp; omega)); have z3 : w.heap.size + 1 < w3.heap.size := HB73.out.lt; have HQ4 := Lib.hid (Blk.new w3 52 #[.int .i64 x.q.v, .string x.q.g, .slice (some ⟨sx, 0, none⟩) x.q.ss.length x.q.ss.length]); have HB64 := Lib.hid (HB63.out.alloc (.cells #[.int .i64 x.q.v, .string x.q.g, .slice (some ⟨sx, 0, none⟩) x.q.ss.length x.q.ss.length] 52)); have HRD : Hid (Reads (w3.alloc (.cells #[.int .i64 x.q.v, .string x.q.g, .slice (some ⟨sx, 0, none⟩) x.q.ss.length x.q.ss.length] 52)) (w3.alloc (.cells #[.int .i64 x.q.v, .string x.q.g, .slice (some ⟨sx, 0, none⟩) x.q.ss.length x.q.ss.length] 52)).heap.size 1 (some ⟨sx, 0, none⟩) x.q.ss.length (x.q.ss.map Value.string)) := Lib.hid (by have h5 := blk_reads (HSB3.out.alloc (.cells #[.int .i64 x.q.v, .string x.q.g, .slice (some ⟨sx, 0, none⟩) x.q.ss.length x.q.ss.length] 52)) (B := (w3.alloc (.cells #[.int .i64 x.q.v, .string x.q.g, .slice (some ⟨sx, 0, none⟩) x.q.ss.length x.q.ss.length] 52)).heap.size) (by simp; omega); rw [List.length_map] at h5; exact h5); have p0 : w3.cell? ⟨w.heap.size + 1, 0, none⟩ = some (.int .i64 x.q.v) := HB73.out.cell 0; have p1 : w3.cell? ⟨w.heap.size + 1, 1, none⟩ = some (.string x.q.g) := HB73.out.cell 1; have p2 : w3.cell? ⟨w.heap.size + 1, 2, none⟩ = some (.slice (some ⟨sx, 0, none⟩) x.q.ss.length x.q.ss.length) := HB73.out.cell 2; clear p3 e4' hg2' k3 hm3 hg3)
      | (go_at_call 25; refine (own_ _ (some ⟨sx, 0, none⟩) _ _ x.q.ss HRD.out hss).mono ?_; rintro e w5 ⟨rfl, hs5, b5⟩; have z5 := b5.size; have HS5 := Lib.hid hs5; have HE5 := Lib.hid b5; have HQ5 := Lib.hid (HQ4.out.below b5 (by simp)); have HB65 := Lib.hid (HB64.out.below b5 (by simp; omega)); have r2 : w5.cell? ⟨w3.heap.size, 2, none⟩ = _ := HQ5.out.cell 2; have fr2 := HQ5.out.frozen 2; have r0 : w5.cell? ⟨w3.heap.size, 0, none⟩ = _ := HQ5.out.cell 0; have r1 : w5.cell? ⟨w3.heap.size, 1, none⟩ = _ := HQ5.out.cell 1; have s0 : w5.cell? ⟨w.heap.size, 0, none⟩ = _ := HB65.out.cell 0; have s1 : w5.cell? ⟨w.heap.size, 1, none⟩ = _ := HB65.out.cell 1; have s2 : w5.cell? ⟨w.heap.size, 2, none⟩ = _ := HB65.out.cell 2; have fs0 := HB65.out.frozen 0; have fs1 := HB65.out.frozen 1; have fs2 := HB65.out.frozen 2; clear hs5 b5)
      | go_in)
    have hb6 : Blk ((((w5.setCell ⟨w3.heap.size, 2, none⟩ (.slice (some ⟨w3.heap.size + 1, 0, none⟩) x.q.ss.length x.q.ss.length)).setCell ⟨w.heap.size, 0, none⟩ (.int .i64 x.q.v)).setCell ⟨w.heap.size, 1, none⟩ (.string x.q.g)).setCell ⟨w.heap.size, 2, none⟩ (.slice (some ⟨w3.heap.size + 1, 0, none⟩) x.q.ss.length x.q.ss.length)) w.heap.size 52 #[.int .i64 x.q.v, .string x.q.g, .slice (some ⟨w3.heap.size + 1, 0, none⟩) x.q.ss.length x.q.ss.length] := by
      have h6 := (((HB65.out.far (p := ⟨w3.heap.size, 2, none⟩) (show w.heap.size ≠ w3.heap.size by omega) (.slice (some ⟨w3.heap.size + 1, 0, none⟩) x.q.ss.length x.q.ss.length)).set_ 0 (.int .i64 x.q.v)).set_ 1 (.string x.q.g)).set_ 2 (.slice (some ⟨w3.heap.size + 1, 0, none⟩) x.q.ss.length x.q.ss.length)
      exact h6
    have hk6 : Keep [w.heap.size] w3 ((((w5.setCell ⟨w3.heap.size, 2, none⟩ (.slice (some ⟨w3.heap.size + 1, 0, none⟩) x.q.ss.length x.q.ss.length)).setCell ⟨w.heap.size, 0, none⟩ (.int .i64 x.q.v)).setCell ⟨w.heap.size, 1, none⟩ (.string x.q.g)).setCell ⟨w.heap.size, 2, none⟩ (.slice (some ⟨w3.heap.size + 1, 0, none⟩) x.q.ss.length x.q.ss.length)) := ((((((Keep.refl [w.heap.size] w3).alloc (.cells #[.int .i64 x.q.v, .string x.q.g, .slice (some ⟨sx, 0, none⟩) x.q.ss.length x.q.ss.length] 52)).trans (Keep.of_below HE5.out _)).set_ (p := ⟨w3.heap.size, 2, none⟩) (Or.inr (Nat.le_refl _)) _).set_ (p := ⟨w.heap.size, 0, none⟩) (Or.inl (by simp)) _).set_ (p := ⟨w.heap.size, 1, none⟩) (Or.inl (by simp)) _).set_ (p := ⟨w.heap.size, 2, none⟩) (Or.inl (by simp)) _
    have hs6 : Blk ((((w5.setCell ⟨w3.heap.size, 2, none⟩ (.slice (some ⟨w3.heap.size + 1, 0, none⟩) x.q.ss.length x.q.ss.length)).setCell ⟨w.heap.size, 0, none⟩ (.int .i64 x.q.v)).setCell ⟨w.heap.size, 1, none⟩ (.string x.q.g)).setCell ⟨w.heap.size, 2, none⟩ (.slice (some ⟨w3.heap.size + 1, 0, none⟩) x.q.ss.length x.q.ss.length)) (w3.heap.size + 1) 22 (x.q.ss.map Value.string).toArray := by
      have h7 := HS5.out
      rw [show (w3.alloc (.cells #[.int .i64 x.q.v, .string x.q.g, .slice (some ⟨sx, 0, none⟩) x.q.ss.length x.q.ss.length] 52)).heap.size = w3.heap.size + 1 by simp] at h7
      exact (((h7.far (p := ⟨w3.heap.size, 2, none⟩) (show w3.heap.size + 1 ≠ w3.heap.size by omega) _).far (p := ⟨w.heap.size, 0, none⟩) (show w3.heap.size + 1 ≠ w.heap.size by omega) _).far (p := ⟨w.heap.size, 1, none⟩) (show w3.heap.size + 1 ≠ w.heap.size by omega) _).far (p := ⟨w.heap.size, 2, none⟩) (show w3.heap.size + 1 ≠ w.heap.size by omega) _
    generalize ((((w5.setCell ⟨w3.heap.size, 2, none⟩ (.slice (some ⟨w3.heap.size + 1, 0, none⟩) x.q.ss.length x.q.ss.length)).setCell ⟨w.heap.size, 0, none⟩ (.int .i64 x.q.v)).setCell ⟨w.heap.size, 1, none⟩ (.string x.q.g)).setCell ⟨w.heap.size, 2, none⟩ (.slice (some ⟨w3.heap.size + 1, 0, none⟩) x.q.ss.length x.q.ss.length)) = WF at *
    have q0 : WF.cell? ⟨w.heap.size, 0, none⟩ = some (.int .i64 x.q.v) := hb6.cell 0
    have q1 : WF.cell? ⟨w.heap.size, 1, none⟩ = some (.string x.q.g) := hb6.cell 1
    have q2 : WF.cell? ⟨w.heap.size, 2, none⟩ = some (.slice (some ⟨w3.heap.size + 1, 0, none⟩) x.q.ss.length x.q.ss.length) := hb6.cell 2
    have hk7 : Keep [gw, bw, bm] w WF := HK3.out.then hk6 (by simp)
    have hm7 := HM3.out.block (w' := WF) (hk6.block bm HM3.out.lt (by simp; omega))
    have ho7 := HO3.out.keep hk6 (by simp; omega) (by simp; omega)
    refine bodyPost_ret (v := .agg #[.int .i64 x.q.v, .string x.q.g, .slice (some ⟨w3.heap.size + 1, 0, none⟩) x.q.ss.length x.q.ss.length]) (by simp [results, Tryd.results29, go_sem, q0, q1, q2]) rfl ⟨w3.heap.size + 1, rfl, by omega, hs6, hk7, ?_⟩
    right
    refine ⟨by omega, HA.out.told hk7 hm7 ho7 (fun y hy => keep_mem (HA.out.sub y hy) (HNO.out y hy)) (HA.out.bk.apart.filter _) (fun y hy => ⟨y, (mem_no hy).1, rfl, rfl, rfl⟩)⟩
end Ask
end Go.Proofs.YtdpppljobikjhaaDoor
