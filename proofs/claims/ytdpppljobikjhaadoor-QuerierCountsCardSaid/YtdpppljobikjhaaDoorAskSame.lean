/-
  Questions that were told, the program's and the document's: they are the same; the walks of SameAddrs, SameQuestion, same.
-/
import Derived.Test.YtdpppljobikjhaaDoorAskRef2
namespace Go.Proofs.YtdpppljobikjhaaDoor
set_option linter.unusedVariables false
set_option linter.unusedSimpArgs false
open Go.RowKit Go.Maps
namespace AskR
open Go.Proofs.YtdpppljobikjhaaDoor.Ask
set_option maxRecDepth 20000 in
theorem addrs_ (w : World) (A1 A2 : Option Addr) (c1 c2 n : Nat) (l : List ByteArray) (h1 : Reads w w.heap.size 1 A1 n (l.map Value.string)) (h2 : Reads w w.heap.size 1 A2 n (l.map Value.string)) (hn : n ≤ 5000) :
    Calls Tryd.prog 45 #[.slice A1 n c1, .slice A2 n c2] w fun e w' => e = .returned (.bool true) ∧ ∃ m, w' = w.drewN m := by
  have hl : l.length = n := by have := h1.1; simpa using this
  go_enter Tryd.func45, Tryd.ntmps45
  go_wp2
  go_loopw [5] (fun i wr => ∃ (k m : Nat), k ≤ n ∧ i = .int .i64 k ∧ wr = w.drewN m) (fun i _ => n - (intOf i).toNat)
  case atStart => exact ⟨0, 0, Nat.zero_le _, rfl, rfl⟩
  case round =>
    obtain ⟨k, m, hk, rfl, rfl⟩ := hrel
    by_cases hlt : k < n
    · have hlt' : (k : Int) < (n : Int) := by omega
      obtain ⟨b1, o1, rfl, hb1, hc1⟩ := h1.flat (by omega) (by simp; omega)
      obtain ⟨b2, o2, rfl, hb2, hc2⟩ := h2.flat (by omega) (by simp; omega)
      obtain ⟨x, hx⟩ : ∃ x, l[k]? = some x := ⟨_, List.getElem?_eq_getElem (by omega)⟩
      have d1 : w.cell? ⟨b1, o1 + k, none⟩ = some (.string x) := hc1 k _ (by rw [List.getElem?_map, hx]; rfl)
      have d2 : w.cell? ⟨b2, o2 + k, none⟩ = some (.string x) := hc2 k _ (by rw [List.getElem?_map, hx]; rfl)
      clear hc1 hc2 h1 h2 hx
      go_wp2
      go_quiet (fail)
      go_wp2
      exact ⟨⟨k + 1, m + nq, by omega, by go_num, rfl⟩, by simp [intOf]; omega⟩
    · have e : k = n := by omega
      subst e
      go_wp2
      go_ret
      exact ⟨rfl, m, rfl⟩
set_option maxRecDepth 20000 in
theorem sameQ_ (w : World) (x : Qn) (A1 A2 : Option Addr) (c1 c2 n : Nat) (h1 : Reads w w.heap.size 1 A1 n (x.ss.map Value.string)) (h2 : Reads w w.heap.size 1 A2 n (x.ss.map Value.string)) (hn : n ≤ 5000) :
    Calls Tryd.prog 30 #[.agg #[.int .i64 x.v, .string x.g, .slice A1 n c1], .int .i64 x.v, .string x.g, .slice A2 n c2] w fun e w' => e = .returned (.bool true) ∧ Below w.heap.size w w' := by
  have hA := fun o => addrs_ (w.alloc o) A1 A2 c1 c2 n x.ss ((h1.alloc (Nat.le_refl _) o).more (by simp)) ((h2.alloc (Nat.le_refl _) o).more (by simp)) hn
  clear h1 h2
  go_enter Tryd.func30, Tryd.ntmps30
  go_wp2_with (first
    | (go_at_call 45; refine (hA _).mono ?_; rintro e w1 ⟨rfl, m1, rfl⟩)
    | go_in)
  go_ret
  exact ⟨rfl, below_drewN ((Below.refl _ w).alloc (Nat.le_refl _) _) _⟩
set_option maxHeartbeats 2000000 in
set_option maxRecDepth 20000 in
theorem same_ (w : World) (A1 A2 : Option Addr) (c1 c2 n : Nat) (lp : List QS) (ld : List Dw) (h1 : Reads w w.heap.size 3 A1 n (lp.flatMap cQ)) (h2 : Reads w w.heap.size 3 A2 n (ld.flatMap c3)) (hq : lp.map (·.1) = ld.map fun x => x.q)
    (hs1 : ∀ x ∈ lp, Reads w w.heap.size 1 (some ⟨x.2, 0, none⟩) x.1.ss.length (x.1.ss.map Value.string)) (hs2 : ∀ y ∈ ld, Reads w w.heap.size 1 y.A y.n (y.q.ss.map Value.string)) (hss : ∀ x ∈ lp, x.1.ss.length ≤ 1000) (hn : n ≤ 5000) :
    Calls Tryd.prog 17 #[.slice A1 n c1, .slice A2 n c2] w fun e w' => e = .returned (.bool true) ∧ Below w.heap.size w w' := by
  go_enter Tryd.func17, Tryd.ntmps17
  go_wp2
  go_loopw [5] (fun i wr => ∃ (k : Nat), k ≤ n ∧ i = .int .i64 k ∧ Below w.heap.size w wr) (fun i _ => n - (intOf i).toNat)
  case atStart => exact ⟨0, Nat.zero_le _, rfl, Below.refl _ _⟩
  case round =>
    obtain ⟨k, hk, rfl, hbel⟩ := hrel
    have hbz := hbel.size
    have HB := Lib.hid hbel
    by_cases hlt : k < n
    · have hlt' : (k : Int) < (n : Int) := by omega
      obtain ⟨b1, o1, x, rfl, hb1, hx, hc1⟩ := (h1.below hbel).chunk cQ 3 (by omega) lenQ hlt
      obtain ⟨b2, o2, y, rfl, hb2, hy, hc2⟩ := (h2.below hbel).chunk c3 3 (by omega) len3 hlt
      have hxy : y.q = x.1 := by
        have e1 : (lp.map (·.1))[k]? = some x.1 := by rw [List.getElem?_map, hx]; rfl
        have e2 : (ld.map fun x => x.q)[k]? = some y.q := by rw [List.getElem?_map, hy]; rfl
        rw [hq, e2] at e1
        injection e1
      have r1 := (hs1 x (List.mem_of_getElem? hx)).below hbel
      have r2 := (hs2 y (List.mem_of_getElem? hy)).below hbel
      have hsl := hss x (List.mem_of_getElem? hx)
      rw [hxy] at r2
      have hyn : y.n = x.1.ss.length := by have := r2.1; simp at this; omega
      rw [hyn] at r2
      have hsq := fun m => sameQ_ (wr.drewN m) x.1 y.A (some ⟨x.2, 0, none⟩) y.c x.1.ss.length _ ((r2.drewN m).more hbz) ((r1.drewN m).more hbz) (by omega)
      have d0 : wr.cell? ⟨b1, o1 + k * 3, none⟩ = some (.int .i64 x.1.v) := hc1 0 _ rfl
      have d1 : wr.cell? ⟨b1, o1 + k * 3 + 1, none⟩ = some (.string x.1.g) := hc1 1 _ rfl
      have d2 : wr.cell? ⟨b1, o1 + k * 3 + 2, none⟩ = some (.slice (some ⟨x.2, 0, none⟩) x.1.ss.length x.1.ss.length) := hc1 2 _ rfl
      have e0 : wr.cell? ⟨b2, o2 + k * 3, none⟩ = some (.int .i64 x.1.v) := by rw [← hxy]; exact hc2 0 _ rfl
      have e1 : wr.cell? ⟨b2, o2 + k * 3 + 1, none⟩ = some (.string x.1.g) := by rw [← hxy]; exact hc2 1 _ rfl
      have e2 : wr.cell? ⟨b2, o2 + k * 3 + 2, none⟩ = some (.slice y.A x.1.ss.length y.c) := by rw [← hyn]; exact hc2 2 _ rfl
      clear hc1 hc2 hx hy hxy r1 r2 hyn hbel h1 h2 hs1 hs2 hss hq
      go_wp2
      refine region_tail 19 (by kernel_rfl) (by kernel_rfl) ?_
      simp only [List.take_succ_cons, List.take_zero, List.drop_succ_cons, List.drop_zero]
      refine SW.un ?_
      (refine SW.want (by kernel_rfl) (fun K hK => ?_); have HK := Lib.hid hK; clear hK; go_simp; refine SW.on HK ?_; clear HK K)
      (refine SW.want (by kernel_rfl) (fun K hK => ?_); have HK := Lib.hid hK; clear hK; go_simp; refine SW.on HK ?_; clear HK K)
      (refine SW.want (by kernel_rfl) (fun K hK => ?_); have HK := Lib.hid hK; clear hK; go_simp; refine SW.on HK ?_; clear HK K)
      (refine SW.want (by kernel_rfl) (fun K hK => ?_); have HK := Lib.hid hK; clear hK; go_simp; refine SW.on HK ?_; clear HK K)
      (refine SW.want (by kernel_rfl) (fun K hK => ?_); have HK := Lib.hid hK; clear hK; go_simp; refine SW.on HK ?_; clear HK K)
      (refine SW.want (by kernel_rfl) (fun K hK => ?_); have HK := Lib.hid hK; clear hK; go_simp; refine SW.on HK ?_; clear HK K)
      (refine SW.want (by kernel_rfl) (fun K hK => ?_); have HK := Lib.hid hK; clear hK; go_simp; refine SW.on HK ?_; clear HK K)
      (refine SW.want (by kernel_rfl) (fun K hK => ?_); have HK := Lib.hid hK; clear hK; go_simp; refine SW.on HK ?_; clear HK K)
      (refine SW.want (by kernel_rfl) (fun K hK => ?_); have HK := Lib.hid hK; clear hK; go_simp; refine SW.on HK ?_; clear HK K)
      (refine SW.want (by kernel_rfl) (fun K hK => ?_); have HK := Lib.hid hK; clear hK; go_simp; refine SW.on HK ?_; clear HK K)
      (refine SW.want (by kernel_rfl) (fun K hK => ?_); have HK := Lib.hid hK; clear hK; go_simp; refine SW.on HK ?_; clear HK K)
      (refine SW.want (by kernel_rfl) (fun K hK => ?_); have HK := Lib.hid hK; clear hK; go_simp; refine SW.on HK ?_; clear HK K)
      (refine SW.want (by kernel_rfl) (fun K hK => ?_); have HK := Lib.hid hK; clear hK; go_simp; refine SW.on HK ?_; clear HK K)
      (refine SW.want (by kernel_rfl) (fun K hK => ?_); have HK := Lib.hid hK; clear hK; go_simp; refine SW.on HK ?_; clear HK K)
      (refine SW.want (by kernel_rfl) (fun K hK => ?_); have HK := Lib.hid hK; clear hK; go_simp; refine SW.on HK ?_; clear HK K)
      (refine SW.want (by kernel_rfl) (fun K hK => ?_); have HK := Lib.hid hK; clear hK; go_simp; refine SW.on HK ?_; clear HK K)
      (refine SW.want (by kernel_rfl) (fun K hK => ?_); have HK := Lib.hid hK; clear hK; go_simp; refine SW.on HK ?_; clear HK K)
      (refine SW.want (by kernel_rfl) (fun K hK => ?_); have HK := Lib.hid hK; clear hK; go_simp; refine SW.on HK ?_; clear HK K)
      (refine SW.want (by kernel_rfl) (fun K hK => ?_); have HK := Lib.hid hK; clear hK; go_simp; refine SW.on HK ?_; clear HK K)
      refine SW.nil ?_
      go_wp2_with (first
        | (go_at_call 30; refine (hsq 1).mono ?_; rintro e w2 ⟨rfl, b2'⟩)
        | go_in)
      exact ⟨⟨k + 1, by omega, by go_num, (below_drewN HB.out 1).trans (b2'.mono hbz)⟩, by simp [intOf]; omega⟩
    · have e : k = n := by omega
      subst e
      go_wp2
      go_ret
      exact ⟨rfl, HB.out⟩
end AskR
end Go.Proofs.YtdpppljobikjhaaDoor
