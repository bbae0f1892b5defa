/-
  The document's table: the walks of Look, Flush, Expire and Learn.
-/
import Derived.Test.YtnnpmbjicpndeaaFdbRef
import Derived.Test.YtnnpmbjicpndeaaFdbTake
import Derived.Deep.DeepCutAuto
namespace Go.Proofs.Ytnnpmbjicpndeaa
set_option linter.unusedVariables false
set_option linter.unusedSimpArgs false
open Go.RowKit Go.Maps
namespace FdbR
open Mp FdbC Fdb
theorem take_ne {L : List En} {k : Key} {j : Nat} {x : En} (h : L[j]? = some x) (hk : x.1 ≠ k) (hb : ∀ y ∈ L.take j, y.1 ≠ k) : ∀ y ∈ L.take (j + 1), y.1 ≠ k := by
  rw [List.take_add_one, h]
  intro y hy
  rcases List.mem_append.1 hy with hy | hy
  · exact hb y hy
  · simp at hy; subst hy; exact hk
/-- what Look asks of an entry -/
def good (age : Int) (k : Key) (now : Int) (x : En) : Prop := x.1 = k ∧ (0 ≤ now ∧ now ≤ 1099511627776) ∧ now < x.2.2 + age
theorem found_yes {age : Int} {L : List En} {k : Key} {now : Int} {x : En} (hd : Apart E L) (hx : x ∈ L) (h : good age k now x) : found age L k now = some x.2.1 := by
  obtain ⟨rfl, h2, h3⟩ := h
  unfold found
  rw [if_pos h2, find_has hd hx]
  show (if now < x.2.2 + age then some x.2.1 else none) = _
  rw [if_pos h3]
theorem found_no {age : Int} {L : List En} {k : Key} {now : Int} (h : ∀ x ∈ L, ¬ good age k now x) : found age L k now = none := by
  unfold found
  split
  · rename_i ht
    cases hf : L.find? (keyIs E k) with
    | none => rfl
    | some x =>
      have hx := List.mem_of_find?_eq_some hf
      have hk : keyIs E k x = true := List.find?_some (p := keyIs E k) hf
      have hn := h x hx
      show (if now < x.2.2 + age then some x.2.1 else none) = none
      rw [if_neg]
      exact fun hc => hn ⟨(keyIsE _ _).1 hk, ht, hc⟩
  · rfl
theorem take_good {age : Int} {L : List En} {k : Key} {now : Int} {j : Nat} {x : En} (h : L[j]? = some x) (hk : ¬ good age k now x) (hb : ∀ y ∈ L.take j, ¬ good age k now y) : ∀ y ∈ L.take (j + 1), ¬ good age k now y := by
  rw [List.take_add_one, h]
  intro y hy
  rcases List.mem_append.1 hy with hy | hy
  · exact hb y hy
  · simp at hy; subst hy; exact hk
def RLook (w w' : World) (age : Int) (L : List En) (k : Key) (now : Int) (e : Ending) : Prop := e = .returned (tell (found age L k now)) ∧ ∃ n, w' = w.drewN n
theorem rtime_at {now : Int} {b : Bool} (hb : decide (0 ≤ now ∧ now ≤ 1099511627776) = b) (W : World) : ∀ n : Nat, Calls Try.prog 38 #[.int .i64 now] (W.drewN n) fun e w' => e = .returned (.bool b) ∧ ∃ m, w' = W.drewN m :=
  fun n => (rtime_ now _).mono fun _ _ h => ⟨by rw [h.1, hb], n, h.2.symm⟩
set_option maxHeartbeats 4000000 in
set_option maxRecDepth 20000 in
theorem rlook_ (w : World) (q : Nat) (room age : Int) (L : List En) (h : RAt w q room age L) (hd : Apart E L) (hn : L.length ≤ 5000) (hg : ∀ x ∈ L, 0 ≤ x.2.2 ∧ x.2.2 ≤ 1099511627776) (ha : 0 ≤ age ∧ age ≤ 1000000) (k : Key) (now : Int) :
    Calls Try.prog 24 #[.pointer (some ⟨q, 0, none⟩), .int .i64 k.1.1, .string k.1.2, .int .i64 now] w fun e w' => RLook w w' age L k now e := by
  have HR := Lib.hid h
  have HD := Lib.hid hd
  have HG := Lib.hid hg
  obtain ⟨v, hblk, hown⟩ := h
  obtain ⟨A, c, rfl, _⟩ := own_form hown
  have cc2 : w.cell? ⟨q, 2, none⟩ = some (.slice A L.length c) := hblk.cell 2
  clear hd hg hblk
  go_enter Try.func24, Try.ntmps24
  go_wp2
  go_loopw [10] (fun i wr => ∃ (j : Nat), j ≤ L.length ∧ i = .int .i64 j ∧ (∀ y ∈ L.take j, ¬ good age k now y) ∧ ∃ n, wr = w.drewN n) (fun i _ => L.length - (intOf i).toNat)
  case atStart => exact ⟨0, Nat.zero_le _, rfl, by simp, 0, rfl⟩
  case round =>
    obtain ⟨j, hj, rfl, hb, hwr⟩ := hrel
    have hRr : RAt wr q room age L := by obtain ⟨n, rfl⟩ := hwr; exact HR.out.drewN n
    have HW := Lib.hid hwr
    have hownr : wr.ownsRow (q + 1) 59 4 (.slice A L.length c) L.length (L.flatMap cE) := by obtain ⟨n, rfl⟩ := hwr; exact hown
    have c2 : wr.cell? ⟨q, 2, none⟩ = some (.slice A L.length c) := by obtain ⟨n, rfl⟩ := hwr; exact cc2
    have c1 : wr.cell? ⟨q, 1, none⟩ = some (.int .i64 age) := by obtain ⟨_, hblk, _⟩ := hRr; exact hblk.cell 1
    have hrd := Reads.of_own hownr
    clear hwr hRr hownr hown cc2
    by_cases hlt : j < L.length
    · obtain ⟨bb, off, x, rfl, hbb, hx, hcc⟩ := hrd.chunk cE 4 (by omega) lenC hlt
      have d0 : wr.cell? ⟨bb, off + j * 4, none⟩ = some (.int .i64 x.1.1.1) := hcc 0 _ rfl
      have d1 : wr.cell? ⟨bb, off + j * 4 + 1, none⟩ = some (.string x.1.1.2) := hcc 1 _ rfl
      have d2 : wr.cell? ⟨bb, off + j * 4 + 2, none⟩ = some (.int .i64 x.2.1) := hcc 2 _ rfl
      have d3 : wr.cell? ⟨bb, off + j * 4 + 3, none⟩ = some (.int .i64 x.2.2) := hcc 3 _ rfl
      have hlt' : (j : Int) < (L.length : Int) := by omega
      have hxm := List.mem_of_getElem? hx
      have hxg := HG.out x hxm
      have hw : IntKind.i64.wrap (x.2.2 + age) = x.2.2 + age := IntWalk.i64_in _ (by omega)
      have HX := Lib.hid hxm
      have HB := Lib.hid (fun hk => take_good hx hk hb)
      have hfin : ∀ nq, ∃ n, wr.drewN nq = w.drewN n := fun nq => by obtain ⟨n, rfl⟩ := HW.out; exact ⟨n + nq, by simp⟩
      have HFIN := Lib.hid hfin
      clear hcc hb hx hxm hrd hfin
      by_cases hv : x.1.1.1 = k.1.1
      · by_cases hm : x.1.1.2 = k.1.2
        · have HKE := Lib.hid (show x.1 = k from Subtype.ext (Prod.ext hv hm))
          have hm' : (x.1.1.2.toList == k.1.2.toList) = true := by rw [hm]; simp
          by_cases ht : 0 ≤ now ∧ now ≤ 1099511627776
          · have HT := Lib.hid ht
            have htm := rtime_at (decide_eq_true ht) wr
            clear ht hm
            by_cases hc : now < x.2.2 + age
            · have HC := Lib.hid hc
              go_wp2
              go_quiet (exact htm _)
              go_wp2
              go_ret2
              exact ⟨by rw [found_yes HD.out HX.out ⟨HKE.out, HT.out, HC.out⟩]; rfl, HFIN.out _⟩
            · have HC := Lib.hid hc
              go_wp2
              go_quiet (exact htm _)
              go_wp2
              exact ⟨⟨j + 1, by omega, by go_num, HB.out (fun h => by have := h.2.2; have := HC.out; omega), HFIN.out _⟩, by simp [intOf]; omega⟩
          · have HT := Lib.hid ht
            have htm := rtime_at (decide_eq_false ht) wr
            clear ht hm
            go_wp2
            go_quiet (exact htm _)
            go_wp2
            exact ⟨⟨j + 1, by omega, by go_num, HB.out (fun h => HT.out h.2.1), HFIN.out _⟩, by simp [intOf]; omega⟩
        · have HM := Lib.hid hm
          have hm' := bytes_ne hm
          clear hm
          go_wp2
          go_quiet (fail)
          go_wp2
          exact ⟨⟨j + 1, by omega, by go_num, HB.out (fun h => HM.out (by rw [h.1])), HFIN.out _⟩, by simp [intOf]; omega⟩
      · have hvb : (x.1.1.1 == k.1.1) = false := by rw [beq_eq_false_iff_ne]; exact hv
        have HV := Lib.hid hv
        clear hv
        go_wp2
        go_quiet (fail)
        go_wp2
        exact ⟨⟨j + 1, by omega, by go_num, HB.out (fun h => HV.out (by rw [h.1])), HFIN.out _⟩, by simp [intOf]; omega⟩
    · have e : j = L.length := by omega
      subst e
      rw [List.take_length] at hb
      have HB := Lib.hid (found_no hb)
      clear hb
      go_wp2
      go_ret2
      exact ⟨by rw [HB.out]; rfl, HW.out⟩
end FdbR
end Go.Proofs.Ytnnpmbjicpndeaa
