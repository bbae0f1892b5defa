/-
  The walk of QuerierCounts.
-/
import Derived.Test.YtdpppljobikjhaaDoorAskLawM
import Derived.Deep.DeepCutAuto
namespace Go.Proofs.YtdpppljobikjhaaDoor
set_option linter.unusedVariables false
set_option linter.unusedSimpArgs false
open Go.RowKit Go.Maps
namespace AskL
open Go.Proofs.YtdpppljobikjhaaDoor.Ask
/-- what waits once the question was told j times -/
def stC (q : Qn) (count gap : Int) (j : Nat) : List Wait := if (j : Int) < count then [⟨q, 3 + gap * j, count - j⟩] else []
theorem stC_len (q : Qn) (count gap : Int) (j : Nat) : (stC q count gap j).length ≤ 1 := by unfold stC; split <;> simp
theorem due_none' {q : Qn} {count gap now : Int} {j : Nat} {out : List Qn} {L : List Wait} (hp : Path gap now out (stC q count gap j) L) (hq : Quiet now L) (h : (j : Int) < count → now < 3 + gap * j) : out = [] ∧ L = stC q count gap j := by
  have h1 : Quiet now (stC q count gap j) := fun x hx => by
    unfold stC at hx
    split at hx
    · simp at hx
      subst hx
      exact h (by assumption)
    · simp at hx
  exact hp.one hq (show Path gap now [] (stC q count gap j) (stC q count gap j) from rfl) h1
theorem due_one' {q : Qn} {count gap now : Int} {j : Nat} {out : List Qn} {L : List Wait} (hg : 1 ≤ gap) (hp : Path gap now out (stC q count gap j) L) (hq : Quiet now L) (hj : (j : Int) < count) (h : now = 3 + gap * j) : out = [q] ∧ L = stC q count gap (j + 1) := by
  have e : gap * ((j + 1 : Nat) : Int) = gap * j + gap := by rw [Int.natCast_add, Int.mul_add]; simp
  have hs : stC q count gap j = [⟨q, 3 + gap * j, count - j⟩] := if_pos hj
  have hn : next gap [⟨q, 3 + gap * j, count - j⟩] 0 ⟨q, 3 + gap * j, count - j⟩ = stC q count gap (j + 1) := by
    unfold next stC
    by_cases h1 : 1 < count - (j : Int)
    · rw [if_pos h1, if_pos (by omega)]
      simp only [cut, List.take_zero, List.drop_succ_cons, List.drop_nil, List.nil_append]
      congr 2
      · rw [e]; omega
      · omega
    · rw [if_neg h1, if_neg (by omega)]
      rfl
  have h1 : Quiet now (stC q count gap (j + 1)) := fun x hx => by
    unfold stC at hx
    split at hx
    · simp only [List.mem_singleton] at hx
      subst hx
      show now < 3 + gap * ((j + 1 : Nat) : Int)
      rw [e]
      omega
    · simp at hx
  refine hp.one hq ?_ h1
  rw [hs]
  exact ⟨0, _, ⟨_, rfl, by simp, by simp, by simp⟩, rfl, by show 3 + gap * (j : Int) ≤ now; omega, rfl, hn.symm⟩
/-- how j and the time go together -/
structure InC (count gap : Int) (j : Nat) (k : Int) : Prop where
  le : (j : Int) ≤ count
  nx : (j : Int) < count → k ≤ 3 + gap * j
  pv : 1 ≤ j → 3 + gap * ((j : Int) - 1) < k
theorem InC.want {count gap k : Int} {j : Nat} (h : InC count gap j k) (hg : 1 ≤ gap) (hk : 3 ≤ k) (hm : (k - 3) % gap = 0) (hd : (k - 3) / gap < count) : (j : Int) < count ∧ k = 3 + gap * j := by
  have e : gap * ((k - 3) / gap) = k - 3 := by have := Int.mul_ediv_add_emod (k - 3) gap; omega
  have d0 : 0 ≤ (k - 3) / gap := Int.ediv_nonneg (by omega) (by omega)
  generalize (k - 3) / gap = d at *
  have hjd : (j : Int) ≤ d := by
    rcases Nat.eq_zero_or_pos j with h0 | h0
    · omega
    · have h1 := h.pv h0
      have h2 : gap * ((j : Int) - 1) < gap * d := by omega
      have := Int.lt_of_mul_lt_mul_left h2 (by omega)
      omega
  have hj : (j : Int) < count := by omega
  have h3 := h.nx hj
  have h4 : gap * d ≤ gap * j := by omega
  have h5 := Int.le_of_mul_le_mul_left h4 (by omega)
  have h6 : d = j := by omega
  subst h6
  exact ⟨hj, by omega⟩
theorem InC.told {count gap k : Int} {j : Nat} (h : InC count gap j k) (hg : 1 ≤ gap) (hj : (j : Int) < count) (hk : k = 3 + gap * j) : InC count gap (j + 1) (k + 1) := by
  have e : gap * ((j + 1 : Nat) : Int) = gap * j + gap := by rw [Int.natCast_add, Int.mul_add]; simp
  refine ⟨by omega, fun _ => by rw [e]; omega, fun _ => ?_⟩
  have e2 : ((j + 1 : Nat) : Int) - 1 = j := by omega
  rw [e2]
  omega
theorem InC.not {count gap k : Int} {j : Nat} (h : InC count gap j k) (hn : ¬ ((j : Int) < count ∧ k = 3 + gap * j)) : InC count gap j (k + 1) :=
  ⟨h.le, fun hj => by have := h.nx hj; have : k ≠ 3 + gap * j := fun e => hn ⟨hj, e⟩; omega, fun hj => by have := h.pv hj; omega⟩
theorem InC.is_ {count gap k : Int} {j : Nat} (hg : 1 ≤ gap) (hk : k = 3 + gap * j) : 3 ≤ k ∧ (k - 3) % gap = 0 ∧ (k - 3) / gap = j := by
  have h0 : 0 ≤ gap * j := Int.mul_nonneg (by omega) (by omega)
  have e : k - 3 = gap * j := by omega
  rw [e]
  exact ⟨by omega, Int.mul_emod_right _ _, Int.mul_ediv_cancel_left _ (by omega)⟩
theorem InC.end_ {count gap : Int} {j : Nat} (h : InC count gap j 400) (hc : count ≤ 7) (hg : 1 ≤ gap ∧ gap ≤ 50) : (j : Int) = count := by
  have h1 := h.le
  by_cases hj : (j : Int) < count
  · have h2 := h.nx hj
    have h3 : gap * j ≤ 50 * j := Int.mul_le_mul_of_nonneg_right hg.2 (by omega)
    omega
  · omega
theorem InC.early {count gap k : Int} {j : Nat} (h : InC count gap j k) (hg : 1 ≤ gap) (hk : k < 3) : ¬ ((j : Int) < count ∧ k = 3 + gap * j) := by
  rintro ⟨_, e⟩
  have h0 : 0 ≤ gap * j := Int.mul_nonneg (by omega) (by omega)
  omega
def RelC (w wr : World) (g gw bw bm : Nat) (q : Qn) (count gap : Int) (j k : Nat) : Prop :=
  ∃ (tu : Int) (ws : List Pw), Ask.At wr g gw bw bm count gap 1 tu ws ws ∧ ws.map doc = stC q count gap j ∧ (∀ x ∈ ws, OkW x) ∧ 0 ≤ tu ∧ tu ≤ 1 + 1400 * k ∧ InC count gap j k ∧ Below w.heap.size w wr
theorem cells_one {w : World} {g n c : Nat} {A : Option Addr} {x : QS} (h : Reads w w.heap.size 3 A 1 ([x].flatMap cQ)) : ∃ b o, A = some ⟨b, o, none⟩ ∧ w.cell? ⟨b, o, none⟩ = some (.int .i64 x.1.v) ∧ w.cell? ⟨b, o + 1, none⟩ = some (.string x.1.g) := by
  obtain ⟨b, o, y, rfl, _, hy, hc⟩ := h.chunk cQ 3 (by omega) lenQ (k := 0) (by omega)
  simp at hy
  subst hy
  exact ⟨b, o, rfl, by simpa using hc 0 _ rfl, by simpa using hc 1 _ rfl⟩
theorem box4 (w : World) (a b c d : Value) (t : TypeId) : (w.alloc (.cells #[a, b, c, d] t)).cell? ⟨w.heap.size, 0, none⟩ = some a ∧ (w.alloc (.cells #[a, b, c, d] t)).cell? ⟨w.heap.size, 1, none⟩ = some b ∧ (w.alloc (.cells #[a, b, c, d] t)).cell? ⟨w.heap.size, 2, none⟩ = some c ∧ (w.alloc (.cells #[a, b, c, d] t)).cell? ⟨w.heap.size, 3, none⟩ = some d :=
  ⟨(Blk.new w t #[a, b, c, d]).cell 0, (Blk.new w t #[a, b, c, d]).cell 1, (Blk.new w t #[a, b, c, d]).cell 2, (Blk.new w t #[a, b, c, d]).cell 3⟩
theorem below_drewAlloc {w w1 : World} {o : Obj} {n : Nat} (hb : Below ((w.alloc o).drewN n).heap.size ((w.alloc o).drewN n) w1) : Below w.heap.size w w1 := by
  have e : ((w.alloc o).drewN n).heap.size = w.heap.size + 1 := World.size_alloc w o
  exact (below_drewN ((Below.refl _ _).alloc (Nat.le_refl _) _) _).trans (hb.mono (by omega))
set_option maxHeartbeats 4000000 in
set_option maxRecDepth 100000 in
theorem counts_not (count gap v : Int) (g : ByteArray) (w : World) (h : ¬ (Q.inB count 1 7 = true ∧ Q.inB gap 1 1000 = true) ∨ (Q.inB count 1 7 = true ∧ Q.inB gap 1 1000 = true) ∧ 50 < gap) :
    Calls Tryd.prog 7 #[.agg #[.int .i64 count, .int .i64 gap, .int .i64 v, .string g]] w fun e w' => e = .returned (.bool true) ∧ Below w.heap.size w w' := by
  obtain ⟨c0, c1, c2, c3⟩ := box4 w (.int .i64 count) (.int .i64 gap) (.int .i64 v) (.string g) 62
  rcases h with h | ⟨h, h50⟩
  · go_enter Tryd.func7, Tryd.ntmps7
    go_wp2
    go_quiet (fail)
    go_wp2_with fail
    refine (newA_bad _ count gap h).mono ?_
    rintro e w1 ⟨rfl, rfl⟩
    go_wp2_with fail
    refine (Q.live_ _).mono ?_
    rintro e w2 ⟨rfl, b2⟩
    go_wp2
    go_ret
    exact ⟨rfl, below_drewAlloc b2⟩
  · have H := Lib.hid h
    clear h
    go_enter Tryd.func7, Tryd.ntmps7
    go_wp2
    go_quiet (fail)
    go_wp2_with fail
    refine (newA_ok _ count gap H.out).mono ?_
    rintro e w1 ⟨g1, gw, bw, bm, y1, y2, y3, y4, rfl, hat, hb1⟩
    have hw1 := Lib.hid (below_drewAlloc hb1)
    clear hat hb1
    go_wp2_with fail
    refine (Q.live_ _).mono ?_
    rintro e w2 ⟨rfl, b2⟩
    go_wp2
    go_ret
    exact ⟨rfl, hw1.out.trans (b2.mono hw1.out.size)⟩
set_option maxHeartbeats 8000000 in
set_option maxRecDepth 100000 in
theorem counts_yes (count gap v : Int) (gr : ByteArray) (w : World) (h : Q.inB count 1 7 = true ∧ Q.inB gap 1 1000 = true) (h50 : ¬ 50 < gap) :
    Calls Tryd.prog 7 #[.agg #[.int .i64 count, .int .i64 gap, .int .i64 v, .string gr]] w fun e w' => e = .returned (.bool true) ∧ Below w.heap.size w w' := by
  obtain ⟨c0, c1, c2, c3⟩ := box4 w (.int .i64 count) (.int .i64 gap) (.int .i64 v) (.string gr) 62
  have H := Lib.hid h
  obtain ⟨hc, hg⟩ := h
  rw [Q.inB_iff] at hc hg
  obtain ⟨g0, g1⟩ := hc
  obtain ⟨g2, g3⟩ := hg
  go_enter Tryd.func7, Tryd.ntmps7
  go_wp2
  go_quiet (fail)
  go_wp2_with fail
  refine (newA_ok _ count gap H.out).mono ?_
  rintro e w1 ⟨g, gw, bw, bm, y1, y2, y3, y4, rfl, hat, hb1⟩
  have hw1 := Lib.hid (below_drewAlloc hb1)
  have hwz : w.heap.size ≤ g ∧ w.heap.size ≤ gw ∧ w.heap.size ≤ bw ∧ w.heap.size ≤ bm := by
    have e : ∀ (o : Obj) (n : Nat), ((w.alloc o).drewN n).heap.size = w.heap.size + 1 := fun o n => World.size_alloc w o
    rw [e] at y1 y2 y3 y4
    omega
  have HAT := Lib.hid hat
  clear hat hb1 c0 c1 c2 c3 y1 y2 y3 y4
  go_wp2_with fail
  refine (add_ _ g gw bw bm count gap 0 0 [] HAT.out ⟨v, gr, []⟩ none 0 0 w.heap.size ⟨hwz.1, hwz.2.1, hwz.2.2.1, hwz.2.2.2⟩ Reads.none_ (by omega) 3 (by decide) (by omega) (by omega) (by omega) (by omega) (by simp)).mono ?_
  rintro e w2 ⟨rfl, hadd⟩
  obtain ⟨k2, hadd⟩ := hadd
  obtain ⟨h200, _⟩ | ⟨_, sl, hat2⟩ := hadd
  · simp at h200
  have hrel2 : RelC w w2 g gw bw bm ⟨v, gr, []⟩ count gap 0 0 := by
    refine ⟨1, _, hat2, ?_, ?_, by omega, by omega, ⟨by omega, fun _ => by simp, fun h => absurd h (by omega)⟩, hw1.out.trans (k2.below hw1.out.size (by simp; omega))⟩
    · unfold stC
      rw [if_pos (by simp; omega)]
      simp [doc]
    · intro x hx
      simp at hx
      subst hx
      exact ⟨⟨by show 1 ≤ count; omega, by show count ≤ 7; omega⟩, by simp, by show (0 : Int) ≤ 3; omega, by show (3 : Int) ≤ 200000; omega⟩
  have HREL := Lib.hid hrel2
  have hlen2 := len_ w2 g gw bw bm count gap _ _ _ _ hat2
  have HLEN2 := Lib.hid hlen2
  clear hat2 k2 hrel2 hlen2
  go_wp2_with fail
  refine HLEN2.out.mono ?_
  rintro e w3 ⟨rfl, rfl⟩
  go_wp2
  go_loopw [10, 11] (fun n i wr => ∃ (k j : Nat), k ≤ 400 ∧ i = .int .i64 k ∧ n = .int .i64 j ∧ RelC w wr g gw bw bm ⟨v, gr, []⟩ count gap j k) (fun _ i _ => 400 - (intOf i).toNat)
  case atStart => exact ⟨0, 0, by omega, rfl, rfl, HREL.out⟩
  case round =>
    obtain ⟨k, j, hk, rfl, rfl, tu, ws, hat, hws, hok, hu0, hu1, hin, hbel⟩ := hrel
    have HIN := Lib.hid hin
    have HBEL := Lib.hid hbel
    have HWS := Lib.hid hws
    have hle := hin.le
    have hwl : ws.length ≤ 1 := by
      have h1 := congrArg List.length hws
      rw [List.length_map] at h1
      rw [h1]
      exact stC_len _ _ _ _
    by_cases hlt : k < 400
    · have hlt' : (k : Int) < 400 := by omega
      have hbz := hbel.size
      go_wp2_with fail
      refine (due_ wr g gw bw bm count gap 1 tu ws hat hok ⟨g2, g3⟩ (by omega) hu0 (by omega) (by omega) k (by omega)).mono ?_
      rintro e w4 ⟨vv, rfl, hdone⟩
      obtain ⟨out, Lp, tr, hmid, hqu⟩ := hdone
      have hpath := hmid.path
      rw [HWS.out] at hpath
      have hat4 := hmid.at_ hat
      have hok4 := hmid.ok
      have hbel4 := HBEL.out.trans (hmid.keep.below hbz (by simp; omega))
      have htr0 := hmid.tr0
      have htr1 := hmid.tr1
      have hown := hmid.own
      clear hmid hat hok hbel hws hin
      by_cases ht : (j : Int) < count ∧ (k : Int) = 3 + gap * j
      · obtain ⟨e1, e2⟩ := due_one' g2 hpath hqu ht.1 ht.2
        obtain ⟨y, rfl⟩ : ∃ y, out = [y] := List.length_eq_one_iff.1 (by have := congrArg List.length e1; simpa using this)
        have ey : y.1 = ⟨v, gr, []⟩ := by simpa using e1
        obtain ⟨A1, cc, hv, hrd⟩ := own_form hown
        have hv' : vv = .slice A1 1 cc := hv
        subst hv'
        obtain ⟨bb, oo, rfl, q0, q1⟩ := cells_one (n := 1) (c := cc) (g := g) hrd
        rw [ey] at q0 q1
        obtain ⟨k3, km, kd⟩ := InC.is_ (count := count) g2 ht.2
        have hkd : ((k : Int) - 3) / gap < count := by rw [kd]; exact ht.1
        have HIN2 := Lib.hid (HIN.out.told g2 ht.1 ht.2)
        have HR := Lib.hid (show RelC w w4 g gw bw bm ⟨v, gr, []⟩ count gap (j + 1) (k + 1) from ⟨tr, Lp, hat4, e2, hok4, by omega, by simp only [List.length_singleton] at htr1; omega, by have := HIN2.out; simpa using this, hbel4⟩)
        clear ht hpath hqu e1 e2 hat4 hok4 hbel4 htr0 htr1 hown hrd hv ey kd
        go_wp2
        exact ⟨⟨k + 1, j + 1, by omega, by go_num, by go_num, HR.out⟩, by simp [intOf]; omega⟩
      · obtain ⟨e1, e2⟩ := due_none' hpath hqu (fun h => by have := HIN.out.nx h; have : (k : Int) ≠ 3 + gap * j := fun e => ht ⟨h, e⟩; omega)
        have e3 : out = [] := by simpa using e1
        subst e3
        obtain ⟨A1, cc, hv, _⟩ := own_form hown
        have hv' : vv = .slice A1 0 cc := hv
        subst hv'
        have HR := Lib.hid (show RelC w w4 g gw bw bm ⟨v, gr, []⟩ count gap j (k + 1) from ⟨tr, Lp, hat4, e2, hok4, by omega, by simp only [List.length_nil] at htr1; omega, by have := HIN.out.not ht; simpa using this, hbel4⟩)
        have HT := Lib.hid ht
        clear ht hpath hqu e1 e2 hat4 hok4 hbel4 htr0 htr1 hown hv
        by_cases k3 : (3 : Int) ≤ (k : Int)
        · by_cases km : ((k : Int) - 3) % gap = 0
          · have kd : ¬ ((k : Int) - 3) / gap < count := fun h => HT.out (HIN.out.want g2 k3 km h)
            go_wp2
            exact ⟨⟨k + 1, j, by omega, by go_num, rfl, HR.out⟩, by simp [intOf]; omega⟩
          · go_wp2
            exact ⟨⟨k + 1, j, by omega, by go_num, rfl, HR.out⟩, by simp [intOf]; omega⟩
        · go_wp2
          exact ⟨⟨k + 1, j, by omega, by go_num, rfl, HR.out⟩, by simp [intOf]; omega⟩
    · have e : k = 400 := by omega
      subst e
      have hj : (j : Int) = count := HIN.out.end_ g1 ⟨g2, by omega⟩
      have hw0 : ws = [] := by
        have := congrArg List.length hws
        unfold stC at this
        rw [if_neg (by omega)] at this
        simpa using this
      subst hw0
      have hlen := Lib.hid (len_ wr g gw bw bm count gap _ _ _ _ hat)
      subst hj
      clear hlt hat hok hws hin hbel
      go_wp2_with fail
      refine hlen.out.mono ?_
      rintro e w5 ⟨rfl, rfl⟩
      go_wp2_with fail
      refine (Q.live_ _).mono ?_
      rintro e w6 ⟨rfl, b6⟩
      go_wp2
      go_ret
      exact ⟨rfl, HBEL.out.trans (b6.mono HBEL.out.size)⟩
theorem counts_law (count gap v : Int) (gr : ByteArray) (w : World) :
    Calls Tryd.prog 7 #[.agg #[.int .i64 count, .int .i64 gap, .int .i64 v, .string gr]] w fun e w' => e = .returned (.bool true) ∧ Below w.heap.size w w' := by
  by_cases h : Q.inB count 1 7 = true ∧ Q.inB gap 1 1000 = true
  · by_cases h50 : 50 < gap
    · exact counts_not count gap v gr w (.inr ⟨h, h50⟩)
    · exact counts_yes count gap v gr w h h50
  · exact counts_not count gap v gr w (.inl h)
end AskL
end Go.Proofs.YtdpppljobikjhaaDoor
