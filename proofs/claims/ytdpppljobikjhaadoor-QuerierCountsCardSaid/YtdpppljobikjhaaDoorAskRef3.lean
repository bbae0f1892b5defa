/-
  The document's questions that wait: the walk of Due.
-/
import Derived.Test.YtdpppljobikjhaaDoorAskRef2
import Derived.Deep.DeepCutAuto
namespace Go.Proofs.YtdpppljobikjhaaDoor
set_option linter.unusedVariables false
set_option linter.unusedSimpArgs false
open Go.RowKit Go.Maps
namespace AskR
open Go.Proofs.YtdpppljobikjhaaDoor.Ask
def OkD (x : Dw) : Prop := (1 ≤ x.left ∧ x.left ≤ 7) ∧ 0 ≤ x.at_ ∧ x.at_ ≤ 200000
/-- what stands behind some tellings -/
structure RMid (w wr : World) (q : Nat) (count gap : Int) (L : List Dw) (now : Int) (B : Nat) (v : Value) (out L' : List Dw) : Prop where
  path : Path gap now (out.map fun x => x.q) (L.map dd) (L'.map dd)
  at_ : RAt wr q count gap L'
  low : ∀ x ∈ L', Low w B x
  lowO : ∀ x ∈ out, Low w B x
  ok : ∀ x ∈ L', OkD x
  len : L'.length ≤ L.length
  own : wr.ownsRow w.heap.size 48 3 v out.length (out.flatMap c3)
  safe : Safe q w wr
theorem left_dd {L : List Dw} (h : ∀ x ∈ L, OkD x) : ∀ y ∈ L.map dd, 1 ≤ y.left := fun y hy => by
  obtain ⟨z, hz, rfl⟩ := List.mem_map.1 hy
  exact (h z hz).1.1
theorem load_dd {L : List Dw} (h : ∀ x ∈ L, OkD x) : Go.Proofs.YtdpppljobikjhaaDoor.Ask.load (L.map dd) ≤ 7 * L.length := by
  induction L with
  | nil => simp [Go.Proofs.YtdpppljobikjhaaDoor.Ask.load]
  | cons a r ih =>
    have h1 := (h a (by simp)).1
    have h2 := ih (fun x hx => h x (by simp [hx]))
    simp only [Go.Proofs.YtdpppljobikjhaaDoor.Ask.load, List.map_cons, List.sum_cons, List.length_cons] at h2 ⊢
    have e : (dd a).left = a.left := rfl
    rw [e]
    omega
theorem RMid.small {w wr : World} {q : Nat} {count gap : Int} {L : List Dw} {now : Int} {B : Nat} {v : Value} {out L' : List Dw} (h : RMid w wr q count gap L now B v out L') (hok : ∀ x ∈ L, OkD x) (hl : L.length ≤ 200) : out.length ≤ 1400 ∧ Go.Proofs.YtdpppljobikjhaaDoor.Ask.load (L'.map dd) + out.length = Go.Proofs.YtdpppljobikjhaaDoor.Ask.load (L.map dd) := by
  have h1 := (h.path.load (left_dd hok)).1
  have h2 := load_dd hok
  rw [List.length_map] at h1
  exact ⟨by omega, h1⟩
theorem RMid.drew_eq {w wr w1 : World} {q : Nat} {count gap : Int} {L : List Dw} {now : Int} {B : Nat} {v : Value} {out L' : List Dw} (h : RMid w wr q count gap L now B v out L') {n : Nat} (hw : w1 = wr.drewN n) : RMid w w1 q count gap L now B v out L' := by
  subst hw
  exact ⟨h.path, h.at_.drewN _, h.low, h.lowO, h.ok, h.len, h.own, h.safe.drewN _⟩
theorem Reads_take {w : World} {B n : Nat} {A : Option Addr} {ts : List Dw} (h : Reads w B 5 A n (ts.flatMap c5)) {j : Nat} (hj : j ≤ n) (hl : ts.length = n) : Reads w B 5 A j ((ts.take j).flatMap c5) := by
  refine ⟨by rw [flat_len c5 5 len5, List.length_take]; congr 1; omega, fun h0 => ?_⟩
  obtain ⟨ad, e, hb, hc⟩ := h.2 (by omega)
  refine ⟨ad, e, hb, fun i u hu => hc i u ?_⟩
  rw [← List.take_append_drop j ts, List.flatMap_append, List.getElem?_append_left (List.getElem?_eq_some_iff.1 hu).1]
  exact hu
theorem Reads_drop {w : World} {B n c : Nat} {A : Option Addr} {ts : List Dw} (h : Reads w B 5 A n (ts.flatMap c5)) {j : Nat} (hj : j ≤ n) (hc : n ≤ c) (hl : ts.length = n) : Reads w B 5 (if c = j then A else A.map (·.add (j * 5))) (n - j) ((ts.drop j).flatMap c5) := by
  have h1 := h.cut hj hc
  have e : (ts.flatMap c5).drop (j * 5) = (ts.drop j).flatMap c5 := by
    have e1 : ts.flatMap c5 = (ts.take j).flatMap c5 ++ (ts.drop j).flatMap c5 := by rw [← List.flatMap_append, List.take_append_drop]
    have e2 : ((ts.take j).flatMap c5).length = j * 5 := by rw [flat_len c5 5 len5, List.length_take]; congr 1; omega
    rw [e1, ← e2, List.drop_left]
  rw [e] at h1
  exact h1
theorem add0 (g n : Nat) : (some (⟨g, 0, none⟩ : Addr)).map (·.add n) = some ⟨g, n, none⟩ := by
  simp only [Option.map_some, Addr.add]
  split
  · rename_i h; rw [h]
  · rw [Nat.zero_add]
theorem cut_map (L : List Dw) (i : Nat) : (cut L i).map dd = cut (L.map dd) i := by
  unfold cut
  rw [List.map_append, List.map_take, List.map_drop]
theorem cut_len {L : List Dw} {i : Nat} (h : i < L.length) : i + (L.length - (i + 1)) = (cut L i).length := by
  unfold cut
  rw [List.length_append, List.length_take, List.length_drop]
  omega
theorem cut_mem {L : List Dw} {i : Nat} {y : Dw} (h : y ∈ cut L i) : y ∈ L := by
  rcases List.mem_append.1 h with h | h
  · exact List.mem_of_mem_take h
  · exact List.mem_of_mem_drop h
theorem new_ne {v : Value} {n t : Nat} (h : v.ownBlock = (Value.slice none 0 0).ownBlock ∨ v.ownBlock = some n) (ht : t < n) : some t ≠ v.ownBlock := fun e => by
  rcases h with h | h
  · rw [h] at e; simp [Value.ownBlock] at e
  · rw [h] at e; injection e with e; omega
theorem new_from {v : Value} {n : Nat} (h : v.ownBlock = (Value.slice none 0 0).ownBlock ∨ v.ownBlock = some n) : ∀ g, v.ownBlock = some g → n ≤ g := fun g hg => by
  rcases h with h | h
  · rw [h] at hg; simp [Value.ownBlock] at hg
  · rw [h] at hg; injection hg with hg; omega
theorem RMid.told {w w1 w9 : World} {q : Nat} {count gap : Int} {L : List Dw} {now : Int} {B : Nat} {v v9 : Value} {out L' : List Dw} (h : RMid w w1 q count gap L now B v out L') {i : Nat} {x : Dw} (hb : BestIs (L'.map dd) L'.length i) (hx : L'[i]? = some x) (hn : ¬ now < x.at_) (hnow : now ≤ 100000) (hgap : 1 ≤ gap ∧ gap ≤ 1000)
    {L2 : List Dw} (hL2 : L2 = if 1 < x.left then cut L' i ++ [⟨x.q, x.A, x.n, x.c, x.at_ + gap, x.left - 1⟩] else cut L' i) (hat : RAt w9 q count gap L2) (hown : w9.ownsRow w.heap.size 48 3 v9 (out.length + 1) (out.flatMap c3 ++ c3 x)) (hs : Safe q w w9) : RMid w w9 q count gap L now B v9 (out ++ [x]) L2 := by
  have hxm := List.mem_of_getElem? hx
  have hi := (List.getElem?_eq_some_iff.1 hx).1
  obtain ⟨o1, o2, o3⟩ := h.ok x hxm
  have hlen := cut_len hi
  have hb' : BestIs (L'.map dd) (L'.map dd).length i := by rw [List.length_map]; exact hb
  have hx' : (L'.map dd)[i]? = some (dd x) := by rw [List.getElem?_map, hx]; rfl
  have hp := h.path.snoc hb' hx' (show x.at_ ≤ now by omega)
  have he : next gap (L'.map dd) i (dd x) = L2.map dd := by
    unfold next
    rw [hL2, ← cut_map]
    by_cases h1 : 1 < x.left
    · rw [if_pos (show 1 < (dd x).left from h1), if_pos h1, List.map_append]
      rfl
    · rw [if_neg (show ¬ 1 < (dd x).left from h1), if_neg h1]
  have hm2 : ∀ y ∈ L2, (y ∈ L' ∨ y = ⟨x.q, x.A, x.n, x.c, x.at_ + gap, x.left - 1⟩ ∧ 1 < x.left) := by
    intro y hy
    rw [hL2] at hy
    split at hy
    · rcases List.mem_append.1 hy with hy | hy
      · exact Or.inl (cut_mem hy)
      · simp at hy
        exact Or.inr ⟨hy, by assumption⟩
    · exact Or.inl (cut_mem hy)
  refine ⟨?_, hat, fun y hy => ?_, fun y hy => ?_, fun y hy => ?_, ?_, ?_, hs⟩
  · rw [List.map_append, ← he]
    exact hp
  · rcases hm2 y hy with h2 | ⟨rfl, _⟩
    · exact h.low y h2
    · exact h.low x hxm
  · rcases List.mem_append.1 hy with h2 | h2
    · exact h.lowO y h2
    · simp at h2
      rw [h2]
      exact h.low x hxm
  · rcases hm2 y hy with h2 | ⟨rfl, h1⟩
    · exact h.ok y h2
    · exact ⟨⟨by show 1 ≤ x.left - 1; omega, by show x.left - 1 ≤ 7; omega⟩, by show 0 ≤ x.at_ + gap; omega, by show x.at_ + gap ≤ 200000; omega⟩
  · have := h.len
    rw [hL2]
    split
    · rw [List.length_append, List.length_singleton]; omega
    · omega
  · rw [List.length_append, List.flatMap_append]
    simpa using hown
theorem RMid.loads {w w1 w9 : World} {q : Nat} {count gap : Int} {L : List Dw} {now : Int} {B : Nat} {v v9 : Value} {x : Dw} {out L' L2 : List Dw} (h : RMid w w1 q count gap L now B v out L') (h2 : RMid w w9 q count gap L now B v9 (out ++ [x]) L2) (hok : ∀ x ∈ L, OkD x) (hl : L.length ≤ 200) : Go.Proofs.YtdpppljobikjhaaDoor.Ask.load (L2.map dd) < Go.Proofs.YtdpppljobikjhaaDoor.Ask.load (L'.map dd) := by
  have h3 := (h.small hok hl).2
  have h4 := (h2.small hok hl).2
  rw [List.length_append, List.length_singleton] at h4
  omega
/-- behind the taking out of one: its copy lies in a block t -/
structure Out1 (w w3 : World) (q t : Nat) (count gap : Int) (L1 : List Dw) (x : Dw) (v : Value) (out : List Dw) : Prop where
  at_ : ∃ v2, Blk w3 q 45 #[.int .i64 count, .int .i64 gap, v2] ∧ w3.ownsRow (q + 1) 81 5 v2 L1.length (L1.flatMap c5) ∧ some t ≠ v2.ownBlock
  box : Blk w3 t 81 (c5 x).toArray
  own : w3.ownsRow w.heap.size 48 3 v out.length (out.flatMap c3)
  safe : Safe q w w3
set_option maxHeartbeats 8000000 in
set_option maxRecDepth 20000 in
theorem rdue_ (w : World) (q : Nat) (count gap : Int) (L : List Dw) (B : Nat) (h : RAt w q count gap L) (hB : B ≤ q) (hlow : ∀ x ∈ L, Low w B x) (hok : ∀ x ∈ L, OkD x) (hgap : 1 ≤ gap ∧ gap ≤ 1000) (hl : L.length ≤ 200) (now : Int) (hnow : now ≤ 100000) :
    Calls Tryd.prog 18 #[.pointer (some ⟨q, 0, none⟩), .int .i64 now] w fun e w' => ∃ out L' v, e = .returned v ∧ RMid w w' q count gap L now B v out L' ∧ Quiet now (L'.map dd) := by
  have hq0 := h.lt
  obtain ⟨i0, hi, hz0, hz1, hz2⟩ := info_parts info5
  obtain ⟨i3, hj, hy0, hy1, hy2⟩ := info_parts info3
  have HA := Lib.hid h
  have HLOW := Lib.hid hlow
  have HOK := Lib.hid hok
  clear h hlow hok
  go_enter Tryd.func18, Tryd.ntmps18
  go_wp2
  go_loopg [5] (Go.Proofs.YtdpppljobikjhaaDoor.Ask.load (L.map dd)) (fun k v wr => ∃ out L', RMid w wr q count gap L now B v out L' ∧ Go.Proofs.YtdpppljobikjhaaDoor.Ask.load (L'.map dd) = k)
  case atStart => exact ⟨[], L, ⟨rfl, HA.out, HLOW.out, by simp, HOK.out, Nat.le_refl _, ⟨by simp, .inl ⟨rfl, rfl⟩⟩, Safe.refl _ _⟩, rfl⟩
  case round =>
    obtain ⟨out, L', hmid, hload⟩ := hrel
    have HM := Lib.hid hmid
    have HLD := Lib.hid hload
    obtain ⟨hsm, _⟩ := hmid.small HOK.out hl
    have hll := hmid.len
    have hwz := hmid.safe.size
    have hfi := first_ wr q count gap L' hmid.at_ (by omega)
    clear hmid hload
    go_wp2_with fail
    refine hfi.mono ?_
    rintro e w1 ⟨⟨b, hfb, rfl⟩, n1, hw1⟩
    have HM1 := Lib.hid (HM.out.drew_eq hw1)
    have hwz1 := HM1.out.safe.size
    clear hfi hw1
    rcases hfb with ⟨h0, rfl⟩ | ⟨i, rfl, hbest⟩
    · have H0 := Lib.hid h0
      clear h0
      go_wp2
      go_ret
      refine ⟨out, L', _, rfl, HM1.out, ?_⟩
      obtain rfl : L' = [] := List.eq_nil_of_length_eq_zero H0.out
      exact fun x hx => absurd hx (by simp)
    · obtain ⟨x', hx, hil, _, hle⟩ := id hbest
      rw [List.getElem?_map] at hx
      obtain ⟨x, hxl, rfl⟩ := Option.map_eq_some_iff.1 hx
      obtain ⟨v0, hblk, hown⟩ := HM1.out.at_
      obtain ⟨gq, cap, rfl, _, hcap, hcm, hrow⟩ := Row.of_own hown (by omega)
      have c2 : w1.cell? ⟨q, 2, none⟩ = some (.slice (some ⟨gq, 0, none⟩) L'.length cap) := hblk.cell 2
      have d0 : w1.cell? ⟨gq, i * 5, none⟩ = some (.int .i64 x.q.v) := hrow.at_ len5 hxl (j := 0) (by omega) rfl
      have d1 : w1.cell? ⟨gq, i * 5 + 1, none⟩ = some (.string x.q.g) := hrow.at_ len5 hxl (j := 1) (by omega) rfl
      have d2 : w1.cell? ⟨gq, i * 5 + 2, none⟩ = some (.slice x.A x.n x.c) := hrow.at_ len5 hxl (j := 2) (by omega) rfl
      have d3 : w1.cell? ⟨gq, i * 5 + 3, none⟩ = some (.int .i64 x.at_) := hrow.at_ len5 hxl (j := 3) (by omega) rfl
      have d4 : w1.cell? ⟨gq, i * 5 + 4, none⟩ = some (.int .i64 x.left) := hrow.at_ len5 hxl (j := 4) (by omega) rfl
      have hi0 : ¬ (i : Int) < 0 := by omega
      have hil' : (i : Int) < (L'.length : Int) := by omega
      have hrd := Reads.of_own hown
      have hqw := hblk.lt
      have hgw := hrow.lt
      have HBEST := Lib.hid hbest
      have HXL := Lib.hid hxl
      have HLE := Lib.hid hle
      have HBLK := Lib.hid hblk
      clear hbest hx hxl hle hrow hblk hown
      by_cases hlate : now < x.at_
      · clear d0 d1 d2 d4 hrd
        go_wp2
        go_ret
        refine ⟨out, L', _, rfl, HM1.out, fun y hy => ?_⟩
        have h2 := HLE.out y (by rw [List.take_of_length_le (by simp)]; exact hy)
        have h3 : x.at_ ≤ y.at_ := h2
        omega
      · have hrt := Reads_take hrd (show i ≤ L'.length by omega) rfl
        have hrdp := Reads_drop hrd (show i + 1 ≤ L'.length by omega) hcap rfl
        have hjc : i ≤ cap := by omega
        have hjc' : (i : Int) ≤ (cap : Int) := by omega
        have hjc2 : (i : Int) + 1 ≤ (cap : Int) := by omega
        have hjc3 : i + 1 ≤ cap := by omega
        have HLEN := Lib.hid (cut_len hil)
        have hB1 := HBLK.out.alloc (.cells #[.int .i64 x.q.v, .string x.q.g, .slice x.A x.n x.c, .int .i64 x.at_, .int .i64 x.left] 81)
        have hT1 := Blk.new w1 81 #[.int .i64 x.q.v, .string x.q.g, .slice x.A x.n x.c, .int .i64 x.at_, .int .i64 x.left]
        have hO1 : (w1.alloc (.cells #[.int .i64 x.q.v, .string x.q.g, .slice x.A x.n x.c, .int .i64 x.at_, .int .i64 x.left] 81)).ownsRow w.heap.size 48 3 u5 out.length (out.flatMap c3) := HM1.out.own.alloc _
        have hS1 := HM1.out.safe.alloc (Nat.le_of_lt hqw) (.cells #[.int .i64 x.q.v, .string x.q.g, .slice x.A x.n x.c, .int .i64 x.at_, .int .i64 x.left] 81)
        have hzz : w1.heap.size < (w1.alloc (.cells #[.int .i64 x.q.v, .string x.q.g, .slice x.A x.n x.c, .int .i64 x.at_, .int .i64 x.left] 81)).heap.size := by simp
        have HRT0 := Lib.hid ((hrt.alloc (Nat.le_refl _) (.cells #[.int .i64 x.q.v, .string x.q.g, .slice x.A x.n x.c, .int .i64 x.at_, .int .i64 x.left] 81)).more (Nat.le_of_lt hzz))
        have HRD0 := Lib.hid ((hrdp.alloc (Nat.le_refl _) (.cells #[.int .i64 x.q.v, .string x.q.g, .slice x.A x.n x.c, .int .i64 x.at_, .int .i64 x.left] 81)).more (Nat.le_of_lt hzz))
        clear hrd hrt hrdp
        go_upto_region 7 with fail
        generalize w1.alloc (.cells #[.int .i64 x.q.v, .string x.q.g, .slice x.A x.n x.c, .int .i64 x.at_, .int .i64 x.left] 81) = W1 at *
        have HB1 := Lib.hid hB1
        have HT1 := Lib.hid hT1
        have HO1 := Lib.hid hO1
        have HS1 := Lib.hid hS1
        have c2' : W1.cell? ⟨q, 2, none⟩ = some (.slice (some ⟨gq, 0, none⟩) L'.length cap) := hB1.cell 2
        obtain ⟨hxl0, hxa0⟩ := HM1.out.ok x (List.mem_of_getElem? HXL.out)
        have ht1 : w1.heap.size < W1.heap.size := hzz
        clear hB1 hT1 hO1 hS1 c2 d0 d1 d2 d3 d4
        generalize ht : w1.heap.size = t at *
        have htq : q < t := by omega
        clear ht
        by_cases hcj : cap = i + 1
        · have HRT := HRT0
          have hm0 : L'.length - (i + 1) = 0 := by omega
          have HRD : Hid (Reads W1 W1.heap.size 5 (some ⟨gq, 0, none⟩) 0 ((L'.drop (i + 1)).flatMap c5)) := Lib.hid (by have h := HRD0.out; rw [if_pos hcj, hm0] at h; exact h)
          have HLEN : Hid (i + 0 = (cut L' i).length) := Lib.hid (by have h := HLEN.out; rw [hm0] at h; exact h)
          clear hm0 HRD0
          subst hcj
          have hsm2 : i + 0 + 1 ≤ 201 := by omega
          go_upto_region 9 with (first
            | (at_builtin; refine wpList_append_any _ rfl (.tmp 33) (.tmp 39) 43 rfl (q + 1) 81 i0 _ 5 64 Tryd.underlying43 hi hz0 hz1 hz2 rfl (by omega) (.slice none 0 0) 0 [] rfl ⟨rfl, .inl ⟨rfl, rfl⟩⟩ W1.heap.size _ i _ _ rfl HRT.out (one5s _) (by unfold maxLen; omega) (by omega) (by omega) ?_; intro v1 w2 hown1 hg1 hnew1; rw [Nat.zero_add, List.nil_append] at hown1; have HB2 := Lib.hid (HB1.out.grown hg1 (by simp [Value.ownBlock])); have e2 : w2.cell? ⟨q, 2, none⟩ = _ := HB2.out.cell 2; have HT2 := Lib.hid (HT1.out.grown hg1 (by simp [Value.ownBlock])); have HR2 := Lib.hid (HRD.out.grown hg1 (Nat.le_refl _) (by simp [Value.ownBlock])); have HO2 := Lib.hid (HO1.out.kept hg1 (show u5.ownBlock = none ∨ u5.ownBlock ≠ none from Classical.em _)); have HS2 := Lib.hid (HS1.out.grown (base := q + 1) (n := 0) (v := .slice none 0 0) (xs := []) ⟨rfl, .inl ⟨rfl, rfl⟩⟩ (Nat.le_succ _) (by omega) hg1); have HN2 := Lib.hid (new_ne (t := t) hnew1 ht1); have HF2 := Lib.hid (new_from hnew1); have z2 := hg1.size; clear hg1 hnew1)
            | (at_builtin; refine wpList_append_any _ rfl (.tmp 42) (.tmp 49) 43 rfl (q + 1) 81 i0 _ 5 64 Tryd.underlying43 hi hz0 hz1 hz2 rfl (by omega) v1 i _ rfl hown1 W1.heap.size _ 0 _ _ rfl HR2.out (one5s _) (by unfold maxLen; omega) (by omega) (by omega) ?_; intro v2 w3 hown2 hg2 hnew2; have HB3 := Lib.hid (HB2.out.grown hg2 (fun e => own_ne hown1 (Nat.lt_succ_self q) e.symm)); have e3 : w3.cell? ⟨q, 2, none⟩ = _ := HB3.out.cell 2; have f3 := HB3.out.frozen 2; have HT3 := Lib.hid (HT2.out.grown hg2 HN2.out); have HO3 := Lib.hid (HO2.out.kept hg2 (own_apart HO2.out hown1 (by decide))); have HS3 := Lib.hid (HS2.out.grown hown1 (Nat.le_succ _) (by omega) hg2); have HN3 : Hid (some t ≠ v2.ownBlock) := Lib.hid (by rcases hnew2 with h | h; (rw [h]; exact HN2.out); (rw [h]; intro e; injection e with e; omega)); obtain ⟨A3, c3', rfl, _⟩ := own_form hown2; have w3z := hg2.size; clear hg2 hnew2)
            | go_in)
          have HB4 := Lib.hid (HB3.out.set_ 2 (.slice A3 (i + 0) c3'))
          have HR4 := Lib.hid (ownsRow_setCell_other hown2 (a := ⟨q, 2, none⟩) (own_ne hown2 (Nat.lt_succ_self q)) (.slice A3 (i + 0) c3'))
          have HT4 := Lib.hid (HT3.out.far (p := ⟨q, 2, none⟩) (show t ≠ q by omega) (.slice A3 (i + 0) c3'))
          have HO4 := Lib.hid (ownsRow_setCell_other HO3.out (a := ⟨q, 2, none⟩) (own_ne HO3.out (show q < w.heap.size by omega)) (.slice A3 (i + 0) c3'))
          have HS4 := Lib.hid (HS3.out.set_ 2 (.slice A3 (i + 0) c3'))
          have z3 : W1.heap.size ≤ (w3.setCell ⟨q, 2, none⟩ (.slice A3 (i + 0) c3')).heap.size := by simp only [World.setCell, Array.size_modify]; omega
          clear hown2 e3 f3
          generalize w3.setCell ⟨q, 2, none⟩ (.slice A3 (i + 0) c3') = W3 at *
          have hfrom : ∀ g, u5.ownBlock = some g → w.heap.size ≤ g := own_from HO4.out
          have g0 : W3.cell? ⟨t, 0, none⟩ = some (.int .i64 x.q.v) := HT4.out.cell 0
          have g1 : W3.cell? ⟨t, 1, none⟩ = some (.string x.q.g) := HT4.out.cell 1
          have g2 : W3.cell? ⟨t, 2, none⟩ = some (.slice x.A x.n x.c) := HT4.out.cell 2
          have q3 : out.length + 1 ≤ maxLen := by unfold maxLen; omega
          have q4 : (out.length + 1) * 48 ≤ 140737488355328 := by omega
          have hwr : IntKind.i64.wrap (x.left - 1) = x.left - 1 := IntWalk.i64_in _ (by omega)
          go_wp2_with (first
            | (at_builtin; refine wpList_append_own _ rfl (.tmp 53) (.tmp 56) 57 rfl w.heap.size 48 i3 _ 3 48 Tryd.underlying57 hj hy0 hy1 hy2 rfl (by omega) u5 out.length _ rfl (HO4.out.alloc _) ⟨W3.heap.size, 0, none⟩ 1 1 (c3 x) rfl rfl (new_cells' _ (c3 x) 48 _ (by simp)) (one3 x) q3 q4 (by simp; omega) ?_; intro v4 w4 hown4 hg4 _; have HB5 := Lib.hid ((HB4.out.alloc (.cells (c3 x).toArray 48)).grown hg4 (fun e => by have := hfrom _ e.symm; omega)); have HR5 := Lib.hid (((HR4.out.alloc (.cells (c3 x).toArray 48)).kept hg4 (own_apart (HR4.out.alloc (.cells (c3 x).toArray 48)) (HO4.out.alloc (.cells (c3 x).toArray 48)) (by decide)))); have HT5 := Lib.hid ((HT4.out.alloc (.cells (c3 x).toArray 48)).grown hg4 (fun e => own_blk_ne (HO4.out.alloc (.cells (c3 x).toArray 48)) (HT4.out.alloc (.cells (c3 x).toArray 48)) (by decide) e.symm)); have HS5 := Lib.hid ((HS4.out.alloc (by omega) (.cells (c3 x).toArray 48)).grownN hfrom (by omega) hg4); have z5 : W3.heap.size < w4.heap.size := Nat.lt_of_lt_of_le (by simp) hg4.size; have HO5 := Lib.hid hown4; have g4 : w4.cell? ⟨t, 4, none⟩ = some (.int .i64 x.left) := HT5.out.cell 4; have fg4 := HT5.out.frozen 4; clear hg4 hown4)
            | go_in)
          have hb6 := HB5.out.far (p := ⟨t, 4, none⟩) (show q ≠ t by omega) (.int .i64 (x.left - 1))
          have hr6 := ownsRow_setCell_other HR5.out (a := ⟨t, 4, none⟩) (Ne.symm HN3.out) (.int .i64 (x.left - 1))
          have ht6 := HT5.out.set_ 4 (.int .i64 (x.left - 1))
          have ho6 := ownsRow_setCell_other HO5.out (a := ⟨t, 4, none⟩) (own_blk_ne HO5.out HT5.out (by decide)) (.int .i64 (x.left - 1))
          have hs6 := HS5.out.setN (p := ⟨t, 4, none⟩) (show w.heap.size ≤ t by omega) (Nat.le_of_lt hq0) (.int .i64 (x.left - 1))
          clear g0 g1 g2 g4 fg4
          have z6 : W3.heap.size < (w4.setCell ⟨t, 4, none⟩ (.int .i64 (x.left - 1))).heap.size := by simp only [World.setCell, Array.size_modify]; omega
          generalize w4.setCell ⟨t, 4, none⟩ (.int .i64 (x.left - 1)) = W5 at *
          have k3 : W5.cell? ⟨t, 3, none⟩ = some (.int .i64 x.at_) := ht6.cell 3
          have k4 : W5.cell? ⟨t, 4, none⟩ = some (.int .i64 (x.left - 1)) := ht6.cell 4
          have kg : W5.cell? ⟨q, 1, none⟩ = some (.int .i64 gap) := hb6.cell 1
          have fk3 := ht6.frozen 3
          have hqW := hb6.lt
          have htW := ht6.lt
          have hwr2 : IntKind.i64.wrap (x.at_ + gap) = x.at_ + gap := IntWalk.i64_in _ (by omega)
          have hb7 := (hb6.drewN 1).far (p := ⟨t, 3, none⟩) (show q ≠ t by omega) (.int .i64 (x.at_ + gap))
          have hr7 : ((W5.drewN 1).setCell ⟨t, 3, none⟩ (.int .i64 (x.at_ + gap))).ownsRow (q + 1) 81 5 (.slice A3 (i + 0) c3') _ _ := ownsRow_setCell_other (w := W5.drewN 1) hr6 (a := ⟨t, 3, none⟩) (Ne.symm HN3.out) (.int .i64 (x.at_ + gap))
          have ht7 := (ht6.drewN 1).set_ 3 (.int .i64 (x.at_ + gap))
          have ho7 : ((W5.drewN 1).setCell ⟨t, 3, none⟩ (.int .i64 (x.at_ + gap))).ownsRow w.heap.size 48 3 v4 _ _ := ownsRow_setCell_other (w := W5.drewN 1) ho6 (a := ⟨t, 3, none⟩) (own_blk_ne ho6 ht6 (by decide)) (.int .i64 (x.at_ + gap))
          have hs7 := (hs6.drewN 1).setN (p := ⟨t, 3, none⟩) (show w.heap.size ≤ t by omega) (Nat.le_of_lt hq0) (.int .i64 (x.at_ + gap))
          have HB7 := Lib.hid hb7
          have HR7 := Lib.hid hr7
          have HT7 := Lib.hid ht7
          have HO7 := Lib.hid ho7
          have HS7 := Lib.hid hs7
          clear hb6 hr6 ht6 ho6 hs6 hb7 hr7 ht7 ho7 hs7
          refine region_tail 8 (by kernel_rfl) (by kernel_rfl) ?_
          simp only [List.take_succ_cons, List.take_zero, List.drop_succ_cons, List.drop_zero]
          refine SW.un ?_
          (refine SW.want (by kernel_rfl) (fun K hK => ?_); have HK := Lib.hid hK; clear hK; go_simp; refine SW.on HK ?_; clear HK K)
          (refine SW.want (by kernel_rfl) (fun K hK => ?_); have HK := Lib.hid hK; clear hK; go_simp; refine SW.on HK ?_; clear HK K)
          (refine SW.want (by kernel_rfl) (fun K hK => ?_); have HK := Lib.hid hK; clear hK; go_simp; refine SW.on HK ?_; clear HK K)
          (refine SW.want (by kernel_rfl) (fun K hK => ?_); have HK := Lib.hid hK; clear hK; go_simp; refine SW.on HK ?_; clear HK K)
          (refine SW.want (by kernel_rfl) (fun K hK => ?_); have HK := Lib.hid hK; clear hK; go_simp; refine SW.on HK ?_; clear HK K)
          (refine SW.want (by kernel_rfl) (fun K hK => ?_); have HK := Lib.hid hK; clear hK; go_simp; refine SW.on HK ?_; clear HK K)
          (refine SW.want (by kernel_rfl) (fun K hK => ?_); have HK := Lib.hid hK; clear hK; go_simp; refine SW.on HK ?_; clear HK K)
          (refine SW.want (by kernel_rfl) (fun K hK => ?_); have HK := Lib.hid hK; clear hK; go_simp; refine SW.on HK ?_; clear HK K)
          refine SW.nil ?_
          clear kg hwr hwr2
          by_cases hone : 1 < x.left
          · have hone' : 0 < x.left - 1 := by omega
            go_wp2_with fail
            have HB8 : Hid (Blk ((W5.setCell ⟨t, 3, none⟩ (.int .i64 (x.at_ + gap))).drew) q 45 #[.int .i64 count, .int .i64 gap, (.slice A3 (i + 0) c3')]) := HB7
            have HR8 : Hid (((W5.setCell ⟨t, 3, none⟩ (.int .i64 (x.at_ + gap))).drew).ownsRow (q + 1) 81 5 (.slice A3 (i + 0) c3') (i + 0) ((L'.take i).flatMap c5 ++ (L'.drop (i + 1)).flatMap c5)) := HR7
            have HT8 : Hid (Blk ((W5.setCell ⟨t, 3, none⟩ (.int .i64 (x.at_ + gap))).drew) t 81 #[.int .i64 x.q.v, .string x.q.g, .slice x.A x.n x.c, .int .i64 (x.at_ + gap), .int .i64 (x.left - 1)]) := HT7
            have HO8 : Hid (((W5.setCell ⟨t, 3, none⟩ (.int .i64 (x.at_ + gap))).drew).ownsRow w.heap.size 48 3 v4 (out.length + 1) (out.flatMap c3 ++ c3 x)) := HO7
            have HS8 : Hid (Safe q w ((W5.setCell ⟨t, 3, none⟩ (.int .i64 (x.at_ + gap))).drew)) := HS7
            clear HB7 HR7 HT7 HO7 HS7
            generalize (W5.setCell ⟨t, 3, none⟩ (.int .i64 (x.at_ + gap))).drew = W7 at *
            have hqW7 := HB8.out.lt
            have j2 : W7.cell? ⟨q, 2, none⟩ = some (.slice A3 (i + 0) c3') := HB8.out.cell 2
            have jf := HB8.out.frozen 2
            have l0 : W7.cell? ⟨t, 0, none⟩ = some (.int .i64 x.q.v) := HT8.out.cell 0
            have l1 : W7.cell? ⟨t, 1, none⟩ = some (.string x.q.g) := HT8.out.cell 1
            have l2 : W7.cell? ⟨t, 2, none⟩ = some (.slice x.A x.n x.c) := HT8.out.cell 2
            have l3 : W7.cell? ⟨t, 3, none⟩ = some (.int .i64 (x.at_ + gap)) := HT8.out.cell 3
            have l4 : W7.cell? ⟨t, 4, none⟩ = some (.int .i64 (x.left - 1)) := HT8.out.cell 4
            have htW7 := HT8.out.lt
            have q5 : i + 0 + 1 ≤ maxLen := Nat.le_trans hsm2 (by decide)
            have q6 : (i + 0 + 1) * 64 ≤ 140737488355328 := Nat.le_trans (Nat.mul_le_mul_right 64 hsm2) (by decide)
            have HNEW := Lib.hid (fun (w9 : World) (hg : ((W7.alloc (.cells #[.int .i64 x.q.v, .string x.q.g, .slice x.A x.n x.c, .int .i64 (x.at_ + gap), .int .i64 (x.left - 1)] 81)).drew).grownBy w9 (Value.slice A3 (i + 0) c3').ownBlock) => (⟨((HB8.out.alloc (.cells #[.int .i64 x.q.v, .string x.q.g, .slice x.A x.n x.c, .int .i64 (x.at_ + gap), .int .i64 (x.left - 1)] 81)).drew).grown hg (fun e => own_ne HR8.out (Nat.lt_succ_self q) e.symm), ((HS8.out.alloc (by omega) (.cells #[.int .i64 x.q.v, .string x.q.g, .slice x.A x.n x.c, .int .i64 (x.at_ + gap), .int .i64 (x.left - 1)] 81)).drewN 1).grown (HR8.out.alloc (.cells #[.int .i64 x.q.v, .string x.q.g, .slice x.A x.n x.c, .int .i64 (x.at_ + gap), .int .i64 (x.left - 1)] 81)) (Nat.le_succ _) (by simp; omega) hg, World.ownsRow.kept (w := (W7.alloc (.cells #[.int .i64 x.q.v, .string x.q.g, .slice x.A x.n x.c, .int .i64 (x.at_ + gap), .int .i64 (x.left - 1)] 81)).drew) (HO8.out.alloc (.cells #[.int .i64 x.q.v, .string x.q.g, .slice x.A x.n x.c, .int .i64 (x.at_ + gap), .int .i64 (x.left - 1)] 81)) hg (own_apart (HO8.out.alloc (.cells #[.int .i64 x.q.v, .string x.q.g, .slice x.A x.n x.c, .int .i64 (x.at_ + gap), .int .i64 (x.left - 1)] 81)) (HR8.out.alloc (.cells #[.int .i64 x.q.v, .string x.q.g, .slice x.A x.n x.c, .int .i64 (x.at_ + gap), .int .i64 (x.left - 1)] 81)) (by decide))⟩ : Blk w9 q 45 #[.int .i64 count, .int .i64 gap, (.slice A3 (i + 0) c3')] ∧ Safe q w w9 ∧ w9.ownsRow w.heap.size 48 3 v4 (out.length + 1) (out.flatMap c3 ++ c3 x)))
            have hb1 : q + 1 ≤ W7.heap.size + 1 := by omega
            have hb2 : ¬ now < x.at_ := by omega
            clear hlate
            try clear k3; try clear k4; try clear fk3; try clear hqW; try clear htW; try clear hfrom; try clear z6; try clear z5; try clear z3; try clear q3; try clear q4; try clear hwr; try clear hwr2; try clear hjc; try clear hjc'; try clear hjc2; try clear hjc3; try clear hil'; try clear hi0; try clear hcap; try clear hcm; try clear hgw; try clear hqw; try clear ht1; try clear hzz; try clear c2'; try clear w3z; try clear z2; try clear hsm; try clear hll; try clear hwz; try clear hwz1; try clear hB; try clear htq; try clear hil; try clear hi3
            go_region_law (first
              | (refine step_append_lies _ (by rfl) _ _ _ (by rfl) (q + 1) 81 i0 _ 5 64 Tryd.underlying43 hi hz0 hz1 hz2 rfl (by omega) _ (i + 0) _ (by rfl) ((HR8.out.alloc _).drew) ⟨W7.heap.size, 0, none⟩ 1 1 (c5 ⟨x.q, x.A, x.n, x.c, x.at_ + gap, x.left - 1⟩) (by rfl) (by rfl) (new_cells W7 (c5 ⟨x.q, x.A, x.n, x.c, x.at_ + gap, x.left - 1⟩) 81) (one5 _) (by omega) q5 q6 (Nat.le_trans hb1 (by show W7.heap.size + 1 ≤ (W7.alloc _).heap.size; simp)) (W7.heap.size + 1) (by simp) ?_; intro gg cap2 w9 hown' hgrow hat9 hlt9; have hb9 := (HNEW.out w9 hgrow).1; have k9 : w9.cell? ⟨q, 2, none⟩ = _ := hb9.cell 2; have f9 := hb9.frozen 2))
            all_goals
              have hro := ownsRow_setCell_other hown' (a := ⟨q, 2, none⟩) (own_ne hown' (Nat.lt_succ_self q)) (.slice (some ⟨gg, 0, none⟩) (i + 0 + 1) cap2)
              have hoo := ownsRow_setCell_other (HNEW.out w9 hgrow).2.2 (a := ⟨q, 2, none⟩) (own_ne (HNEW.out w9 hgrow).2.2 (show q < w.heap.size by omega)) (.slice (some ⟨gg, 0, none⟩) (i + 0 + 1) cap2)
              have hm2 := HM1.out.told HBEST.out HXL.out hb2 hnow hgap (L2 := cut L' i ++ [⟨x.q, x.A, x.n, x.c, x.at_ + gap, x.left - 1⟩]) (by rw [if_pos hone]) ⟨_, (HNEW.out w9 hgrow).1.set_ 2 _, by rw [List.length_append, ← HLEN.out, List.flatMap_append, cut, List.flatMap_append]; simpa using hro⟩ hoo ((HNEW.out w9 hgrow).2.1.set_ 2 _)
              have HM2 := Lib.hid hm2
              have HLT := Lib.hid (by have h := HM1.out.loads hm2 HOK.out hl; rw [HLD.out] at h; exact h)
              clear hm2 hro hoo
              go_wp2
              go_roundg (Go.Proofs.YtdpppljobikjhaaDoor.Ask.load ((cut L' i ++ [(⟨x.q, x.A, x.n, x.c, x.at_ + gap, x.left - 1⟩ : Dw)]).map dd))
              case measure => exact HLT.out
              case rel => exact ⟨out ++ [x], _, HM2.out, rfl⟩
          · have hone' : ¬ 0 < x.left - 1 := by omega
            have hm2 := HM1.out.told HBEST.out HXL.out (by omega) hnow hgap (L2 := cut L' i) (by rw [if_neg hone]) ⟨_, HB7.out, by rw [← HLEN.out]; have h := HR7.out; unfold cut; rw [List.flatMap_append]; exact h⟩ HO7.out HS7.out
            have HM2 := Lib.hid hm2
            have HLT := Lib.hid (by have h := HM1.out.loads hm2 HOK.out hl; rw [HLD.out] at h; exact h)
            clear hm2
            go_wp2
            go_roundg (Go.Proofs.YtdpppljobikjhaaDoor.Ask.load ((cut L' i).map dd))
            case measure => exact HLT.out
            case rel => exact ⟨out ++ [x], cut L' i, HM2.out, rfl⟩
        · have hcj' : ¬ (cap : Int) = (i : Int) + 1 := by omega
          have HRT := HRT0
          have HRD : Hid (Reads W1 W1.heap.size 5 (some ⟨gq, (i + 1) * 5, none⟩) (L'.length - (i + 1)) ((L'.drop (i + 1)).flatMap c5)) := Lib.hid (by have h := HRD0.out; rw [if_neg hcj, add0] at h; exact h)
          have hsm2 : i + (L'.length - (i + 1)) + 1 ≤ 201 := by omega
          go_upto_region 9 with (first
            | (at_builtin; refine wpList_append_any _ rfl (.tmp 33) (.tmp 39) 43 rfl (q + 1) 81 i0 _ 5 64 Tryd.underlying43 hi hz0 hz1 hz2 rfl (by omega) (.slice none 0 0) 0 [] rfl ⟨rfl, .inl ⟨rfl, rfl⟩⟩ W1.heap.size _ i _ _ rfl HRT.out (one5s _) (by unfold maxLen; omega) (by omega) (by omega) ?_; intro v1 w2 hown1 hg1 hnew1; rw [Nat.zero_add, List.nil_append] at hown1; have HB2 := Lib.hid (HB1.out.grown hg1 (by simp [Value.ownBlock])); have e2 : w2.cell? ⟨q, 2, none⟩ = _ := HB2.out.cell 2; have HT2 := Lib.hid (HT1.out.grown hg1 (by simp [Value.ownBlock])); have HR2 := Lib.hid (HRD.out.grown hg1 (Nat.le_refl _) (by simp [Value.ownBlock])); have HO2 := Lib.hid (HO1.out.kept hg1 (show u5.ownBlock = none ∨ u5.ownBlock ≠ none from Classical.em _)); have HS2 := Lib.hid (HS1.out.grown (base := q + 1) (n := 0) (v := .slice none 0 0) (xs := []) ⟨rfl, .inl ⟨rfl, rfl⟩⟩ (Nat.le_succ _) (by omega) hg1); have HN2 := Lib.hid (new_ne (t := t) hnew1 ht1); have HF2 := Lib.hid (new_from hnew1); have z2 := hg1.size; clear hg1 hnew1)
            | (at_builtin; refine wpList_append_any _ rfl (.tmp 42) (.tmp 49) 43 rfl (q + 1) 81 i0 _ 5 64 Tryd.underlying43 hi hz0 hz1 hz2 rfl (by omega) v1 i _ rfl hown1 W1.heap.size _ (L'.length - (i + 1)) _ _ rfl HR2.out (one5s _) (by unfold maxLen; omega) (by omega) (by omega) ?_; intro v2 w3 hown2 hg2 hnew2; have HB3 := Lib.hid (HB2.out.grown hg2 (fun e => own_ne hown1 (Nat.lt_succ_self q) e.symm)); have e3 : w3.cell? ⟨q, 2, none⟩ = _ := HB3.out.cell 2; have f3 := HB3.out.frozen 2; have HT3 := Lib.hid (HT2.out.grown hg2 HN2.out); have HO3 := Lib.hid (HO2.out.kept hg2 (own_apart HO2.out hown1 (by decide))); have HS3 := Lib.hid (HS2.out.grown hown1 (Nat.le_succ _) (by omega) hg2); have HN3 : Hid (some t ≠ v2.ownBlock) := Lib.hid (by rcases hnew2 with h | h; (rw [h]; exact HN2.out); (rw [h]; intro e; injection e with e; omega)); obtain ⟨A3, c3', rfl, _⟩ := own_form hown2; have w3z := hg2.size; clear hg2 hnew2)
            | go_in)
          have HB4 := Lib.hid (HB3.out.set_ 2 (.slice A3 (i + (L'.length - (i + 1))) c3'))
          have HR4 := Lib.hid (ownsRow_setCell_other hown2 (a := ⟨q, 2, none⟩) (own_ne hown2 (Nat.lt_succ_self q)) (.slice A3 (i + (L'.length - (i + 1))) c3'))
          have HT4 := Lib.hid (HT3.out.far (p := ⟨q, 2, none⟩) (show t ≠ q by omega) (.slice A3 (i + (L'.length - (i + 1))) c3'))
          have HO4 := Lib.hid (ownsRow_setCell_other HO3.out (a := ⟨q, 2, none⟩) (own_ne HO3.out (show q < w.heap.size by omega)) (.slice A3 (i + (L'.length - (i + 1))) c3'))
          have HS4 := Lib.hid (HS3.out.set_ 2 (.slice A3 (i + (L'.length - (i + 1))) c3'))
          have z3 : W1.heap.size ≤ (w3.setCell ⟨q, 2, none⟩ (.slice A3 (i + (L'.length - (i + 1))) c3')).heap.size := by simp only [World.setCell, Array.size_modify]; omega
          clear hown2 e3 f3
          generalize w3.setCell ⟨q, 2, none⟩ (.slice A3 (i + (L'.length - (i + 1))) c3') = W3 at *
          have hfrom : ∀ g, u5.ownBlock = some g → w.heap.size ≤ g := own_from HO4.out
          have g0 : W3.cell? ⟨t, 0, none⟩ = some (.int .i64 x.q.v) := HT4.out.cell 0
          have g1 : W3.cell? ⟨t, 1, none⟩ = some (.string x.q.g) := HT4.out.cell 1
          have g2 : W3.cell? ⟨t, 2, none⟩ = some (.slice x.A x.n x.c) := HT4.out.cell 2
          have q3 : out.length + 1 ≤ maxLen := by unfold maxLen; omega
          have q4 : (out.length + 1) * 48 ≤ 140737488355328 := by omega
          have hwr : IntKind.i64.wrap (x.left - 1) = x.left - 1 := IntWalk.i64_in _ (by omega)
          go_wp2_with (first
            | (at_builtin; refine wpList_append_own _ rfl (.tmp 53) (.tmp 56) 57 rfl w.heap.size 48 i3 _ 3 48 Tryd.underlying57 hj hy0 hy1 hy2 rfl (by omega) u5 out.length _ rfl (HO4.out.alloc _) ⟨W3.heap.size, 0, none⟩ 1 1 (c3 x) rfl rfl (new_cells' _ (c3 x) 48 _ (by simp)) (one3 x) q3 q4 (by simp; omega) ?_; intro v4 w4 hown4 hg4 _; have HB5 := Lib.hid ((HB4.out.alloc (.cells (c3 x).toArray 48)).grown hg4 (fun e => by have := hfrom _ e.symm; omega)); have HR5 := Lib.hid (((HR4.out.alloc (.cells (c3 x).toArray 48)).kept hg4 (own_apart (HR4.out.alloc (.cells (c3 x).toArray 48)) (HO4.out.alloc (.cells (c3 x).toArray 48)) (by decide)))); have HT5 := Lib.hid ((HT4.out.alloc (.cells (c3 x).toArray 48)).grown hg4 (fun e => own_blk_ne (HO4.out.alloc (.cells (c3 x).toArray 48)) (HT4.out.alloc (.cells (c3 x).toArray 48)) (by decide) e.symm)); have HS5 := Lib.hid ((HS4.out.alloc (by omega) (.cells (c3 x).toArray 48)).grownN hfrom (by omega) hg4); have z5 : W3.heap.size < w4.heap.size := Nat.lt_of_lt_of_le (by simp) hg4.size; have HO5 := Lib.hid hown4; have g4 : w4.cell? ⟨t, 4, none⟩ = some (.int .i64 x.left) := HT5.out.cell 4; have fg4 := HT5.out.frozen 4; clear hg4 hown4)
            | go_in)
          have hb6 := HB5.out.far (p := ⟨t, 4, none⟩) (show q ≠ t by omega) (.int .i64 (x.left - 1))
          have hr6 := ownsRow_setCell_other HR5.out (a := ⟨t, 4, none⟩) (Ne.symm HN3.out) (.int .i64 (x.left - 1))
          have ht6 := HT5.out.set_ 4 (.int .i64 (x.left - 1))
          have ho6 := ownsRow_setCell_other HO5.out (a := ⟨t, 4, none⟩) (own_blk_ne HO5.out HT5.out (by decide)) (.int .i64 (x.left - 1))
          have hs6 := HS5.out.setN (p := ⟨t, 4, none⟩) (show w.heap.size ≤ t by omega) (Nat.le_of_lt hq0) (.int .i64 (x.left - 1))
          clear g0 g1 g2 g4 fg4
          have z6 : W3.heap.size < (w4.setCell ⟨t, 4, none⟩ (.int .i64 (x.left - 1))).heap.size := by simp only [World.setCell, Array.size_modify]; omega
          generalize w4.setCell ⟨t, 4, none⟩ (.int .i64 (x.left - 1)) = W5 at *
          have k3 : W5.cell? ⟨t, 3, none⟩ = some (.int .i64 x.at_) := ht6.cell 3
          have k4 : W5.cell? ⟨t, 4, none⟩ = some (.int .i64 (x.left - 1)) := ht6.cell 4
          have kg : W5.cell? ⟨q, 1, none⟩ = some (.int .i64 gap) := hb6.cell 1
          have fk3 := ht6.frozen 3
          have hqW := hb6.lt
          have htW := ht6.lt
          have hwr2 : IntKind.i64.wrap (x.at_ + gap) = x.at_ + gap := IntWalk.i64_in _ (by omega)
          have hb7 := (hb6.drewN 1).far (p := ⟨t, 3, none⟩) (show q ≠ t by omega) (.int .i64 (x.at_ + gap))
          have hr7 : ((W5.drewN 1).setCell ⟨t, 3, none⟩ (.int .i64 (x.at_ + gap))).ownsRow (q + 1) 81 5 (.slice A3 (i + (L'.length - (i + 1))) c3') _ _ := ownsRow_setCell_other (w := W5.drewN 1) hr6 (a := ⟨t, 3, none⟩) (Ne.symm HN3.out) (.int .i64 (x.at_ + gap))
          have ht7 := (ht6.drewN 1).set_ 3 (.int .i64 (x.at_ + gap))
          have ho7 : ((W5.drewN 1).setCell ⟨t, 3, none⟩ (.int .i64 (x.at_ + gap))).ownsRow w.heap.size 48 3 v4 _ _ := ownsRow_setCell_other (w := W5.drewN 1) ho6 (a := ⟨t, 3, none⟩) (own_blk_ne ho6 ht6 (by decide)) (.int .i64 (x.at_ + gap))
          have hs7 := (hs6.drewN 1).setN (p := ⟨t, 3, none⟩) (show w.heap.size ≤ t by omega) (Nat.le_of_lt hq0) (.int .i64 (x.at_ + gap))
          have HB7 := Lib.hid hb7
          have HR7 := Lib.hid hr7
          have HT7 := Lib.hid ht7
          have HO7 := Lib.hid ho7
          have HS7 := Lib.hid hs7
          clear hb6 hr6 ht6 ho6 hs6 hb7 hr7 ht7 ho7 hs7
          refine region_tail 8 (by kernel_rfl) (by kernel_rfl) ?_
          simp only [List.take_succ_cons, List.take_zero, List.drop_succ_cons, List.drop_zero]
          refine SW.un ?_
          (refine SW.want (by kernel_rfl) (fun K hK => ?_); have HK := Lib.hid hK; clear hK; go_simp; refine SW.on HK ?_; clear HK K)
          (refine SW.want (by kernel_rfl) (fun K hK => ?_); have HK := Lib.hid hK; clear hK; go_simp; refine SW.on HK ?_; clear HK K)
          (refine SW.want (by kernel_rfl) (fun K hK => ?_); have HK := Lib.hid hK; clear hK; go_simp; refine SW.on HK ?_; clear HK K)
          (refine SW.want (by kernel_rfl) (fun K hK => ?_); have HK := Lib.hid hK; clear hK; go_simp; refine SW.on HK ?_; clear HK K)
          (refine SW.want (by kernel_rfl) (fun K hK => ?_); have HK := Lib.hid hK; clear hK; go_simp; refine SW.on HK ?_; clear HK K)
          (refine SW.want (by kernel_rfl) (fun K hK => ?_); have HK := Lib.hid hK; clear hK; go_simp; refine SW.on HK ?_; clear HK K)
          (refine SW.want (by kernel_rfl) (fun K hK => ?_); have HK := Lib.hid hK; clear hK; go_simp; refine SW.on HK ?_; clear HK K)
          (refine SW.want (by kernel_rfl) (fun K hK => ?_); have HK := Lib.hid hK; clear hK; go_simp; refine SW.on HK ?_; clear HK K)
          refine SW.nil ?_
          clear kg hwr hwr2
          by_cases hone : 1 < x.left
          · have hone' : 0 < x.left - 1 := by omega
            go_wp2_with fail
            have HB8 : Hid (Blk ((W5.setCell ⟨t, 3, none⟩ (.int .i64 (x.at_ + gap))).drew) q 45 #[.int .i64 count, .int .i64 gap, (.slice A3 (i + (L'.length - (i + 1))) c3')]) := HB7
            have HR8 : Hid (((W5.setCell ⟨t, 3, none⟩ (.int .i64 (x.at_ + gap))).drew).ownsRow (q + 1) 81 5 (.slice A3 (i + (L'.length - (i + 1))) c3') (i + (L'.length - (i + 1))) ((L'.take i).flatMap c5 ++ (L'.drop (i + 1)).flatMap c5)) := HR7
            have HT8 : Hid (Blk ((W5.setCell ⟨t, 3, none⟩ (.int .i64 (x.at_ + gap))).drew) t 81 #[.int .i64 x.q.v, .string x.q.g, .slice x.A x.n x.c, .int .i64 (x.at_ + gap), .int .i64 (x.left - 1)]) := HT7
            have HO8 : Hid (((W5.setCell ⟨t, 3, none⟩ (.int .i64 (x.at_ + gap))).drew).ownsRow w.heap.size 48 3 v4 (out.length + 1) (out.flatMap c3 ++ c3 x)) := HO7
            have HS8 : Hid (Safe q w ((W5.setCell ⟨t, 3, none⟩ (.int .i64 (x.at_ + gap))).drew)) := HS7
            clear HB7 HR7 HT7 HO7 HS7
            generalize (W5.setCell ⟨t, 3, none⟩ (.int .i64 (x.at_ + gap))).drew = W7 at *
            have hqW7 := HB8.out.lt
            have j2 : W7.cell? ⟨q, 2, none⟩ = some (.slice A3 (i + (L'.length - (i + 1))) c3') := HB8.out.cell 2
            have jf := HB8.out.frozen 2
            have l0 : W7.cell? ⟨t, 0, none⟩ = some (.int .i64 x.q.v) := HT8.out.cell 0
            have l1 : W7.cell? ⟨t, 1, none⟩ = some (.string x.q.g) := HT8.out.cell 1
            have l2 : W7.cell? ⟨t, 2, none⟩ = some (.slice x.A x.n x.c) := HT8.out.cell 2
            have l3 : W7.cell? ⟨t, 3, none⟩ = some (.int .i64 (x.at_ + gap)) := HT8.out.cell 3
            have l4 : W7.cell? ⟨t, 4, none⟩ = some (.int .i64 (x.left - 1)) := HT8.out.cell 4
            have htW7 := HT8.out.lt
            have q5 : i + (L'.length - (i + 1)) + 1 ≤ maxLen := Nat.le_trans hsm2 (by decide)
            have q6 : (i + (L'.length - (i + 1)) + 1) * 64 ≤ 140737488355328 := Nat.le_trans (Nat.mul_le_mul_right 64 hsm2) (by decide)
            have HNEW := Lib.hid (fun (w9 : World) (hg : ((W7.alloc (.cells #[.int .i64 x.q.v, .string x.q.g, .slice x.A x.n x.c, .int .i64 (x.at_ + gap), .int .i64 (x.left - 1)] 81)).drew).grownBy w9 (Value.slice A3 (i + (L'.length - (i + 1))) c3').ownBlock) => (⟨((HB8.out.alloc (.cells #[.int .i64 x.q.v, .string x.q.g, .slice x.A x.n x.c, .int .i64 (x.at_ + gap), .int .i64 (x.left - 1)] 81)).drew).grown hg (fun e => own_ne HR8.out (Nat.lt_succ_self q) e.symm), ((HS8.out.alloc (by omega) (.cells #[.int .i64 x.q.v, .string x.q.g, .slice x.A x.n x.c, .int .i64 (x.at_ + gap), .int .i64 (x.left - 1)] 81)).drewN 1).grown (HR8.out.alloc (.cells #[.int .i64 x.q.v, .string x.q.g, .slice x.A x.n x.c, .int .i64 (x.at_ + gap), .int .i64 (x.left - 1)] 81)) (Nat.le_succ _) (by simp; omega) hg, World.ownsRow.kept (w := (W7.alloc (.cells #[.int .i64 x.q.v, .string x.q.g, .slice x.A x.n x.c, .int .i64 (x.at_ + gap), .int .i64 (x.left - 1)] 81)).drew) (HO8.out.alloc (.cells #[.int .i64 x.q.v, .string x.q.g, .slice x.A x.n x.c, .int .i64 (x.at_ + gap), .int .i64 (x.left - 1)] 81)) hg (own_apart (HO8.out.alloc (.cells #[.int .i64 x.q.v, .string x.q.g, .slice x.A x.n x.c, .int .i64 (x.at_ + gap), .int .i64 (x.left - 1)] 81)) (HR8.out.alloc (.cells #[.int .i64 x.q.v, .string x.q.g, .slice x.A x.n x.c, .int .i64 (x.at_ + gap), .int .i64 (x.left - 1)] 81)) (by decide))⟩ : Blk w9 q 45 #[.int .i64 count, .int .i64 gap, (.slice A3 (i + (L'.length - (i + 1))) c3')] ∧ Safe q w w9 ∧ w9.ownsRow w.heap.size 48 3 v4 (out.length + 1) (out.flatMap c3 ++ c3 x)))
            have hb1 : q + 1 ≤ W7.heap.size + 1 := by omega
            have hb2 : ¬ now < x.at_ := by omega
            clear hlate
            try clear k3; try clear k4; try clear fk3; try clear hqW; try clear htW; try clear hfrom; try clear z6; try clear z5; try clear z3; try clear q3; try clear q4; try clear hwr; try clear hwr2; try clear hjc; try clear hjc'; try clear hjc2; try clear hjc3; try clear hil'; try clear hi0; try clear hcap; try clear hcm; try clear hgw; try clear hqw; try clear ht1; try clear hzz; try clear c2'; try clear w3z; try clear z2; try clear hsm; try clear hll; try clear hwz; try clear hwz1; try clear hB; try clear htq; try clear hil; try clear hi3
            go_region_law (first
              | (refine step_append_lies _ (by rfl) _ _ _ (by rfl) (q + 1) 81 i0 _ 5 64 Tryd.underlying43 hi hz0 hz1 hz2 rfl (by omega) _ (i + (L'.length - (i + 1))) _ (by rfl) ((HR8.out.alloc _).drew) ⟨W7.heap.size, 0, none⟩ 1 1 (c5 ⟨x.q, x.A, x.n, x.c, x.at_ + gap, x.left - 1⟩) (by rfl) (by rfl) (new_cells W7 (c5 ⟨x.q, x.A, x.n, x.c, x.at_ + gap, x.left - 1⟩) 81) (one5 _) (by omega) q5 q6 (Nat.le_trans hb1 (by show W7.heap.size + 1 ≤ (W7.alloc _).heap.size; simp)) (W7.heap.size + 1) (by simp) ?_; intro gg cap2 w9 hown' hgrow hat9 hlt9; have hb9 := (HNEW.out w9 hgrow).1; have k9 : w9.cell? ⟨q, 2, none⟩ = _ := hb9.cell 2; have f9 := hb9.frozen 2))
            all_goals
              have hro := ownsRow_setCell_other hown' (a := ⟨q, 2, none⟩) (own_ne hown' (Nat.lt_succ_self q)) (.slice (some ⟨gg, 0, none⟩) (i + (L'.length - (i + 1)) + 1) cap2)
              have hoo := ownsRow_setCell_other (HNEW.out w9 hgrow).2.2 (a := ⟨q, 2, none⟩) (own_ne (HNEW.out w9 hgrow).2.2 (show q < w.heap.size by omega)) (.slice (some ⟨gg, 0, none⟩) (i + (L'.length - (i + 1)) + 1) cap2)
              have hm2 := HM1.out.told HBEST.out HXL.out hb2 hnow hgap (L2 := cut L' i ++ [⟨x.q, x.A, x.n, x.c, x.at_ + gap, x.left - 1⟩]) (by rw [if_pos hone]) ⟨_, (HNEW.out w9 hgrow).1.set_ 2 _, by rw [List.length_append, ← HLEN.out, List.flatMap_append, cut, List.flatMap_append]; simpa using hro⟩ hoo ((HNEW.out w9 hgrow).2.1.set_ 2 _)
              have HM2 := Lib.hid hm2
              have HLT := Lib.hid (by have h := HM1.out.loads hm2 HOK.out hl; rw [HLD.out] at h; exact h)
              clear hm2 hro hoo
              go_wp2
              go_roundg (Go.Proofs.YtdpppljobikjhaaDoor.Ask.load ((cut L' i ++ [(⟨x.q, x.A, x.n, x.c, x.at_ + gap, x.left - 1⟩ : Dw)]).map dd))
              case measure => exact HLT.out
              case rel => exact ⟨out ++ [x], _, HM2.out, rfl⟩
          · have hone' : ¬ 0 < x.left - 1 := by omega
            have hm2 := HM1.out.told HBEST.out HXL.out (by omega) hnow hgap (L2 := cut L' i) (by rw [if_neg hone]) ⟨_, HB7.out, by rw [← HLEN.out]; have h := HR7.out; unfold cut; rw [List.flatMap_append]; exact h⟩ HO7.out HS7.out
            have HM2 := Lib.hid hm2
            have HLT := Lib.hid (by have h := HM1.out.loads hm2 HOK.out hl; rw [HLD.out] at h; exact h)
            clear hm2
            go_wp2
            go_roundg (Go.Proofs.YtdpppljobikjhaaDoor.Ask.load ((cut L' i).map dd))
            case measure => exact HLT.out
            case rel => exact ⟨out ++ [x], cut L' i, HM2.out, rfl⟩
end AskR
end Go.Proofs.YtdpppljobikjhaaDoor
