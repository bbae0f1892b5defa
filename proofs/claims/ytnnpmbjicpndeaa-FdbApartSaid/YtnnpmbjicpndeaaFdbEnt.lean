/-
  fdb.Table in memory, and the walk of Entries.
-/
import Derived.Test.YtnnpmbjicpndeaaFdbMin
import Derived.Test.YtnnpmbjicpndeaaSortK
import Derived.Test.YtnnpmbjicpndeaaSortLay
import Derived.Deep.DeepCutAuto
namespace Go.Proofs.Ytnnpmbjicpndeaa
set_option linter.unusedVariables false
set_option linter.unusedSimpArgs false
open Go.RowKit Go.Maps
namespace Fdb
open Mp FdbC
theorem bl_eq : ∀ (a b : List UInt8), Op.bytesLess a b = bytesBefore a b
  | [], [] => rfl
  | [], _ :: _ => rfl
  | _ :: _, [] => rfl
  | a :: r, b :: s => by
    simp only [Op.bytesLess, bytesBefore, bl_eq r s]
theorem bl_trans {a b c : List UInt8} (h1 : Op.bytesLess a b = true) (h2 : Op.bytesLess b c = true) : Op.bytesLess a c = true := by
  rw [bl_eq] at *
  exact Go.WideShapes.bytes_trans a b c h1 h2
theorem bl_total {a b : List UInt8} (h : a ≠ b) : Op.bytesLess a b = true ∨ Op.bytesLess b a = true := by
  rw [bl_eq, bl_eq]
  exact WideAt.bytes_total a b h
theorem cmpS_neg (a b : ByteArray) : cmpS a b < 0 ↔ Op.bytesLess a.toList b.toList = true := by
  unfold cmpS
  split
  · rename_i h; simp [h]
  · rename_i h
    split <;> simp [h]
theorem cmpK_neg (x y : Er) : cmpK x y < 0 ↔ x.1 < y.1 ∨ (x.1 = y.1 ∧ Op.bytesLess x.2.1.toList y.2.1.toList = true) := by
  unfold cmpK
  rw [or2_neg, cmpI_neg, cmpI_zero, cmpS_neg]
theorem swoK : Go.Sort.SWO (Go.Proofs.ltOf cmpK) := by
  constructor
  · intro x
    unfold Go.Proofs.ltOf
    rw [decide_eq_false_iff_not, cmpK_neg, bl_irrefl]
    simp
  · intro x y z h1 h2
    unfold Go.Proofs.ltOf at *
    rw [decide_eq_true_eq, cmpK_neg] at *
    rcases h1 with h1 | ⟨h1, b1⟩
    · rcases h2 with h2 | ⟨h2, b2⟩
      · left; omega
      · left; omega
    · rcases h2 with h2 | ⟨h2, b2⟩
      · left; omega
      · right; exact ⟨by omega, bl_trans b1 b2⟩
  · intro x y z h1 h2
    unfold Go.Proofs.ltOf at *
    rw [decide_eq_false_iff_not, cmpK_neg] at *
    intro h3
    rcases h3 with h3 | ⟨h3, b3⟩
    · rcases Int.lt_trichotomy x.1 y.1 with h | h | h
      · exact h1 (Or.inl h)
      · exact h2 (Or.inl (by omega))
      · exact h2 (Or.inl (by omega))
    · rcases Int.lt_trichotomy x.1 y.1 with h | h | h
      · exact h1 (Or.inl h)
      · by_cases hxy : x.2.1.toList = y.2.1.toList
        · exact h2 (Or.inr ⟨by omega, by rw [← hxy]; exact b3⟩)
        · rcases bl_total hxy with b | b
          · exact h1 (Or.inr ⟨h, b⟩)
          · exact h2 (Or.inr ⟨by omega, bl_trans b b3⟩)
      · exact h2 (Or.inl (by omega))
structure At (w : World) (g b : Nat) (room age : Int) (ts : List En) : Prop where
  blk : Blk w g 48 #[.int .i64 room, .int .i64 age, .map (some b)]
  map : Has E Try.prog 52 w b ts
  ne : g ≠ b
theorem At.lt {w : World} {g b : Nat} {room age : Int} {ts : List En} (h : At w g b room age ts) : g < w.heap.size ∧ b < w.heap.size := ⟨h.blk.lt, h.map.lt⟩
theorem At.keep {ys : List Nat} {w w' : World} {g b : Nat} {room age : Int} {ts : List En} (h : At w g b room age ts) (hk : Keep ys w w') (hg : g ∉ ys) (hb : b ∉ ys) : At w' g b room age ts := ⟨Keep.blk hk h.blk hg, h.map.block (hk.block b h.lt.2 hb), h.ne⟩
def EntriesIs (ts l : List En) : Prop := l.Perm ts ∧ l.Pairwise fun x y => ¬ cmpK (er y) (er x) < 0
theorem infoE : (Try.prog.info? 54).map (fun i => (i.zero, i.size, i.bytes)) = some (some (.agg #[.int .i64 0, .string ByteArray.empty, .int .i64 0, .int .i64 0]), 4, 40) := by kernel_rfl
theorem oneE (x : Er) : ∀ u ∈ cellsE x, u.oneCell' = true := by
  intro u hu
  simp [cellsE] at hu
  rcases hu with rfl | rfl | rfl | rfl <;> rfl
theorem er_inj {x y : En} (h : er x = er y) : x = y := valE_inj (by unfold valE; rw [h])
def k0 : Key := ⟨(0, ByteArray.empty), by decide, Nat.zero_le _⟩
open Classical in
noncomputable def unEr (x : Er) : En := if h : ∃ y : En, er y = x then h.choose else (k0, 0, 0)
theorem unEr_er (y : En) : unEr (er y) = y := by
  have h : ∃ z : En, er z = er y := ⟨y, rfl⟩
  unfold unEr
  rw [dif_pos h]
  exact er_inj h.choose_spec
theorem unEr_map (l : List En) : (l.map er).map unEr = l := by
  rw [List.map_map]
  conv => rhs; rw [← List.map_id l]
  exact List.map_congr_left fun x _ => unEr_er x
theorem map_er : ∀ (l : List Er) (ts : List En), l.Perm (ts.map er) → ∃ l' : List En, l = l'.map er ∧ l'.Perm ts := by
  intro l ts h
  have hm : ∀ x ∈ l, ∃ y : En, er y = x := fun x hx => by
    obtain ⟨y, _, e⟩ := List.mem_map.1 (h.mem_iff.1 hx)
    exact ⟨y, e⟩
  have hex : ∀ l : List Er, (∀ x ∈ l, ∃ y : En, er y = x) → ∃ l' : List En, l = l'.map er := by
    intro l
    induction l with
    | nil => intro _; exact ⟨[], rfl⟩
    | cons x r ih =>
      intro hh
      obtain ⟨y, e⟩ := hh x (by simp)
      obtain ⟨r', e'⟩ := ih (fun z hz => hh z (by simp [hz]))
      exact ⟨y :: r', by rw [List.map_cons, e, ← e']⟩
  obtain ⟨l', rfl⟩ := hex l hm
  refine ⟨l', rfl, ?_⟩
  have h2 := h.map unEr
  rw [unEr_map, unEr_map] at h2
  exact h2
theorem enters_key (args : Array Value) (w : World) : (callFunc 22 args).run Try.prog w = .ok (.enter 22 args) w := Go.Proofs.enters_of Try.func22 (by kernel_rfl) rfl args w
theorem sorts (w : World) (base : Nat) (ts : List En) (v : Value) (n : Nat) (hown : w.ownsRow base 54 4 v n (ts.flatMap fun x => cellsE (er x))) (hn : n < 4611686018427387904) :
    Calls Try.prog 21 #[v, .func (.func 22) #[] #[]] w fun e w' => e = .returned (.tuple #[]) ∧
      ∃ l : List En, EntriesIs ts l ∧ w'.ownsRow base 54 4 v n (l.flatMap fun x => cellsE (er x)) ∧ w.grownBy w' v.ownBlock := by
  have e1 : ∀ l : List En, (l.flatMap fun x => cellsE (er x)) = (l.map er).flatMap cellsE := fun l => by rw [List.flatMap_map]
  rw [e1] at hown
  have hs := Srt.sortK_ Try.sortKEntry Try.isAgg54 Try.sizeOf54 (by omega) cellsE (fun _ => rfl) oneE cmpK swoK 22 #[] v base 54 n (ts.map er) w enters_key (fun W _ x y => byKey_ x y W) hown hn
  refine Calls.mono hs ?_
  rintro e w' ⟨he, l, hp, hpw, hown', hg⟩
  obtain ⟨l', rfl, hp'⟩ := map_er l ts hp
  refine ⟨he, l', ⟨hp', ?_⟩, by rw [e1]; exact hown', hg⟩
  rw [List.pairwise_map] at hpw
  refine hpw.imp fun h => ?_
  unfold Go.Proofs.ltOf at h
  rw [decide_eq_false_iff_not] at h
  exact h
set_option maxHeartbeats 4000000 in
set_option maxRecDepth 20000 in
theorem entries_ (w : World) (g b : Nat) (room age : Int) (ts : List En) (h : At w g b room age ts) (hd : Apart E ts) (hn : ts.length ≤ 5000) :
    Calls Try.prog 12 #[.pointer (some ⟨g, 0, none⟩)] w fun e w' => ∃ (l : List En) (v : Value), EntriesIs ts l ∧ e = .returned v ∧ w'.ownsRow w.heap.size 54 4 v l.length (l.flatMap fun x => cellsE (er x)) ∧ Below w.heap.size w w' := by
  have hm := h.map
  have hb := h.lt.2
  have hg := h.lt.1
  obtain ⟨i0, hi, hz0, hz1, hz2⟩ := info_parts infoE
  have c2 : w.cell? ⟨g, 2, none⟩ = some (.map (some b)) := h.blk.cell 2
  go_enter Try.func12, Try.ntmps12
  go_wp2_with (first
    | (at_range; refine wpList_rng _ rfl _ _ rfl 52 54 law Try.underlying46 sameE b ts hd rfl hm ?_; intro w0 hrg0 hg0 hs0)
    | go_in)
  go_frame
  go_loopw [3] (fun v wr => ∃ dn lf : List En, (dn ++ lf).Perm ts ∧ wr.ownsRow (w.heap.size + 1) 54 4 v dn.length (dn.flatMap fun x => cellsE (er x)) ∧ Rg E Try.prog 52 wr b w.heap.size ts lf ∧ Below w.heap.size w wr)
    (fun _ wr => wr.rangeLeft b w.heap.size)
  case atStart => exact ⟨[], ts, List.Perm.refl _, ⟨by simp, .inl ⟨rfl, rfl⟩⟩, hrg0, (Keep.of_grown (xs := []) hg0 (by simp)).below (Nat.le_refl _) (by simp)⟩
  case round =>
    obtain ⟨dn, lf, hpm, hown, hrg, hbel⟩ := hrel
    have hr0 := hrg.lt
    have hbz := hbel.size
    have hll := hpm.length_eq
    rw [List.length_append] at hll
    go_wp2_with (first
      | (at_next; refine wpList_nxt _ rfl _ rfl 52 law sameE kv invK kvK b w.heap.size ts lf hd rfl hrg ?_ ?_)
      | go_in)
    · intro hl0
      subst hl0
      rw [List.append_nil] at hpm
      have hdl := hpm.length_eq
      have hs := sorts wr (w.heap.size + 1) dn _ dn.length hown (by omega)
      have HO := Lib.hid hown
      have HB := Lib.hid hbel
      have HP := Lib.hid hpm
      have HDL := Lib.hid hdl
      obtain ⟨A', c', rfl, _⟩ := own_form hown
      clear hown hbel hpm hdl hll
      go_wp2_with (first
        | (go_at_call 21; refine hs.mono ?_; rintro e w2 ⟨rfl, l, hl, hown2, hg2⟩)
        | go_in)
      go_ret
      have hll2 : l.length = dn.length := hl.1.length_eq
      refine ⟨l, _, ⟨hl.1.trans HP.out, hl.2⟩, rfl, ?_, ?_⟩
      · rw [hll2]
        exact Srt.own_mono hown2 (Nat.le_succ _)
      · exact HB.out.grown hg2 hbz (fun q hq => by have := own_from HO.out q hq; omega)
    · intro v0 m0 ok0 p0 a0 l w1 hperm hx hrg1 hlt1 hg1 hsz1 hen
      have hpl := hperm.length_eq
      rw [List.length_cons] at hpl
      have q3 : dn.length + 1 ≤ maxLen := by unfold maxLen; omega
      have q4 : (dn.length + 1) * 40 ≤ 140737488355328 := by omega
      have hown1 := hown.kept hg1 (Or.inr (own_ne hown (Nat.lt_succ_self _)))
      obtain ⟨A', c', rfl, _⟩ := own_form hown
      have HPM := Lib.hid (show ((dn ++ ([(⟨(v0, m0), ok0⟩, p0, a0)] : List En)) ++ l).Perm ts from by
        rw [List.append_assoc]
        exact ((List.perm_append_left_iff dn).2 hperm.symm).trans hpm)
      have HE := Lib.hid (hbel.grown hg1 hbz (fun q hq => by cases hq; exact Nat.le_refl _))
      have HX := Lib.hid hown
      clear hperm hx hpm hbel
      simp only [E, kv, kvR, valE, er] at hen ⊢
      go_wp2_with (first
        | (at_builtin; refine wpList_append_own _ rfl (.tmp 17) (.tmp 19) 34 rfl (w.heap.size + 1) 54 i0 _ 4 40 Try.underlying34 hi hz0 hz1 hz2 rfl (by omega) (.slice A' dn.length c') _ _ rfl ((hown1.alloc _).alloc _) ⟨wr.heap.size + 1, 0, none⟩ 1 1 (cellsE (v0, m0, p0, a0)) rfl rfl (new_cells' _ (cellsE (v0, m0, p0, a0)) 54 _ (by simp [hsz1])) (oneE _) q3 q4 (by simp; omega) ?_; intro v' w9 hown' hgrow _)
        | go_in)
      refine ⟨⟨dn ++ ([(⟨(v0, m0), ok0⟩, p0, a0)] : List En), l, HPM.out, ?_, ?_, ?_⟩, ?_⟩
      · rw [List.length_append, List.flatMap_append]
        exact hown'
      · refine ((hrg1.alloc _).alloc _).kept hgrow ?_ ?_
        · exact fun e => own_ne HX.out (b := b) (by omega) e.symm
        · exact fun e => own_ne HX.out (b := w.heap.size) (by omega) e.symm
      · exact ((HE.out.alloc (by omega) _).alloc (by simp; omega) _).grown hgrow (by simp; omega) (fun q hq => by have := own_from HX.out q hq; omega)
      · rw [((hrg1.alloc _).alloc _).left_kept hgrow (fun e => own_ne HX.out (b := b) (by omega) e.symm) (fun e => own_ne HX.out (b := w.heap.size) (by omega) e.symm), (hrg1.alloc _).left_alloc, hrg1.left_alloc]
        exact hlt1
end Fdb
end Go.Proofs.Ytnnpmbjicpndeaa
