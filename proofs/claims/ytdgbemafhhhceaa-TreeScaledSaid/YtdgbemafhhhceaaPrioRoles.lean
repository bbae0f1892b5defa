/-
  The walks of the functions that give roles: of the program and of its reference; and of the comparing of two lists of numbers.
-/
import Derived.Test.YtdgbemafhhhceaaPrioRef
namespace Go.Proofs.Ytdgbemafhhhceaa
set_option linter.unusedVariables false
set_option linter.unusedSimpArgs false
open Go.RowKit
namespace Prio
theorem infoI : (Try.prog.info? 3).map (fun i => (i.zero, i.size, i.bytes)) = some (some (.int .i64 0), 1, 8) := by kernel_rfl
set_option maxHeartbeats 4000000 in
set_option maxRecDepth 100000 in
theorem roles_lo (b : Int) (A : Option Addr) (n c : Nat) (hs : List Heard) (w : World) (hn : n ≤ 40) (hr : Reads w w.heap.size 6 A n (hs.flatMap cellsH)) :
    Calls Try.prog 25 #[.int .u64 b, .slice A n c] w fun e w' => (∃ A' c', e = .returned (.slice A' n c') ∧ Reads w' w'.heap.size 1 A' n ((rolesOf b hs).map (Value.int .i64)) ∧ ∀ ad, A' = some ad → w.heap.size ≤ ad.block) ∧ Below w.heap.size w w' := by
  obtain ⟨i0, hi, hz0, hz1, hz2⟩ := info_parts infoI
  have hlen := hr.1
  rw [cellsH_len] at hlen
  have HL := Lib.hid (show hs.length = n by omega)
  clear hlen
  go_enter Try.func25, Try.ntmps25
  go_wp2_with (go_at_call 35; refine (best_ b A n c hs _ hn hr).mono ?_; rintro e w1 ⟨rfl, hb1⟩)
  generalize hst : bestOf b hs = st at *
  have HS := Lib.hid hst
  clear hst
  have hsz1 := hb1.size
  go_loopw [7, 20] (fun v i wr => ∃ (k : Nat) (p : Int), k ≤ n ∧ i = .int .i64 k ∧ wr.ownsRow (w1.heap.size + 1) 3 1 v k ((rolesTo b st hs k).map (Value.int .i64)) ∧ Blk wr w1.heap.size 62 #[.int .u64 st.2.root, .int .i64 st.2.cost, .int .u64 b, .int .i64 p] ∧ Below w1.heap.size w1 wr) (fun _ i _ => n - (intOf i).toNat)
  case atStart => exact ⟨0, _, Nat.zero_le _, rfl, ⟨by simp [rolesTo], .inl ⟨rfl, rfl⟩⟩, Blk.new _ _ _, (Below.refl _ _).alloc (Nat.le_refl _) _⟩
  case round =>
    obtain ⟨k, p, hk, rfl, hown, hblk, hbel⟩ := hrel
    by_cases hlt : k < n
    · have hlt' : (k : Int) < (n : Int) := by omega
      have hlw : w1.heap.size < wr.heap.size := hblk.lt
      obtain ⟨b0, off, h, rfl, hb0, hat, c0, c1, c2, c3, c4, c5⟩ := reads6 ((hr.below hb1).below (hbel.mono (by omega))) hlt
      obtain ⟨v0, v1, v2, v3, f0, f1, f2, f3⟩ := vec_cells (v := ⟨st.2.root, st.2.cost, b, p⟩) hblk
      have HA := Lib.hid hat
      have HB := Lib.hid hblk
      have q3 : k + 1 ≤ maxLen := by unfold maxLen; omega
      have q4 : (k + 1) * 8 ≤ 140737488355328 := by omega
      have hown1 := ownsRow_setCell_below hown (a := ⟨w1.heap.size, 3, none⟩) (Nat.lt_succ_self _) (.int .i64 k)
      have hB1 := HB.out.set_ 3 (.int .i64 k)
      have hbel1 : Below w1.heap.size w1 (wr.setCell ⟨w1.heap.size, 3, none⟩ (.int .i64 k)) := hbel.setCell (Nat.le_refl _) _
      have hsz : (wr.setCell ⟨w1.heap.size, 3, none⟩ (.int .i64 k)).heap.size = wr.heap.size := by simp [World.setCell]
      clear hat hblk
      by_cases ip : (k : Int) = st.1
      · have ip' : ((k : Int) == st.1) = true := by simp [ip]
        have IP := Lib.hid ip
        clear ip
        go_wp2_with (at_builtin; refine wpList_append_own _ rfl (.tmp 34) (.tmp 35) 33 rfl (w1.heap.size + 1) 3 i0 _ 1 8 Try.underlying33 hi hz0 hz1 hz2 rfl (by omega) _ k _ rfl ((hown1.alloc _).alloc _) ⟨wr.heap.size + 1, 0, none⟩ 1 1 [.int .i64 1] rfl rfl (new_cells' _ [.int .i64 1] 3 _ (by simp [World.setCell])) (one_int _ _) q3 q4 (by simp [World.setCell]; omega) ?_; intro v' w9 hown' hgrow _)
        go_roundw
        case rel =>
          have hrt := rolesTo_step (b := b) (st := st) HA.out (show roleAt b st k h = 1 by simp [roleAt, IP.out])
          refine ⟨k + 1, k, by omega, by go_num, by rw [hrt, List.map_append]; exact hown', ((hB1.alloc _).alloc _).grown hgrow (fun e => by have := own_from hown1 _ e.symm; omega), ((hbel1.alloc (by rw [hsz]; omega) _).alloc (by simp [World.setCell]; omega) _).grown hgrow (by simp [World.setCell]; omega) (fun q hq => by have := own_from hown1 q hq; omega)⟩
        case measure => simp [intOf]; omega
      · have ip' : ((k : Int) == st.1) = false := by simp [ip]
        have IP := Lib.hid ip
        clear ip
        by_cases i1 : h.is = true
        · by_cases i2 : cmpV ⟨st.2.root, st.2.cost, b, k⟩ h.v ≤ 0
          · go_wp2_with (first | (go_at_call 36; refine (cmp ⟨st.2.root, st.2.cost, b, k⟩ h.v _).mono ?_; rintro e w2 ⟨rfl, hb2⟩; have hown2 := own_below (hown1.alloc _) hb2; have hB2 := (hB1.alloc _).below hb2 (by simp [World.setCell]; omega); have hbel2 := (hbel1.alloc (by rw [hsz]; omega) _).trans (hb2.mono (by simp [World.setCell]; omega)); have hz2' : wr.heap.size + 1 ≤ w2.heap.size := (by have := hb2.size; simpa [World.setCell] using this)) | (at_builtin; refine wpList_append_own _ rfl (.tmp 48) (.tmp 49) 33 rfl (w1.heap.size + 1) 3 i0 _ 1 8 Try.underlying33 hi hz0 hz1 hz2 rfl (by omega) _ k _ rfl (hown2.alloc _) ⟨w2.heap.size, 0, none⟩ 1 1 [.int .i64 2] rfl rfl (new_cells' _ [.int .i64 2] 3 _ (rfl)) (one_int _ _) q3 q4 (by simp; omega) ?_; intro v' w9 hown' hgrow _))
            go_roundw
            case rel =>
              have hrt := rolesTo_step (b := b) (st := st) HA.out (show roleAt b st k h = 2 by simp [roleAt, IP.out, i2])
              refine ⟨k + 1, k, by omega, by go_num, by rw [hrt, List.map_append]; exact hown', (hB2.alloc _).grown hgrow (fun e => by have := own_from hown2 _ e.symm; omega), (hbel2.alloc (by omega) _).grown hgrow (by simp; omega) (fun q hq => by have := own_from hown2 q hq; omega)⟩
            case measure => simp [intOf]; omega
          · go_wp2_with (first | (go_at_call 36; refine (cmp ⟨st.2.root, st.2.cost, b, k⟩ h.v _).mono ?_; rintro e w2 ⟨rfl, hb2⟩; have hown2 := own_below (hown1.alloc _) hb2; have hB2 := (hB1.alloc _).below hb2 (by simp [World.setCell]; omega); have hbel2 := (hbel1.alloc (by rw [hsz]; omega) _).trans (hb2.mono (by simp [World.setCell]; omega)); have hz2' : wr.heap.size + 1 ≤ w2.heap.size := (by have := hb2.size; simpa [World.setCell] using this)) | (at_builtin; refine wpList_append_own _ rfl (.tmp 27) (.tmp 28) 33 rfl (w1.heap.size + 1) 3 i0 _ 1 8 Try.underlying33 hi hz0 hz1 hz2 rfl (by omega) _ k _ rfl (hown2.alloc _) ⟨w2.heap.size, 0, none⟩ 1 1 [.int .i64 3] rfl rfl (new_cells' _ [.int .i64 3] 3 _ (rfl)) (one_int _ _) q3 q4 (by simp; omega) ?_; intro v' w9 hown' hgrow _))
            go_roundw
            case rel =>
              have hrt := rolesTo_step (b := b) (st := st) HA.out (show roleAt b st k h = 3 by simp [roleAt, IP.out, i1, i2])
              refine ⟨k + 1, k, by omega, by go_num, by rw [hrt, List.map_append]; exact hown', (hB2.alloc _).grown hgrow (fun e => by have := own_from hown2 _ e.symm; omega), (hbel2.alloc (by omega) _).grown hgrow (by simp; omega) (fun q hq => by have := own_from hown2 q hq; omega)⟩
            case measure => simp [intOf]; omega
        · have i1' : h.is = false := by simpa using i1
          go_wp2_with (at_builtin; refine wpList_append_own _ rfl (.tmp 48) (.tmp 49) 33 rfl (w1.heap.size + 1) 3 i0 _ 1 8 Try.underlying33 hi hz0 hz1 hz2 rfl (by omega) _ k _ rfl ((hown1.alloc _).alloc _) ⟨wr.heap.size + 1, 0, none⟩ 1 1 [.int .i64 2] rfl rfl (new_cells' _ [.int .i64 2] 3 _ (by simp [World.setCell])) (one_int _ _) q3 q4 (by simp [World.setCell]; omega) ?_; intro v' w9 hown' hgrow _)
          go_roundw
          case rel =>
            have hrt := rolesTo_step (b := b) (st := st) HA.out (show roleAt b st k h = 2 by simp [roleAt, IP.out, i1'])
            refine ⟨k + 1, k, by omega, by go_num, by rw [hrt, List.map_append]; exact hown', ((hB1.alloc _).alloc _).grown hgrow (fun e => by have := own_from hown1 _ e.symm; omega), ((hbel1.alloc (by rw [hsz]; omega) _).alloc (by simp [World.setCell]; omega) _).grown hgrow (by simp [World.setCell]; omega) (fun q hq => by have := own_from hown1 q hq; omega)⟩
          case measure => simp [intOf]; omega
    · have hke : k = n := by omega
      have HK := Lib.hid hke
      clear hke
      go_wp2
      obtain ⟨A', c', hv, hrr⟩ := own_form hown
      have e1 : rolesTo b st hs k = rolesOf b hs := by rw [rolesOf, HS.out, HK.out, HL.out]
      rw [e1, HK.out] at hrr
      go_ret
      exact ⟨⟨A', c', by rw [HK.out] at hv; simpa using hv, hrr, fun ad ea => by have := own_from hown ad.block (by rw [hv, ea]; rfl); omega⟩, hb1.trans (hbel.mono hsz1)⟩
theorem roles_ (b : Int) (A : Option Addr) (n c : Nat) (hs : List Heard) (w : World) (hn : n ≤ 40) (hr : Reads w w.heap.size 6 A n (hs.flatMap cellsH)) :
    Calls Try.prog 25 #[.int .u64 b, .slice A n c] w fun e w' => (∃ A' c', e = .returned (.slice A' n c') ∧ Reads w' w'.heap.size 1 A' n ((rolesOf b hs).map (Value.int .i64))) ∧ Below w.heap.size w w' :=
  (roles_lo b A n c hs w hn hr).mono fun _ _ ⟨⟨A', c', h1, h2, _⟩, h3⟩ => ⟨⟨A', c', h1, h2⟩, h3⟩
set_option maxHeartbeats 4000000 in
set_option maxRecDepth 100000 in
theorem rroles_lo (b : Int) (A : Option Addr) (n c : Nat) (hs : List Heard) (w : World) (hn : n ≤ 40) (hr : Reads w w.heap.size 6 A n (hs.flatMap cellsH)) :
    Calls Try.prog 29 #[.int .u64 b, .slice A n c] w fun e w' => (∃ A' c', e = .returned (.slice A' n c') ∧ Reads w' w'.heap.size 1 A' n ((rolesOf b hs).map (Value.int .i64)) ∧ ∀ ad, A' = some ad → w.heap.size ≤ ad.block) ∧ Below w.heap.size w w' := by
  obtain ⟨i0, hi, hz0, hz1, hz2⟩ := info_parts infoI
  have hlen := hr.1
  rw [cellsH_len] at hlen
  have HL := Lib.hid (show hs.length = n by omega)
  clear hlen
  go_enter Try.func29, Try.ntmps29
  go_wp2_with (go_at_call 39; refine (rbest_ b A n c hs _ hn hr).mono ?_; rintro e w1 ⟨rfl, hb1⟩)
  generalize hst : bestOf b hs = st at *
  have HS := Lib.hid hst
  clear hst
  have hsz1 := hb1.size
  go_loopw [7, 8] (fun v i wr => ∃ (k : Nat), k ≤ n ∧ i = .int .i64 k ∧ wr.ownsRow (w1.heap.size + 1) 3 1 v k ((rolesTo b st hs k).map (Value.int .i64)) ∧ Blk wr w1.heap.size 62 #[.int .u64 st.2.root, .int .i64 st.2.cost, .int .u64 st.2.bridge, .int .i64 st.2.port] ∧ Below w1.heap.size w1 wr) (fun _ i _ => n - (intOf i).toNat)
  case atStart => exact ⟨0, Nat.zero_le _, rfl, ⟨by simp [rolesTo], .inl ⟨rfl, rfl⟩⟩, Blk.new _ _ _, (Below.refl _ _).alloc (Nat.le_refl _) _⟩
  case round =>
    obtain ⟨k, hk, rfl, hown, hblk, hbel⟩ := hrel
    by_cases hlt : k < n
    · have hlt' : (k : Int) < (n : Int) := by omega
      have hlw : w1.heap.size < wr.heap.size := hblk.lt
      obtain ⟨b0, off, h, rfl, hb0, hat, c0, c1, c2, c3, c4, c5⟩ := reads6 ((hr.below hb1).below (hbel.mono (by omega))) hlt
      obtain ⟨v0, v1, v2, v3, f0, f1, f2, f3⟩ := vec_cells hblk
      have HA := Lib.hid hat
      have HB := Lib.hid hblk
      have q3 : k + 1 ≤ maxLen := by unfold maxLen; omega
      have q4 : (k + 1) * 8 ≤ 140737488355328 := by omega
      clear hat hblk c5
      have hlb : low b st k h = true ∨ low b st k h = false := by cases low b st k h <;> simp
      go_upto_region 7 with fail
      go_cut [40] (fun s40 wx => s40 = .bool (low b st k h) ∧ Below wr.heap.size wr wx)
      case first =>
        by_cases i1 : h.is = true
        · go_region_held3 (fun w' => w'.cell? ⟨b0, off + k * 6, none⟩ = some (.bool h.is) ∧ w'.cell? ⟨b0, off + k * 6 + 1, none⟩ = some (.int .u64 h.v.root) ∧ w'.cell? ⟨b0, off + k * 6 + 2, none⟩ = some (.int .i64 h.v.cost) ∧ w'.cell? ⟨b0, off + k * 6 + 3, none⟩ = some (.int .u64 h.v.bridge) ∧ w'.cell? ⟨b0, off + k * 6 + 4, none⟩ = some (.int .i64 h.v.port) ∧ w'.cell? ⟨w1.heap.size, 0, none⟩ = some (.int .u64 st.2.root) ∧ w'.cell? ⟨w1.heap.size, 1, none⟩ = some (.int .i64 st.2.cost) ∧ w'.cell? ⟨w1.heap.size, 2, none⟩ = some (.int .u64 st.2.bridge) ∧ w'.cell? ⟨w1.heap.size, 3, none⟩ = some (.int .i64 st.2.port))
            (first
              | (simp [c0, c1, c2, c3, c4, v0, v1, v2, v3]; done)
              | (simp [d0, d1, d2, d3, d4, e0, e1, e2, e3]; done)
              | (simp [g0, g1, g2, g3, g4, i4, i5, i6, i7]; done))
            (first
              | (go_at_call 41; refine (rtells_ b st.2 k _).mono ?_; rintro e w2 ⟨rfl, hb2⟩; obtain ⟨hc2, _⟩ := bcell hb2; have hz2 : wr.heap.size ≤ w2.heap.size := (by have := hb2.size; simpa using this); have d0 : w2.cell? ⟨b0, off + k * 6, none⟩ = some (.bool h.is) := (by rw [hc2 _ _ (by simp; omega)]; simp [c0]); have d1 : w2.cell? ⟨b0, off + k * 6 + 1, none⟩ = some (.int .u64 h.v.root) := (by rw [hc2 _ _ (by simp; omega)]; simp [c1]); have d2 : w2.cell? ⟨b0, off + k * 6 + 2, none⟩ = some (.int .i64 h.v.cost) := (by rw [hc2 _ _ (by simp; omega)]; simp [c2]); have d3 : w2.cell? ⟨b0, off + k * 6 + 3, none⟩ = some (.int .u64 h.v.bridge) := (by rw [hc2 _ _ (by simp; omega)]; simp [c3]); have d4 : w2.cell? ⟨b0, off + k * 6 + 4, none⟩ = some (.int .i64 h.v.port) := (by rw [hc2 _ _ (by simp; omega)]; simp [c4]); have e0 : w2.cell? ⟨w1.heap.size, 0, none⟩ = some (.int .u64 st.2.root) := (by rw [hc2 _ _ (by simp; omega)]; simp [v0]); have e1 : w2.cell? ⟨w1.heap.size, 1, none⟩ = some (.int .i64 st.2.cost) := (by rw [hc2 _ _ (by simp; omega)]; simp [v1]); have e2 : w2.cell? ⟨w1.heap.size, 2, none⟩ = some (.int .u64 st.2.bridge) := (by rw [hc2 _ _ (by simp; omega)]; simp [v2]); have e3 : w2.cell? ⟨w1.heap.size, 3, none⟩ = some (.int .i64 st.2.port) := (by rw [hc2 _ _ (by simp; omega)]; simp [v3]))
              | (go_at_call 40; refine (rcmp_ ⟨st.2.root, st.2.cost, b, k⟩ h.v _).mono ?_; rintro e w3 ⟨rfl, hb3⟩; obtain ⟨hc3, _⟩ := bcell hb3; have g0 : w3.cell? ⟨b0, off + k * 6, none⟩ = some (.bool h.is) := (by rw [hc3 _ _ (by omega)]; simp [d0]); have g1 : w3.cell? ⟨b0, off + k * 6 + 1, none⟩ = some (.int .u64 h.v.root) := (by rw [hc3 _ _ (by omega)]; simp [d1]); have g2 : w3.cell? ⟨b0, off + k * 6 + 2, none⟩ = some (.int .i64 h.v.cost) := (by rw [hc3 _ _ (by omega)]; simp [d2]); have g3 : w3.cell? ⟨b0, off + k * 6 + 3, none⟩ = some (.int .u64 h.v.bridge) := (by rw [hc3 _ _ (by omega)]; simp [d3]); have g4 : w3.cell? ⟨b0, off + k * 6 + 4, none⟩ = some (.int .i64 h.v.port) := (by rw [hc3 _ _ (by omega)]; simp [d4]); have i4 : w3.cell? ⟨w1.heap.size, 0, none⟩ = some (.int .u64 st.2.root) := (by rw [hc3 _ _ (by omega)]; simp [e0]); have i5 : w3.cell? ⟨w1.heap.size, 1, none⟩ = some (.int .i64 st.2.cost) := (by rw [hc3 _ _ (by omega)]; simp [e1]); have i6 : w3.cell? ⟨w1.heap.size, 2, none⟩ = some (.int .u64 st.2.bridge) := (by rw [hc3 _ _ (by omega)]; simp [e2]); have i7 : w3.cell? ⟨w1.heap.size, 3, none⟩ = some (.int .i64 st.2.port) := (by rw [hc3 _ _ (by omega)]; simp [e3])))
          go_wp2_with fail
          go_meet
          exact ⟨by rw [low_yes i1], ((Below.refl wr.heap.size wr).drew.trans hb2).trans (hb3.mono hz2)⟩
        · have i1' : h.is = false := by simpa using i1
          go_quiet (fail)
          go_wp2_with fail
          go_meet
          exact ⟨by rw [low_no i1'], below_drewN (Below.refl _ _) _⟩
      case rest =>
        obtain ⟨h40, hbx⟩ := hcut
        have hown2 := own_below hown hbx
        have hB2 := HB.out.below hbx hlw
        have hbel2 := hbel.trans (hbx.mono (Nat.le_of_lt hlw))
        have hzc := hbx.size
        clear v0 v1 v2 v3 f0 f1 f2 f3 c0 c1 c2 c3 c4
        rcases hlb with lo | lo
        · rw [lo] at h40
          subst h40
          have LO := Lib.hid lo
          clear lo
          by_cases ip : (k : Int) = st.1
          · have ip' : ((k : Int) == st.1) = true := by simp [ip]
            have IP := Lib.hid ip
            clear ip
            go_wp2_with (at_builtin; refine wpList_append_own _ rfl (.tmp 44) (.tmp 46) 33 rfl (w1.heap.size + 1) 3 i0 _ 1 8 Try.underlying33 hi hz0 hz1 hz2 rfl (by omega) _ k _ rfl (hown2.alloc _) ⟨wc.heap.size, 0, none⟩ 1 1 [.int .i64 1] rfl rfl (new_cells' _ [.int .i64 1] 3 _ rfl) (one_int _ _) q3 q4 (by simp; omega) ?_; intro v' w9 hown' hgrow _)
            go_roundw
            case rel =>
              have hrt := rolesTo_step (b := b) (st := st) HA.out (show roleAt b st k h = 1 from roleAt_1 IP.out)
              refine ⟨k + 1, by omega, by go_num, by rw [hrt, List.map_append]; exact hown', (hB2.alloc _).grown hgrow (fun e => by have := own_from hown2 _ e.symm; omega), (hbel2.alloc (by omega) _).grown hgrow (by simp; omega) (fun q hq => by have := own_from hown2 q hq; omega)⟩
            case measure => simp [intOf]; omega
          · have ip' : ((k : Int) == st.1) = false := by simp [ip]
            have IP := Lib.hid ip
            clear ip
            go_wp2_with (at_builtin; refine wpList_append_own _ rfl (.tmp 44) (.tmp 46) 33 rfl (w1.heap.size + 1) 3 i0 _ 1 8 Try.underlying33 hi hz0 hz1 hz2 rfl (by omega) _ k _ rfl (hown2.alloc _) ⟨wc.heap.size, 0, none⟩ 1 1 [.int .i64 2] rfl rfl (new_cells' _ [.int .i64 2] 3 _ rfl) (one_int _ _) q3 q4 (by simp; omega) ?_; intro v' w9 hown' hgrow _)
            go_roundw
            case rel =>
              have hrt := rolesTo_step (b := b) (st := st) HA.out (show roleAt b st k h = 2 from roleAt_2 IP.out LO.out)
              refine ⟨k + 1, by omega, by go_num, by rw [hrt, List.map_append]; exact hown', (hB2.alloc _).grown hgrow (fun e => by have := own_from hown2 _ e.symm; omega), (hbel2.alloc (by omega) _).grown hgrow (by simp; omega) (fun q hq => by have := own_from hown2 q hq; omega)⟩
            case measure => simp [intOf]; omega
        · rw [lo] at h40
          subst h40
          have LO := Lib.hid lo
          clear lo
          by_cases ip : (k : Int) = st.1
          · have ip' : ((k : Int) == st.1) = true := by simp [ip]
            have IP := Lib.hid ip
            clear ip
            go_wp2_with (at_builtin; refine wpList_append_own _ rfl (.tmp 44) (.tmp 46) 33 rfl (w1.heap.size + 1) 3 i0 _ 1 8 Try.underlying33 hi hz0 hz1 hz2 rfl (by omega) _ k _ rfl (hown2.alloc _) ⟨wc.heap.size, 0, none⟩ 1 1 [.int .i64 1] rfl rfl (new_cells' _ [.int .i64 1] 3 _ rfl) (one_int _ _) q3 q4 (by simp; omega) ?_; intro v' w9 hown' hgrow _)
            go_roundw
            case rel =>
              have hrt := rolesTo_step (b := b) (st := st) HA.out (show roleAt b st k h = 1 from roleAt_1 IP.out)
              refine ⟨k + 1, by omega, by go_num, by rw [hrt, List.map_append]; exact hown', (hB2.alloc _).grown hgrow (fun e => by have := own_from hown2 _ e.symm; omega), (hbel2.alloc (by omega) _).grown hgrow (by simp; omega) (fun q hq => by have := own_from hown2 q hq; omega)⟩
            case measure => simp [intOf]; omega
          · have ip' : ((k : Int) == st.1) = false := by simp [ip]
            have IP := Lib.hid ip
            clear ip
            go_wp2_with (at_builtin; refine wpList_append_own _ rfl (.tmp 44) (.tmp 46) 33 rfl (w1.heap.size + 1) 3 i0 _ 1 8 Try.underlying33 hi hz0 hz1 hz2 rfl (by omega) _ k _ rfl (hown2.alloc _) ⟨wc.heap.size, 0, none⟩ 1 1 [.int .i64 3] rfl rfl (new_cells' _ [.int .i64 3] 3 _ rfl) (one_int _ _) q3 q4 (by simp; omega) ?_; intro v' w9 hown' hgrow _)
            go_roundw
            case rel =>
              have hrt := rolesTo_step (b := b) (st := st) HA.out (show roleAt b st k h = 3 from roleAt_3 IP.out LO.out)
              refine ⟨k + 1, by omega, by go_num, by rw [hrt, List.map_append]; exact hown', (hB2.alloc _).grown hgrow (fun e => by have := own_from hown2 _ e.symm; omega), (hbel2.alloc (by omega) _).grown hgrow (by simp; omega) (fun q hq => by have := own_from hown2 q hq; omega)⟩
            case measure => simp [intOf]; omega
    · have hke : k = n := by omega
      have HK := Lib.hid hke
      clear hke
      go_wp2
      obtain ⟨A', c', hv, hrr⟩ := own_form hown
      have e1 : rolesTo b st hs k = rolesOf b hs := by rw [rolesOf, HS.out, HK.out, HL.out]
      rw [e1, HK.out] at hrr
      go_ret
      exact ⟨⟨A', c', by rw [HK.out] at hv; simpa using hv, hrr, fun ad ea => by have := own_from hown ad.block (by rw [hv, ea]; rfl); omega⟩, hb1.trans (hbel.mono hsz1)⟩
theorem rroles_ (b : Int) (A : Option Addr) (n c : Nat) (hs : List Heard) (w : World) (hn : n ≤ 40) (hr : Reads w w.heap.size 6 A n (hs.flatMap cellsH)) :
    Calls Try.prog 29 #[.int .u64 b, .slice A n c] w fun e w' => (∃ A' c', e = .returned (.slice A' n c') ∧ Reads w' w'.heap.size 1 A' n ((rolesOf b hs).map (Value.int .i64))) ∧ Below w.heap.size w w' :=
  (rroles_lo b A n c hs w hn hr).mono fun _ _ ⟨⟨A', c', h1, h2, _⟩, h3⟩ => ⟨⟨A', c', h1, h2⟩, h3⟩
end Prio
end Go.Proofs.Ytdgbemafhhhceaa
