/-
  The walk of (*rstp.Tree).Tick.
-/
import Derived.Test.YtlfoaefilonidaaRstpHear
import Derived.Test.YtlfoaefilonidaaRstpOuts
namespace Go.Proofs.Ytlfoaefilonidaa
set_option linter.unusedVariables false
set_option linter.unusedSimpArgs false
open Go.RowKit
namespace Rstp
open Go.Proofs.Ytlfoaefilonidaa.Prio
theorem ofInt_i64 (a : Nat) (ha : a < 9223372036854775808) : (BitVec.ofInt 64 (a : Int)).toNat = a := by
  rw [BitVec.ofInt_natCast, BitVec.toNat_ofNat]; exact Nat.mod_eq_of_lt (by omega)
theorem i64_odd (x : Int) (h0 : 0 ≤ x) (h1 : x ≤ 1099511627776) : bits .and .i64 x 1 = x % 2 := by
  obtain ⟨n, rfl⟩ := Int.eq_ofNat_of_zero_le h0
  show IntKind.i64.wrap ((BitVec.ofInt 64 (n : Int) &&& BitVec.ofInt 64 ((1 : Nat) : Int)).toNat : Int) = _
  rw [BitVec.toNat_and, ofInt_i64 n (by omega), ofInt_i64 1 (by omega), IntKind.wrap_i64, Nat.and_one_is_mod]
  omega
theorem infoOu : (Try.prog.info? 39).map (fun i => (i.zero, i.size, i.bytes)) = some (some (.agg #[.int .i64 0, .int .u64 0, .int .i64 0, .int .u64 0, .int .i64 0, .int .i64 0, .bool false, .bool false, .bool false]), 9, 56) := by kernel_rfl
def cellsOu (o : Ou) : List Value := .int .i64 o.port :: cellsB o.b
theorem lenOu (o : Ou) : (cellsOu o).length = 9 := rfl
theorem own_lt {w : World} {base n : Nat} {e : TypeId} {size : Nat} {v : Value} {xs : List Value} (h : w.ownsRow base e size v n xs) : ∀ k, v.ownBlock = some k → k < w.heap.size := by
  intro k hk
  rcases h.2 with ⟨rfl, _⟩ | ⟨g, cap, cur, rfl, hg, hh, _⟩
  · simp [Value.ownBlock] at hk
  · have : g = k := by simpa [Value.ownBlock] using hk
    subst this
    exact Blk.lt (t := e) hh
theorem oneOu (o : Ou) : ∀ u ∈ cellsOu o, u.oneCell' = true := by
  intro u hu
  simp only [cellsOu, cellsB, List.mem_cons, List.not_mem_nil, or_false] at hu
  rcases hu with h | h | h | h | h | h | h | h | h <;> subst h <;> rfl
/-- what a tick gives, and what it makes of the part -/
def Told (g gp cap : Nat) (t : Tr) (os : List Ou) (w : World) (e : Ending) (w' : World) : Prop := ∃ A c, e = .returned (.slice A os.length c) ∧ Reads w' w'.heap.size 9 A os.length (os.flatMap cellsOu) ∧ (∀ ad, A = some ad → w.heap.size ≤ ad.block) ∧ At w' g gp cap t ∧ Keep [g, gp] w w'
theorem tick_no (w : World) (g gp cap : Nat) (t : Tr) (now : Int) (h : At w g gp cap t) (hl : t.ps.length ≤ 16) (hp : okT t 0 now = false) :
    Calls Try.prog 11 #[.pointer (some ⟨g, 0, none⟩), .int .i64 now] w fun e w' => e = .returned (.slice none 0 0) ∧ w = w' := by
  go_enter Try.func11, Try.ntmps11
  go_wp2_with (go_at_call 25; refine (at_no _ g gp cap t 0 now h hl hp).mono ?_; rintro e w' ⟨rfl, rfl⟩)
  go_ret
  exact ⟨rfl, rfl⟩
set_option maxRecDepth 100000 in
set_option maxHeartbeats 4000000 in
theorem tick_ (w : World) (g gp cap : Nat) (t : Tr) (now : Int) (h : At w g gp cap t) (hw : Wf t) (hok : okT t 0 now = true) :
    Calls Try.prog 11 #[.pointer (some ⟨g, 0, none⟩), .int .i64 now] w (Told g gp cap (tickT t now) (outsT (tickT t now) now) w) := by
  have c2 := h.tree.2.2.1
  have f2 := h.treeF 2
  have hl := hw.l1
  obtain ⟨h1, h2, _, _⟩ := okT_iff.1 hok
  have hw1 : Wf (nowT t now) := hw.now h2
  have hw2 : Wf (tickT t now) := hw.tick h2
  have hro := root_ok (nowT t now)
  rw [show settleT (nowT t now) = tickT t now from rfl] at hro
  have HRO := Lib.hid hro
  clear hro
  have hput : ∀ v : Int, v = max t.now now → At (w.setCell ⟨g, 2, none⟩ (.int .i64 v)) g gp cap (nowT t now) := fun v hv => by
    subst hv
    exact h.put_now (max t.now now)
  have HPUT := Lib.hid hput
  clear hput
  go_enter Try.func11, Try.ntmps11
  go_upto_region 3 with (go_at_call 25; refine (at_yes _ g gp cap t 0 now h hl hok).mono ?_; rintro e w' ⟨rfl, rfl⟩)
  go_cut [] (fun wx => At wx g gp cap (nowT t now) ∧ Keep [g, gp] w wx)
  case first =>
    rcases max_cases' t.now now with ⟨hm, em⟩ | ⟨hm, em⟩
    all_goals
      have EM := Lib.hid em
      clear em
      go_wp2_with fail
      go_meet
      exact ⟨HPUT.out _ EM.out.symm, (Keep.refl _ _).set_ (.inl (by simp)) _⟩
  case rest =>
    obtain ⟨hatn, hkn⟩ := hcut
    clear c2 f2 HPUT
    have HKN := Lib.hid hkn
    clear hkn
    go_wp2_with fail
    refine (settle_ _ g gp cap _ hatn hw1).mono ?_
    rw [show settleT (nowT t now) = tickT t now from rfl]
    rintro e w2 ⟨rfl, hat, hkp⟩
    have hk2 : Keep [g, gp] w w2 := HKN.out.trans hkp
    clear hkp hatn
    generalize tickT t now = t1 at *
    have c2 : w2.cell? ⟨g, 2, none⟩ = some (.int .i64 t1.now) := hat.tree.2.2.1
    have c3 : w2.cell? ⟨g, 3, none⟩ = some (.int .i64 t1.root) := hat.tree.2.2.2.1
    have c1 : w2.cell? ⟨g, 1, none⟩ = some (.slice (some ⟨gp, 0, none⟩) t1.ps.length cap) := hat.tree.2.1
    have HAT := Lib.hid hat
    have HK2 := Lib.hid hk2
    have hl1 := hw2.l1
    clear hat hk2 h hw hw1 hok
    go_upto_if 30 with fail
    go_cut [5] (fun s5 wx => s5 = .int .i64 (ageT t1) ∧ ∃ n, wx = w2.drewN n)
    case first =>
      rcases HRO.out with hr | ⟨i, p, hr, hp, ha, hu⟩
      · have E := Lib.hid (show ageT t1 = 0 by simp [ageT, hr])
        have hr' : (t1.root != -1) = false := by simp [hr]
        clear hr
        go_wp2_with fail
        go_meet
        exact ⟨by rw [E.out], 0, rfl⟩
      · have E := Lib.hid (show ageT t1 = p.age + 1 by simp [ageT, hr, hp])
        have hr' : (t1.root != -1) = true := by simp [hr]
        have e10 : w2.cell? ⟨gp, i * 15 + 10, none⟩ = some (.int .i64 p.age) := HAT.out.port hp rfl
        have hil : (i : Int) < (t1.ps.length : Int) := by have := (List.getElem?_eq_some_iff.1 hp).1; omega
        have hg0 := (hw2.at_ hp).g0
        have hx : IntKind.i64.wrap (p.age + 1) = p.age + 1 := IntWalk.i64_in _ (by omega)
        rw [hr] at c3
        clear hr hp
        go_wp2_with fail
        go_quiet (fail)
        go_wp2_with fail
        go_meet
        exact ⟨by rw [E.out], _, rfl⟩
    case rest =>
      obtain ⟨rfl, n2, rfl⟩ := hcut
      have hodd := i64_odd now h1 h2
      have hat2 : At (w2.drewN n2) g gp cap t1 := HAT.out.drewN n2
      have hk2 : Keep [g, gp] w (w2.drewN n2) := HK2.out.drewN n2
      have HODD := Lib.hid hodd
      clear hodd c1 c2 c3
      by_cases ho : now % 2 = 1
      · have E := Lib.hid (show outsT t1 now = [] by simp [outsT, silent, ho])
        have ho' : bits .and .i64 now 1 = 1 := by rw [HODD.out]; exact ho
        clear ho
        go_wp2
        go_ret
        rw [E.out]
        exact ⟨none, 0, rfl, Reads.none_, fun _ h => (by cases h), hat2, hk2⟩
      · have ho' : (bits .and .i64 now 1 == 1) = false := by rw [HODD.out]; simp [ho]
        have ho2 : ¬ bits .and .i64 now 1 = 1 := by rw [HODD.out]; exact ho
        by_cases ha : 20 ≤ ageT t1
        · have E := Lib.hid (show outsT t1 now = [] by simp [outsT, silent, ha])
          clear ho
          go_wp2
          go_ret
          rw [E.out]
          exact ⟨none, 0, rfl, Reads.none_, fun _ h => (by cases h), hat2, hk2⟩
        · have E := Lib.hid (show outsT t1 now = outsTo t1 t1.ps.length by simp [outsT, silent, ha, ho])
          clear ho
          generalize w2.drewN n2 = w3 at *
          have c1 : w3.cell? ⟨g, 1, none⟩ = some (.slice (some ⟨gp, 0, none⟩) t1.ps.length cap) := hat2.tree.2.1
          have HAT2 := Lib.hid hat2
          have HK3 := Lib.hid hk2
          clear hat2 hk2 HAT HK2
          obtain ⟨i0, hi, hz0, hz1, hz2⟩ := info_parts infoOu
          go_wp2_with fail
          go_loopw [6, 56] (fun v i wr => ∃ k : Nat, k ≤ t1.ps.length ∧ i = .int .i64 k ∧ wr.ownsRow w3.heap.size 39 9 v (outsTo t1 k).length ((outsTo t1 k).flatMap cellsOu) ∧ Below w3.heap.size w3 wr) (fun _ i _ => t1.ps.length - (intOf i).toNat)
          case atStart => exact ⟨0, Nat.zero_le _, rfl, ⟨by simp [outsTo], .inl ⟨rfl, rfl⟩⟩, Below.refl _ _⟩
          case round =>
            obtain ⟨k, hk, rfl, hown, hbel⟩ := hrel
            by_cases hlt : k < t1.ps.length
            · have hlt' : (k : Int) < (t1.ps.length : Int) := by omega
              obtain ⟨p, hp⟩ : ∃ p, t1.ps[k]? = some p := ⟨_, List.getElem?_eq_getElem hlt⟩
              have hat : At wr g gp cap t1 := HAT2.out.below hbel
              obtain ⟨hlg, hlp⟩ := hat.lt
              have e0 : wr.cell? ⟨gp, k * 15, none⟩ = some (.int .i64 p.cost) := hat.port (j := 0) hp rfl
              have e1 : wr.cell? ⟨gp, k * 15 + 1, none⟩ = some (.int .i64 p.role) := hat.port hp rfl
              have e2 : wr.cell? ⟨gp, k * 15 + 2, none⟩ = some (.int .i64 p.since) := hat.port hp rfl
              have e3 : wr.cell? ⟨gp, k * 15 + 3, none⟩ = some (.bool p.up) := hat.port hp rfl
              have e4 : wr.cell? ⟨gp, k * 15 + 4, none⟩ = some (.bool p.keeps) := hat.port hp rfl
              have e5 : wr.cell? ⟨gp, k * 15 + 5, none⟩ = some (.bool p.fwd) := hat.port hp rfl
              have e6 : wr.cell? ⟨gp, k * 15 + 6, none⟩ = some (.int .u64 p.v.root) := hat.port hp rfl
              have e7 : wr.cell? ⟨gp, k * 15 + 7, none⟩ = some (.int .i64 p.v.cost) := hat.port hp rfl
              have e8 : wr.cell? ⟨gp, k * 15 + 8, none⟩ = some (.int .u64 p.v.bridge) := hat.port hp rfl
              have e9 : wr.cell? ⟨gp, k * 15 + 9, none⟩ = some (.int .i64 p.v.port) := hat.port hp rfl
              have e10 : wr.cell? ⟨gp, k * 15 + 10, none⟩ = some (.int .i64 p.age) := hat.port hp rfl
              have e11 : wr.cell? ⟨gp, k * 15 + 11, none⟩ = some (.bool p.chg) := hat.port hp rfl
              have e12 : wr.cell? ⟨gp, k * 15 + 12, none⟩ = some (.bool p.lrn) := hat.port hp rfl
              have e13 : wr.cell? ⟨gp, k * 15 + 13, none⟩ = some (.bool p.kf) := hat.port hp rfl
              have e14 : wr.cell? ⟨gp, k * 15 + 14, none⟩ = some (.int .i64 p.at_) := hat.port hp rfl
              by_cases hr : p.role = 2
              · have EO := Lib.hid (outsTo_yes hp hr)
                have hr' : (p.role != 2) = false := by simp [hr]
                have HP := Lib.hid hp
                have HAT3 := Lib.hid hat
                clear hr hp hat
                have hsz := hbel.size
                have HLTV := Lib.hid (own_lt hown)
                have HOWN := Lib.hid hown
                have HBEL := Lib.hid hbel
                have hl0 : g < wr.heap.size := hlg
                have hl1' : gp < wr.heap.size := hlp
                clear hown hbel
                have pcell : ∀ cs : Array Value, cs[5]? = some (.bool p.fwd) → (wr.alloc (.cells cs 62)).cell? ⟨wr.heap.size, 5, none⟩ = some (.bool p.fwd) := fun cs h => by
                  rw [(Blk.new wr 62 cs).cell 5]
                  exact h
                have PC := Lib.hid pcell
                clear pcell
                go_upto_region 15 with fail
                clear e0 e1 e2 e3 e4 e5 e6 e7 e8 e9 e10 e11 e12 e13 e14
                have b0 : wr.cell? ⟨g, 0, none⟩ = some (.int .u64 t1.bridge) := HAT3.out.tree.1
                have b5 : wr.cell? ⟨g, 5, none⟩ = some (.int .u64 t1.best.root) := HAT3.out.best.1
                have b6 : wr.cell? ⟨g, 6, none⟩ = some (.int .i64 t1.best.cost) := HAT3.out.best.2.1
                have hne0 : g ≠ wr.heap.size := by omega
                have hne1 : g ≠ wr.heap.size + 1 := by omega
                go_cut [9] (fun s9 wx => s9 = .pointer (some ⟨wr.heap.size + 1, 0, none⟩) ∧ Blk wx (wr.heap.size + 1) 33 #[.int .u64 t1.best.root, .int .i64 t1.best.cost, .int .u64 t1.bridge, .int .i64 k] ∧ wx.cell? ⟨wr.heap.size, 5, none⟩ = some (.bool p.fwd) ∧ Below wr.heap.size wr wx)
                case first =>
                  go_region_held3 (fun w' => w'.cell? ⟨g, 0, none⟩ = some (.int .u64 t1.bridge) ∧ w'.cell? ⟨g, 5, none⟩ = some (.int .u64 t1.best.root) ∧ w'.cell? ⟨g, 6, none⟩ = some (.int .i64 t1.best.cost))
                    ((simp (disch := ((try simp) <;> omega)) [alloc_cell, cell_far, hne0, hne1, b0, b5, b6]; done)) (fail)
                  go_wp2_with fail
                  go_meet
                  refine ⟨rfl, ?_, (alloc_cell _ _ _ _ (by simp)).trans (PC.out _ rfl), ?_⟩
                  · have h := Blk.new (wr.alloc (.cells #[.int .i64 p.cost, .int .i64 p.role, .int .i64 p.since, .bool p.up, .bool p.keeps, .bool p.fwd, .int .u64 p.v.root, .int .i64 p.v.cost, .int .u64 p.v.bridge, .int .i64 p.v.port, .int .i64 p.age, .bool p.chg, .bool p.lrn, .bool p.kf, .int .i64 p.at_] 62)) 33 #[.int .u64 t1.best.root, .int .i64 t1.best.cost, .int .u64 t1.bridge, .int .i64 k]
                    rw [World.size_alloc] at h
                    exact h.drew
                  · repeat (first | exact Below.refl _ _ | apply Below.drew | (refine Below.alloc ?_ (by simp <;> omega) _) | (refine Below.setCell ?_ (by simp <;> omega) _))
                case rest =>
                  obtain ⟨rfl, hV, hpf, hbx⟩ := hcut
                  have hatc := HAT3.out.below hbx
                  have hownc := own_below HOWN.out hbx
                  have hbelc := HBEL.out.trans (hbx.mono hsz)
                  have hszc := hV.lt
                  have c2 : wc.cell? ⟨g, 2, none⟩ = some (.int .i64 t1.now) := hatc.tree.2.2.1
                  have c4 : wc.cell? ⟨g, 4, none⟩ = some (.int .i64 t1.change) := hatc.tree.2.2.2.2
                  have HATC := Lib.hid hatc
                  have HOWNC := Lib.hid hownc
                  have HBELC := Lib.hid hbelc
                  have HV := Lib.hid hV
                  have HPF := Lib.hid hpf
                  clear hatc hownc hbelc hV hpf hbx b0 b5 b6 HAT3 HOWN HBEL PC
                  go_upto_region 16 with fail
                  go_cut [10] (fun s10 wx => s10 = .bool (changesT t1) ∧ ∃ n, wx = wc.drewN n)
                  case first =>
                    by_cases hc : t1.change = -1
                    · have E := Lib.hid (show changesT t1 = false by simp [changesT, hc])
                      have hc' : (t1.change != -1) = false := by simp [hc]
                      clear hc
                      go_quiet (fail)
                      go_wp2_with fail
                      go_meet
                      exact ⟨by rw [E.out], _, rfl⟩
                    · have hc' : (t1.change != -1) = true := by simp [hc]
                      have E := Lib.hid (show changesT t1 = decide (t1.now - t1.change < 4) by simp [changesT, hc'])
                      have hb0 := hw2.c0
                      have hb1 := hw2.c1
                      have hb2 := hw2.n1
                      have hx : IntKind.i64.wrap (t1.now - t1.change) = t1.now - t1.change := IntWalk.i64_in _ (by omega)
                      clear hc
                      go_quiet (fail)
                      go_wp2_with fail
                      go_meet
                      exact ⟨by rw [E.out], _, rfl⟩
                  case rest =>
                    obtain ⟨rfl, n3, rfl⟩ := hcut
                    clear c2 c4
                    have v0 : wc.cell? ⟨wr.heap.size + 1, 0, none⟩ = some (.int .u64 t1.best.root) := HV.out.cell 0
                    have v1 : wc.cell? ⟨wr.heap.size + 1, 1, none⟩ = some (.int .i64 t1.best.cost) := HV.out.cell 1
                    have v2 : wc.cell? ⟨wr.heap.size + 1, 2, none⟩ = some (.int .u64 t1.bridge) := HV.out.cell 2
                    have v3 : wc.cell? ⟨wr.heap.size + 1, 3, none⟩ = some (.int .i64 k) := HV.out.cell 3
                    have v5 := HPF.out
                    have hle := outsTo_le t1 k
                    have q3 : (outsTo t1 k).length + 1 ≤ maxLen := by unfold maxLen; omega
                    have q4 : ((outsTo t1 k).length + 1) * 56 ≤ 140737488355328 := by omega
                    have ownm : ∀ (n : Nat) (o : Obj), ((wc.drewN n).alloc o).ownsRow w3.heap.size 39 9 _ (outsTo t1 k).length ((outsTo t1 k).flatMap cellsOu) := fun n o => World.ownsRow.alloc (w := wc.drewN n) HOWNC.out o
                    have OWNM := Lib.hid ownm
                    have NC := Lib.hid (fun n => new_cells (wc.drewN n) (cellsOu (outP t1 k p)) 39)
                    have HSZ : Hid (∀ (n : Nat) (o : Obj), w3.heap.size ≤ ((wc.drewN n).alloc o).heap.size) := Lib.hid (fun n o => by rw [World.size_alloc]; show w3.heap.size ≤ wc.heap.size + 1; omega)
                    have keeps : ∀ (n : Nat) (o : Obj) (w9 : World), ((wc.drewN n).alloc o).grownBy w9 (Value.ownBlock _) → w9.cell? ⟨wr.heap.size + 1, 0, none⟩ = some (.int .u64 t1.best.root) ∧ w9.cell? ⟨wr.heap.size + 1, 1, none⟩ = some (.int .i64 t1.best.cost) ∧ w9.cell? ⟨wr.heap.size + 1, 2, none⟩ = some (.int .u64 t1.bridge) ∧ w9.cell? ⟨wr.heap.size + 1, 3, none⟩ = some (.int .i64 k) ∧ w9.cell? ⟨wr.heap.size, 5, none⟩ = some (.bool p.fwd) := fun n o w9 hg =>
                      have q : ∀ b i u, wr.heap.size ≤ b → b < wc.heap.size → wc.cell? ⟨b, i, none⟩ = some u → w9.cell? ⟨b, i, none⟩ = some u := fun b i u hb1 hb2 hu =>
                        hg.cell ((alloc_cell (wc.drewN n) o b i hb2).trans hu) (fun e => by have := HLTV.out b e.symm; omega)
                      ⟨q _ _ _ (by omega) (by omega) v0, q _ _ _ (by omega) (by omega) v1, q _ _ _ (by omega) (by omega) v2, q _ _ _ (by omega) (by omega) v3, q _ _ _ (by omega) (by omega) v5⟩
                    have KS := Lib.hid keeps
                    clear ownm keeps
                    go_upto_region 17 with fail
                    go_region_held3 (fun w' => w'.cell? ⟨wr.heap.size + 1, 0, none⟩ = some (.int .u64 t1.best.root) ∧ w'.cell? ⟨wr.heap.size + 1, 1, none⟩ = some (.int .i64 t1.best.cost) ∧ w'.cell? ⟨wr.heap.size + 1, 2, none⟩ = some (.int .u64 t1.bridge) ∧ w'.cell? ⟨wr.heap.size + 1, 3, none⟩ = some (.int .i64 k) ∧ w'.cell? ⟨wr.heap.size, 5, none⟩ = some (.bool p.fwd))
                      (first
                        | (simp (disch := ((try simp) <;> omega)) [alloc_cell, v0, v1, v2, v3, v5]; done)
                        | exact g9)
                      (first
                        | (go_at_call 16; refine (learns_in _ g gp cap t1 k p ((HATC.out.drewN n3).drew) hw2 HP.out).mono ?_; rintro e w5 ⟨rfl, m, rfl⟩)
                        | (refine step_append_lies _ (by rfl) _ _ _ (by rfl) w3.heap.size 39 i0 _ 9 56 Try.underlying30 hi hz0 hz1 hz2 rfl (by omega) _ _ _ (by rfl) (OWNM.out _ _) ⟨wc.heap.size, 0, none⟩ 1 1 (cellsOu (outP t1 k p)) (by rfl) (by rfl) (NC.out _) (oneOu _) (by omega) q3 q4 (HSZ.out _ _) (wc.heap.size + 1) (by simp) ?_; intro gg cap2 w9 hown' hgrow hat9 hlt9; have g9 := KS.out _ _ _ hgrow))
                    go_wp2
                    go_roundw
                    case rel =>
                      refine ⟨k + 1, by omega, by go_num, ?_, ?_⟩
                      · rw [EO.out]
                        simpa [List.flatMap_append] using hown'
                      · exact ((below_drewN HBELC.out _).alloc (show w3.heap.size ≤ wc.heap.size by omega) _).grown hgrow (HSZ.out _ _) (own_from HOWNC.out)
                    case measure => simp [intOf]; omega
              · have EO := Lib.hid (outsTo_no hp hr)
                have hr' : (p.role != 2) = true := by simp [hr]
                clear hr hp hat
                go_wp2
                go_roundw
                case rel => exact ⟨k + 1, by omega, by go_num, by rw [EO.out]; exact hown.alloc _, hbel.alloc hbel.size _⟩
                case measure => simp [intOf]; omega
            · have hke : k = t1.ps.length := by omega
              have HKE := Lib.hid hke
              clear hke
              obtain ⟨A', c', rfl, hrr⟩ := own_form hown
              have hfr : ∀ ad, A' = some ad → w.heap.size ≤ ad.block := fun ad e => by
                subst e
                have h1 := own_from hown ad.block rfl
                have h2 := HK3.out.size
                omega
              have HFR := Lib.hid hfr
              clear hfr
              have hat : At wr g gp cap t1 := HAT2.out.below hbel
              have hk4 := HK3.out.trans (Keep.of_below hbel _)
              go_wp2
              go_ret
              rw [E.out, ← HKE.out]
              exact ⟨A', c', rfl, hrr, HFR.out, hat, hk4⟩
end Rstp
end Go.Proofs.Ytlfoaefilonidaa
