/-
  The calls of a part at any port and time, and what always holds: the plain model.
-/
import Derived.Test.YtlfoaefilonidaaRstpOuts
import Derived.Test.YtlfoaefilonidaaRstpNewMath
namespace Go.Proofs.Ytlfoaefilonidaa.Rstp
set_option linter.unusedVariables false
set_option linter.unusedSimpArgs false
open Go.Proofs.Ytlfoaefilonidaa.Prio
def opLink (t : Tr) (i : Int) (up : Bool) (now : Int) : Tr := if okT t i now = true then match t.ps[i.toNat]? with
  | some p => linkT t i.toNat p up now
  | none => t else t
def opHear (t : Tr) (i : Int) (b : Bp) (now : Int) : Tr := if okT t i now = true then match t.ps[i.toNat]? with
  | some p => if p.up = true then hearT t i.toNat p b now else t
  | none => t else t
def opTick (t : Tr) (now : Int) : Tr := if okT t 0 now = true then tickT t now else t
def tells (t : Tr) (now : Int) : List Ou := if okT t 0 now = true then outsT (tickT t now) now else []
theorem ok_at {t : Tr} {i now : Int} (h : okT t i now = true) : ∃ (k : Nat) (p : Pt), i = k ∧ i.toNat = k ∧ t.ps[k]? = some p := by
  obtain ⟨_, _, h3, h4⟩ := okT_iff.1 h
  exact ⟨i.toNat, t.ps[i.toNat]'(by omega), by omega, rfl, List.getElem?_eq_getElem (by omega)⟩
theorem opLink_yes {t : Tr} {k : Nat} {p : Pt} {up : Bool} {now : Int} (h : okT t k now = true) (hp : t.ps[k]? = some p) : opLink t k up now = linkT t k p up now := by
  unfold opLink
  rw [if_pos h]
  simp [hp]
theorem opLink_no {t : Tr} {i : Int} {up : Bool} {now : Int} (h : okT t i now = false) : opLink t i up now = t := by unfold opLink; rw [if_neg (by rw [h]; simp)]
theorem opHear_yes {t : Tr} {k : Nat} {p : Pt} {b : Bp} {now : Int} (h : okT t k now = true) (hp : t.ps[k]? = some p) (hu : p.up = true) : opHear t k b now = hearT t k p b now := by
  unfold opHear
  rw [if_pos h]
  simp [hp, hu]
theorem opHear_down {t : Tr} {k : Nat} {p : Pt} {b : Bp} {now : Int} (h : okT t k now = true) (hp : t.ps[k]? = some p) (hu : p.up = false) : opHear t k b now = t := by
  unfold opHear
  rw [if_pos h]
  simp [hp, hu]
theorem opHear_no {t : Tr} {i : Int} {b : Bp} {now : Int} (h : okT t i now = false) : opHear t i b now = t := by unfold opHear; rw [if_neg (by rw [h]; simp)]
theorem opTick_yes {t : Tr} {now : Int} (h : okT t 0 now = true) : opTick t now = tickT t now ∧ tells t now = outsT (tickT t now) now := ⟨if_pos h, if_pos h⟩
theorem opTick_no {t : Tr} {now : Int} (h : okT t 0 now = false) : opTick t now = t ∧ tells t now = [] := ⟨if_neg (by rw [h]; simp), if_neg (by rw [h]; simp)⟩
/-- each of the calls leaves the part as it was, or sets it right -/
theorem opLink_cases (t : Tr) (i : Int) (up : Bool) (now : Int) : opLink t i up now = t ∨ ∃ (k : Nat) (p : Pt), i = k ∧ okT t k now = true ∧ t.ps[k]? = some p ∧ opLink t i up now = linkT t k p up now := by
  cases h : okT t i now
  · exact .inl (opLink_no h)
  · obtain ⟨k, p, rfl, _, hp⟩ := ok_at h
    exact .inr ⟨k, p, rfl, h, hp, opLink_yes h hp⟩
theorem opHear_cases (t : Tr) (i : Int) (b : Bp) (now : Int) : opHear t i b now = t ∨ ∃ (k : Nat) (p : Pt), i = k ∧ okT t k now = true ∧ t.ps[k]? = some p ∧ p.up = true ∧ opHear t i b now = hearT t k p b now := by
  cases h : okT t i now
  · exact .inl (opHear_no h)
  · obtain ⟨k, p, rfl, _, hp⟩ := ok_at h
    cases hu : p.up
    · exact .inl (opHear_down h hp hu)
    · exact .inr ⟨k, p, rfl, h, hp, hu, opHear_yes h hp hu⟩
theorem opTick_cases (t : Tr) (now : Int) : opTick t now = t ∨ (okT t 0 now = true ∧ opTick t now = tickT t now) := by
  cases h : okT t 0 now
  · exact .inl (opTick_no h).1
  · exact .inr ⟨rfl, (opTick_yes h).1⟩
theorem Wf.opLink {t : Tr} (h : Wf t) (i : Int) (up : Bool) (now : Int) : Wf (opLink t i up now) := by
  rcases opLink_cases t i up now with e | ⟨k, p, _, hok, hp, e⟩
  · rw [e]; exact h
  · rw [e]; exact h.link hp up (okT_iff.1 hok).2.1
theorem Wf.opHear {t : Tr} (h : Wf t) (i : Int) (b : Bp) (now : Int) (hb : -9223372036854775808 ≤ b.age ∧ b.age ≤ 9223372036854775807) : Wf (opHear t i b now) := by
  rcases opHear_cases t i b now with e | ⟨k, p, _, hok, hp, _, e⟩
  · rw [e]; exact h
  · rw [e]; exact h.hear hp b (okT_iff.1 hok).2.1 hb
theorem Wf.opTick {t : Tr} (h : Wf t) (now : Int) : Wf (opTick t now) := by
  rcases opTick_cases t now with e | ⟨hok, e⟩
  · rw [e]; exact h
  · rw [e]; exact h.tick (okT_iff.1 hok).2.1
def roleA (t : Tr) (i : Int) : Int := if okT t i 0 = true then match t.ps[i.toNat]? with | some p => p.role | none => 0 else 0
def fwdA (t : Tr) (i : Int) : Bool := if okT t i 0 = true then match t.ps[i.toNat]? with | some p => p.fwd | none => false else false
def learnsA (t : Tr) (i : Int) : Bool := if okT t i 0 = true then match t.ps[i.toNat]? with | some p => learnsP t.now p | none => false else false
theorem roleA_no {t : Tr} {i : Int} (h : okT t i 0 = false) : roleA t i = 0 ∧ fwdA t i = false ∧ learnsA t i = false := by
  refine ⟨?_, ?_, ?_⟩
  · unfold roleA; rw [if_neg (by rw [h]; simp)]
  · unfold fwdA; rw [if_neg (by rw [h]; simp)]
  · unfold learnsA; rw [if_neg (by rw [h]; simp)]
theorem roleA_yes {t : Tr} {k : Nat} {p : Pt} (hp : t.ps[k]? = some p) : roleA t k = p.role ∧ fwdA t k = p.fwd ∧ learnsA t k = learnsP t.now p := by
  have h : okT t k 0 = true := okT_iff.2 ⟨by omega, by omega, by omega, by have := (List.getElem?_eq_some_iff.1 hp).1; omega⟩
  refine ⟨?_, ?_, ?_⟩
  · unfold roleA; rw [if_pos h]; simp [hp]
  · unfold fwdA; rw [if_pos h]; simp [hp]
  · unfold learnsA; rw [if_pos h]; simp [hp]
/-- what holds at all times of the roles -/
structure Safe (t : Tr) : Prop where
  one : ∀ (i : Nat) (p : Pt), t.ps[i]? = some p → p.role = 1 → (i : Int) = t.root
  fwd : ∀ (i : Nat) (p : Pt), t.ps[i]? = some p → p.fwd = true → (p.role = 1 ∨ p.role = 2) ∧ learnsP t.now p = true
  down : ∀ (i : Nat) (p : Pt), t.ps[i]? = some p → p.up = false → p.role = 0
theorem settle_at {t : Tr} {i : Nat} {p : Pt} (h : (settleT t).ps[i]? = some p) : ∃ q, t.ps[i]? = some q ∧ p = stepP t.now ((rolesT t).getD i 0) (dropP t.now q) := by
  simp only [settleT, List.getElem?_mapIdx, dropped, List.getElem?_map, Option.map_map] at h
  obtain ⟨q, hq, rfl⟩ := Option.map_eq_some_iff.1 h
  exact ⟨q, hq, rfl⟩
theorem Safe.settle {t : Tr} (hw : Wf t) : Safe (settleT t) := by
  have hn := hw.n0
  refine ⟨fun i p hp h1 => ?_, fun i p hp h1 => ?_, fun i p hp h1 => ?_⟩
  · obtain ⟨q, hq, rfl⟩ := settle_at hp
    have hh : (heardT t)[i]? = some (heardP (dropP t.now q)) := by simp [heardT, dropped, hq]
    have hr := rolesOf_at (b := t.bridge) hh
    have e : (rolesT t).getD i 0 = roleAt t.bridge (bestOf t.bridge (heardT t)) i (heardP (dropP t.now q)) := by
      rw [rolesT]
      simp [hr]
    simp only [stepP, roleP] at h1
    rw [e] at h1
    show (i : Int) = (stT t).1
    split at h1
    · unfold roleAt at h1
      split at h1
      · assumption
      · split at h1 <;> omega
    · omega
  · obtain ⟨q, hq, rfl⟩ := settle_at hp
    simp only [stepP, fwdP, Bool.and_eq_true, decide_eq_true_eq] at h1
    obtain ⟨ha, h30⟩ := h1
    refine ⟨?_, ?_⟩
    · simp only [stepP]
      simp [activeR] at ha
      exact ha
    · have hs : sinceP t.now ((rolesT t).getD i 0) (dropP t.now q) ≠ -1 := by
        unfold sinceP
        rw [if_pos ha]
        split
        · omega
        · assumption
      simp only [learnsP, stepP, Bool.and_eq_true, decide_eq_true_eq]
      exact ⟨by simpa using hs, decide_eq_true (show (15 : Int) ≤ t.now - _ by omega)⟩
  · obtain ⟨q, hq, rfl⟩ := settle_at hp
    simp only [stepP] at h1
    simp [stepP, roleP, h1]
theorem Safe.new (b : Int) (cs : List Int) : Safe (newT b cs) := by
  refine ⟨fun i p hp h1 => ?_, fun i p hp h1 => ?_, fun i p hp h1 => ?_⟩
  all_goals
    simp only [newT, List.getElem?_map] at hp
    obtain ⟨c, _, rfl⟩ := Option.map_eq_some_iff.1 hp
    simp [newP] at h1 ⊢
theorem Safe.opLink {t : Tr} (h : Safe t) (hw : Wf t) (i : Int) (up : Bool) (now : Int) : Safe (opLink t i up now) := by
  rcases opLink_cases t i up now with e | ⟨k, p, _, hok, hp, e⟩
  · rw [e]; exact h
  · rw [e]
    have h2 := (okT_iff.1 hok).2.1
    exact Safe.settle ((hw.now h2).set_ k (((hw.at_ hp).mono (by simp only [nowT]; omega)).link up) (hw.now h2).c0 (hw.now h2).c1)
theorem Safe.opHear {t : Tr} (h : Safe t) (hw : Wf t) (i : Int) (b : Bp) (now : Int) (hb : -9223372036854775808 ≤ b.age ∧ b.age ≤ 9223372036854775807) : Safe (opHear t i b now) := by
  rcases opHear_cases t i b now with e | ⟨k, p, _, hok, hp, _, e⟩
  · rw [e]; exact h
  · rw [e]
    have h2 := (okT_iff.1 hok).2.1
    exact Safe.settle ((hw.now h2).dropT.heard1 (((hw.at_ hp).mono (show t.now ≤ max t.now now by omega)).drop _) b hb)
theorem Safe.opTick {t : Tr} (h : Safe t) (hw : Wf t) (now : Int) : Safe (opTick t now) := by
  rcases opTick_cases t now with e | ⟨hok, e⟩
  · rw [e]; exact h
  · rw [e]
    exact Safe.settle (hw.now (okT_iff.1 hok).2.1)
/-- which ports are up -/
def ups (t : Tr) : List Bool := t.ps.map (·.up)
theorem ups_settle (t : Tr) : ups (settleT t) = ups t := by
  apply List.ext_getElem?
  intro i
  simp only [ups, settleT, List.getElem?_map, List.getElem?_mapIdx, dropped, Option.map_map]
  rfl
theorem ups_length (t : Tr) : (ups t).length = t.ps.length := by simp [ups]
theorem ups_link {t : Tr} {k : Nat} {p : Pt} {up : Bool} {now : Int} : ups (linkT t k p up now) = (ups t).set k up := by
  rw [linkT, ups_settle]
  simp [ups, nowT, linkP, List.map_set]
theorem ups_opHear (t : Tr) (i : Int) (b : Bp) (now : Int) : ups (opHear t i b now) = ups t := by
  rcases opHear_cases t i b now with e | ⟨k, p, _, hok, hp, _, e⟩
  · rw [e]
  · rw [e, hearT, ups_settle]
    have hd : ups (dropT (nowT t now)) = ups t := by
      simp only [ups, dropT, dropped, nowT, List.map_map]
      rfl
    unfold heardT1
    split
    · have e2 : ∀ c, ups { dropT (nowT t now) with ps := (dropT (nowT t now)).ps.set k (keepP (dropT (nowT t now)).now b (dropP (max t.now now) p)), change := c } = (ups (dropT (nowT t now))).set k (dropP (max t.now now) p).up := fun c => by simp [ups, List.map_set, keepP]
      rw [e2, hd]
      apply List.ext_getElem?
      intro j
      by_cases hj : j = k
      · subst hj
        have hl : j < (ups t).length := by rw [ups_length]; exact (List.getElem?_eq_some_iff.1 hp).1
        rw [List.getElem?_set_self hl]
        simp [ups, hp, dropP]
      · rw [List.getElem?_set_ne (fun e => hj e.symm)]
    · exact hd
theorem ups_opTick (t : Tr) (now : Int) : ups (opTick t now) = ups t := by
  rcases opTick_cases t now with e | ⟨hok, e⟩
  · rw [e]
  · rw [e, tickT, ups_settle]
    rfl
theorem len_settle (t : Tr) : (settleT t).ps.length = t.ps.length := by rw [← ups_length, ups_settle, ups_length]
theorem len_opHear (t : Tr) (i : Int) (b : Bp) (now : Int) : (opHear t i b now).ps.length = t.ps.length := by rw [← ups_length, ups_opHear, ups_length]
theorem len_opTick (t : Tr) (now : Int) : (opTick t now).ps.length = t.ps.length := by rw [← ups_length, ups_opTick, ups_length]
theorem len_opLink (t : Tr) (i : Int) (up : Bool) (now : Int) : (opLink t i up now).ps.length = t.ps.length := by
  rcases opLink_cases t i up now with e | ⟨k, p, _, hok, hp, e⟩
  · rw [e]
  · rw [e, ← ups_length, ups_link, List.length_set, ups_length]
end Go.Proofs.Ytlfoaefilonidaa.Rstp
