/-
  Questions that wait, the program's and the document's, side by side: what both hold, and what stands behind an Add and behind a Due of both.
-/
import Derived.Test.YtdpppljobikjhaaDoorAskOps
import Derived.Test.YtdpppljobikjhaaDoorAskRef3
import Derived.Test.YtdpppljobikjhaaDoorAskSame
import Derived.Test.YtdpppljobikjhaaDoorQLive
namespace Go.Proofs.YtdpppljobikjhaaDoor
set_option linter.unusedVariables false
set_option linter.unusedSimpArgs false
open Go.RowKit Go.Maps
namespace AskL
open Go.Proofs.YtdpppljobikjhaaDoor.Ask Go.Proofs.YtdpppljobikjhaaDoor.AskR
/-- a call of the script -/
structure AskOp where
  do_ : Int
  q : Qn
  A : Option Addr
  n : Nat
  c : Nat
  now : Int
def cellsA (o : AskOp) : List Value := [.int .i64 o.do_, .int .i64 o.q.v, .string o.q.g, .slice o.A o.n o.c, .int .i64 o.now]
theorem lenA (o : AskOp) : (cellsA o).length = 5 := rfl
/-- the blocks of both -/
structure Pl where
  g : Nat
  gw : Nat
  bw : Nat
  bm : Nat
  q : Nat
structure Both (B : Nat) (w : World) (p : Pl) (count gap turn tu : Int) (ws : List Pw) (L : List Dw) : Prop where
  at_ : Ask.At w p.g p.gw p.bw p.bm count gap turn tu ws ws
  rat : RAt w p.q count gap L
  eq : ws.map doc = L.map dd
  okw : ∀ x ∈ ws, OkW x
  okd : ∀ x ∈ L, OkD x
  low : ∀ x ∈ L, Low w B x
  gq : p.g < p.q
  b1 : B ≤ p.g
  b2 : B ≤ p.gw
  b3 : B ≤ p.bw
  b4 : B ≤ p.bm
section
variable {B : Nat} {w w' : World} {p : Pl} {count gap turn tu : Int} {ws : List Pw} {L : List Dw}
theorem Both.lt (h : Both B w p count gap turn tu ws L) : p.g < w.heap.size ∧ p.gw < w.heap.size ∧ p.bw < w.heap.size ∧ p.bm < w.heap.size ∧ p.q < w.heap.size ∧ p.gw < p.q ∧ p.bw < p.q ∧ p.bm < p.q := by
  have h1 := h.at_.bk.blk.lt
  obtain ⟨h2, h3⟩ := h.at_.on.lt
  have h4 := h.at_.bk.map.lt
  have h5 := h.rat.lt
  have h6 := h.gq
  have h7 := h.at_.bk.lw
  have h8 := h.at_.bk.lb
  have h9 := h.at_.bk.lm
  omega
theorem Both.keep (h : Both B w p count gap turn tu ws L) (hk : Keep [] w w') : Both B w' p count gap turn tu ws L :=
  ⟨h.at_.keep hk (by simp), h.rat.keep hk (by simp), h.eq, h.okw, h.okd, fun x hx => Keep.reads hk (h.low x hx) (by have := h.lt; have := h.b1; omega) (by simp), h.gq, h.b1, h.b2, h.b3, h.b4⟩
theorem at_safe {q : Nat} {ts : List Pw} {g gw bw bm : Nat} (h : Ask.At w g gw bw bm count gap turn tu ts ws) (hs : AskR.Safe q w w') {cs : Array Value} (hq : Blk w q 45 cs) (hg : g < q) : Ask.At w' g gw bw bm count gap turn tu ts ws := by
  have h1 := h.bk.lw
  have h2 := h.bk.lb
  have h3 := h.bk.lm
  obtain ⟨h4, h5⟩ := h.on.lt
  have hk : Keep ((List.range w.heap.size).filter (fun k => decide (q ≤ k))) w w' := ⟨hs.low.os, hs.low.tape, hs.low.output, hs.size, fun k hk hx => hs.low.block k (by
    simp at hx
    rcases Nat.lt_or_ge k q with h | h
    · exact h
    · have := hx hk; omega)⟩
  refine ⟨⟨Keep.blk hk h.bk.blk (by simp; omega), h.bk.map.block (hk.block bm h.bk.map.lt (by simp; omega)), fun x hx => ?_, h.bk.apart, h.bk.top, h1, h2, h3, h.bk.n1, h.bk.n2⟩, h.on.keep hk (by simp; omega) (by simp; omega), h.sub⟩
  obtain ⟨s, e1, e2, e3⟩ := h.bk.src x hx
  exact ⟨s, e1, e2, hs.blk s _ _ e3 (by decide) (Blk.ne_ e3 hq (by decide))⟩
theorem sq_safe {q : Nat} {x : QS} (h : Sq w B x) (hs : AskR.Safe q w w') {cs : Array Value} (hq : Blk w q 45 cs) : Sq w' B x :=
  ⟨h.1, hs.blk _ _ _ h.2 (by decide) (Blk.ne_ h.2 hq (by decide))⟩
theorem Sq.reads {x : QS} (h : Sq w B x) : Reads w w.heap.size 1 (some ⟨x.2, 0, none⟩) x.1.ss.length (x.1.ss.map Value.string) := by
  have := blk_reads h.2 h.2.lt
  simpa using this
theorem path_q {gap now : Int} (P : Qn → Prop) : ∀ {out : List Qn} {L L' : List Wait}, Path gap now out L L' → (∀ x ∈ L, P x.q) → ∀ q ∈ out, P q
  | [], _, _, _, _, q, hq => by simp at hq
  | a :: out, L, L', h, hP, q, hq => by
    obtain ⟨i, x, _, hx, _, rfl, hp⟩ := h
    have hxm := List.mem_of_getElem? hx
    rcases List.mem_cons.1 hq with rfl | hq
    · exact hP x hxm
    · refine path_q P hp (fun y hy => ?_) q hq
      have hc : ∀ y ∈ cut L i, P y.q := fun y hy => by
        rcases List.mem_append.1 hy with h | h
        · exact hP y (List.mem_of_mem_take h)
        · exact hP y (List.mem_of_mem_drop h)
      unfold next at hy
      split at hy
      · rcases List.mem_append.1 hy with h | h
        · exact hc y h
        · simp at h
          subst h
          exact hP x hxm
      · exact hc y hy
end
/-- behind an Add of both -/
theorem both_add {B : Nat} {w w1 w2 : World} {p : Pl} {count gap turn tu : Int} {ws : List Pw} {L : List Dw} (h : Both B w p count gap turn tu ws L) {q : Qn} {A : Option Addr} {n c : Nat} {now : Int} (hl : ws.length < 200) (hc : 1 ≤ count ∧ count ≤ 7) (hn : 0 ≤ now ∧ now ≤ 100000) (hss : q.ss.length ≤ 1000)
    (hr : Reads w B 1 A n (q.ss.map Value.string)) (ha : Added w w1 p.g p.gw p.bw p.bm count gap turn tu ws q now) (hs : AskR.Safe p.q w1 w2) (hra : RAt w2 p.q count gap (addL L q A n c now count)) :
    ∃ ws' L', Both B w2 p count gap (turn + 1) (tu + 1) ws' L' ∧ ws'.length = ws.length + 1 ∧ Below B w w2 := by
  obtain ⟨hk, ha⟩ := ha
  obtain ⟨_, hat⟩ | ⟨_, sl, hat⟩ := ha
  · omega
  have hlt := h.lt
  have b1 := h.b1
  have b2 := h.b2
  have b3 := h.b3
  have b4 := h.b4
  have gq := h.gq
  have hr1 := h.rat.keep hk (by simp; omega)
  obtain ⟨v1, hq1, _⟩ := hr1
  have kB : ∀ {A : Option Addr} {n : Nat} {l : List Value}, Reads w B 1 A n l → Reads w2 B 1 A n l := fun hx => ((Keep.reads hk hx (by omega) (by simp; omega)).keep fun a ha => hs.low.cell (by omega))
  refine ⟨_, _, ⟨at_safe hat hs hq1 gq, hra, ?_, ?_, ?_, ?_, gq, b1, b2, b3, b4⟩, by simp, (hk.below (by omega) (by simp; omega)).trans (hs.low.mono (by omega))⟩
  · unfold addL
    rw [List.map_append, List.map_append, h.eq]
    rfl
  · intro x hx
    rcases List.mem_append.1 hx with hx | hx
    · exact h.okw x hx
    · simp at hx
      subst hx
      exact ⟨hc, hss, hn.1, by show now ≤ 200000; omega⟩
  · intro x hx
    rcases List.mem_append.1 hx with hx | hx
    · exact h.okd x hx
    · simp at hx
      subst hx
      exact ⟨hc, hn.1, by show now ≤ 200000; omega⟩
  · intro x hx
    rcases List.mem_append.1 hx with hx | hx
    · exact kB (h.low x hx)
    · simp at hx
      subst hx
      exact kB hr
theorem Both.start {B : Nat} {w : World} {p : Pl} {count gap : Int} (h : Ask.At w p.g p.gw p.bw p.bm count gap 0 0 [] []) (hr : RAt w p.q count gap []) (gq : p.g < p.q) (b1 : B ≤ p.g) (b2 : B ≤ p.gw) (b3 : B ≤ p.bw) (b4 : B ≤ p.bm) : Both B w p count gap 0 0 [] [] :=
  ⟨h, hr, rfl, by simp, by simp, by simp, gq, b1, b2, b3, b4⟩
/-- behind a Due of both: what was told is the same, and both hold the same -/
theorem both_due {B : Nat} {w w1 w2 w3 : World} {p : Pl} {count gap turn tu now : Int} {ws Lp : List Pw} {L L' : List Dw} {tr : Int} {v v' : Value} {out : List QS} {out' : List Dw} (h : Both B w p count gap turn tu ws L) (hl : ws.length ≤ 200)
    (hm : Mid w w1 p.g p.gw p.bw p.bm count gap turn tu ws now v out Lp Lp tr) (hq : Quiet now (Lp.map doc)) (h12 : w2 = w1.drewN 1) (hr : RMid w2 w3 p.q count gap L now B v' out' L') (hq' : Quiet now (L'.map dd)) :
    out.length = out'.length ∧ out.length ≤ 1400 ∧ Both B w3 p count gap turn tr Lp L' ∧ Lp.length ≤ ws.length ∧ tr ≤ tu + 1400 ∧ tu ≤ tr ∧ Below B w w3 ∧
    w3.ownsRow w.heap.size 52 3 v out.length (out.flatMap cQ) ∧ w3.ownsRow w2.heap.size 48 3 v' out'.length (out'.flatMap c3) ∧ out.map (·.1) = out'.map (fun x => x.q) ∧
    (∀ x ∈ out, Reads w3 w3.heap.size 1 (some ⟨x.2, 0, none⟩) x.1.ss.length (x.1.ss.map Value.string)) ∧ (∀ y ∈ out', Reads w3 w3.heap.size 1 y.A y.n (y.q.ss.map Value.string)) ∧ ∀ x ∈ out, x.1.ss.length ≤ 1000 := by
  subst h12
  have hlt := h.lt
  have b1 := h.b1
  have b2 := h.b2
  have b3 := h.b3
  have b4 := h.b4
  have hz1 := hm.keep.size
  have hz3 := hr.safe.size
  have hz2 : (w1.drewN 1).heap.size = w1.heap.size := rfl
  have hp2 := hr.path
  rw [← h.eq] at hp2
  obtain ⟨e1, e2⟩ := hm.path.one hq hp2 hq'
  have hlen : out.length = out'.length := by have := congrArg List.length e1; simpa using this
  have hsm := (hm.small h.okw hl).1
  have hrat1 := h.rat.keep hm.keep (by simp; omega)
  obtain ⟨v1, hq1, _⟩ := hrat1.drewN 1
  have hat1 := (hm.at_ h.at_).drewN 1
  have hat3 := at_safe hat1 hr.safe hq1 h.gq
  have hb3 := hr.safe.low.mono (show B ≤ p.q by omega)
  refine ⟨hlen, hsm, ⟨hat3, hr.at_, e2, hm.ok, hr.ok, fun x hx => (hr.low x hx).below hb3, h.gq, b1, b2, b3, b4⟩, hm.len, by have := hm.tr1; omega, hm.tr0, ?_, ?_, hr.own, e1, fun x hx => ?_, fun y hy => ?_, fun x hx => ?_⟩
  · exact (below_drewN (hm.keep.below (by omega) (by simp; omega)) 1).trans (hr.safe.low.mono (by omega))
  · exact hr.safe.own (a := w1.drewN 1) hm.own (by decide) (by omega)
  · exact Sq.reads (sq_safe (w := w1.drewN 1) (B := w.heap.size) (hm.src x hx) hr.safe hq1)
  · exact ((hr.lowO y hy).below hb3).more (by omega)
  · have := path_q (fun q => q.ss.length ≤ 1000) hm.path (fun y hy => by
      obtain ⟨z, hz, rfl⟩ := List.mem_map.1 hy
      exact (h.okw z hz).2.1)
    exact this x.1 (List.mem_map.2 ⟨x, hx, rfl⟩)
end AskL
end Go.Proofs.YtdpppljobikjhaaDoor
