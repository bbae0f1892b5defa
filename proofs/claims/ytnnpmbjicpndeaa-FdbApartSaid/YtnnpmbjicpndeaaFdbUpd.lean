/-
  What Learn makes of a table, as one word.
-/
import Derived.Test.YtnnpmbjicpndeaaFdbOpen
namespace Go.Proofs.Ytnnpmbjicpndeaa
set_option linter.unusedVariables false
set_option linter.unusedSimpArgs false
open Go.RowKit Go.Maps
namespace Fdb
open Mp FdbC
/-- what is known behind a call of Learn, whether it learns or not -/
def Upd (room : Int) (ts : List En) (k : Key) (port now : Int) (ts' : List En) : Prop :=
  (¬ (Good k.1.1 k.1.2 port now ∧ many k.1.2 = false) ∧ ts' = ts) ∨ ((Good k.1.1 k.1.2 port now ∧ many k.1.2 = false) ∧ Learnt room ts (k, port, now) ts')
theorem Upd.one {room : Int} {ts : List En} (hd : Apart E ts) {k : Key} {port now : Int} {a b : List En} (h1 : Upd room ts k port now a) (h2 : Upd room ts k port now b) : a = b := by
  rcases h1 with ⟨h1, rfl⟩ | ⟨h1, g1⟩
  · rcases h2 with ⟨h2, rfl⟩ | ⟨h2, g2⟩
    · rfl
    · exact absurd h2 h1
  · rcases h2 with ⟨h2, rfl⟩ | ⟨h2, g2⟩
    · exact absurd h1 h2
    · exact g1.one hd g2
theorem Upd.len {room : Int} {ts ts' : List En} (hd : Apart E ts) {k : Key} {port now : Int} (h : Upd room ts k port now ts') (hr : (ts.length : Int) ≤ room) : ts'.length ≤ ts.length + 1 := by
  rcases h with ⟨_, rfl⟩ | ⟨_, h⟩
  · omega
  · exact (h.len hd hr).2.2
theorem Upd.mem {room : Int} {ts ts' : List En} {k : Key} {port now : Int} (h : Upd room ts k port now ts') {y : En} (hy : y ∈ ts') : y = (k, port, now) ∨ y ∈ ts := by
  rcases h with ⟨_, rfl⟩ | ⟨_, h⟩
  · exact Or.inr hy
  · exact h.mem hy
def UStep (w w' : World) (g b : Nat) (room age : Int) (ts : List En) (k : Key) (port now : Int) : Prop := Keep [b] w w' ∧ ∃ ts', Upd room ts k port now ts' ∧ On w' g b room age ts'
theorem learnU {w : World} {g b : Nat} {room age : Int} {ts : List En} (h : On w g b room age ts) (k : Key) (port now : Int) :
    Calls Try.prog 10 #[.pointer (some ⟨g, 0, none⟩), .int .i64 k.1.1, .string k.1.2, .int .i64 port, .int .i64 now] w fun e w' => ∃ hit, e = .returned (.bool hit) ∧ UStep w w' g b room age ts k port now := by
  refine (learnO h k port now).mono ?_
  rintro e w' ⟨hit, rfl, hl⟩
  refine ⟨hit, rfl, ?_⟩
  obtain ⟨rfl, hbad, rfl⟩ | ⟨rfl, hg, hm, k2, ts', hl, on2⟩ := hl
  · exact ⟨Keep.refl _ _, ts, Or.inl ⟨hbad, rfl⟩, h⟩
  · exact ⟨k2, ts', Or.inr ⟨⟨hg, hm⟩, hl⟩, on2⟩
end Fdb
end Go.Proofs.Ytnnpmbjicpndeaa
