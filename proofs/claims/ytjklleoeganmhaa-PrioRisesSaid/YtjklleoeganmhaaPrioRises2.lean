/-
  The walk of PrioRises, joined: for any two vectors over any way.
-/
import Derived.Test.YtjklleoeganmhaaPrioRises
namespace Go.Proofs.Ytjklleoeganmhaa
open Go.RowKit
namespace Prio
theorem law_rises (a b : Vec) (c : Int) (w : World) :
    Calls Try.prog 8 #[.agg #[.int .u64 a.root, .int .i64 a.cost, .int .u64 a.bridge, .int .i64 a.port], .agg #[.int .u64 b.root, .int .i64 b.cost, .int .u64 b.bridge, .int .i64 b.port], .int .i64 c] w fun e w' => e = .returned (.bool true) ∧ Below w.heap.size w w' := by
  by_cases h : te a c = 0 ∧ te b c = 0
  · obtain ⟨h1, h2⟩ := h
    by_cases hs : 0 < cmpV a b
    · have hle : cmpV b a ≤ 0 := by have := cmpV_anti a b; omega
      obtain ⟨r1, r2⟩ := rises b a c h2 h1 hle
      by_cases r : b.root = a.root
      · by_cases s : b.cost = a.cost
        · exact rises_t2 a b c w h1 h2 hs (by simp [r]) (by simp [s]) (r2 (fun k => k.2.1 s))
        · by_cases t : (tv b c).cost = (tv a c).cost
          · exact rises_t0 a b c w h1 h2 hs (by simp [r]) (by simp [s]) (by simp [t]) (r1 ⟨r, s, t⟩)
          · exact rises_t3 a b c w h1 h2 hs (by simp [r]) (by simp [s]) (by simp [t]) (r2 (fun k => t k.2.2))
      · exact rises_t1 a b c w h1 h2 hs (by simp [r]) (r2 (fun k => r k.1))
    · obtain ⟨r1, r2⟩ := rises a b c h1 h2 (by omega)
      by_cases r : a.root = b.root
      · by_cases s : a.cost = b.cost
        · exact rises_s2 a b c w h1 h2 hs (by simp [r]) (by simp [s]) (r2 (fun k => k.2.1 s))
        · by_cases t : (tv a c).cost = (tv b c).cost
          · exact rises_s0 a b c w h1 h2 hs (by simp [r]) (by simp [s]) (by simp [t]) (r1 ⟨r, s, t⟩)
          · exact rises_s3 a b c w h1 h2 hs (by simp [r]) (by simp [s]) (by simp [t]) (r2 (fun k => t k.2.2))
      · exact rises_s1 a b c w h1 h2 hs (by simp [r]) (r2 (fun k => r k.1))
  · exact law_rises_no a b c w h
end Prio
end Go.Proofs.Ytjklleoeganmhaa
