/- Bytes that are read, as a thing of a bag. No program in sight. -/
import Derived.Test.YthaiibfnjgfgjaaDoorBagApp
namespace Go.Proofs.YthaiibfnjgfgjaaDoor
open Go.RowKit
/-- Bytes that are read, in a block that nothing else of the bag takes. -/
def It.key (ao : Option Addr) (l : List (BitVec 8)) : It where
  ats k := ∃ a, ao = some a ∧ a.block = k
  holds W := Rd W ao l ∧ ∀ a, ao = some a → a.block < W.heap.size
  lt := by
    rintro W k ⟨_, h⟩ ⟨a, ha, rfl⟩
    exact h a ha
  keep := by
    rintro W W' ⟨h, hl⟩ hk
    have lt' : ∀ b, b < W.heap.size → W'.heap[b]? = W.heap[b]? → b < W'.heap.size := by
      intro b hb he
      rw [Array.getElem?_eq_getElem hb] at he
      exact (Array.getElem?_eq_some_iff.1 he).1
    refine ⟨?_, fun a ha => lt' a.block (hl a ha) (hk _ ⟨a, ha, rfl⟩)⟩
    rcases h with rfl | ⟨b, o, rfl, hc⟩
    · exact Rd.nil _ _
    · refine Or.inr ⟨b, o, rfl, fun i hi => ?_⟩
      have h2 := hk b ⟨_, rfl, rfl⟩
      rw [← hc i hi]
      simp only [World.cell?, h2]
namespace Bag
variable {w W W' : World} {l : List It}
theorem keyRd (h : Bag w W l) (i : Nat) {ao : Option Addr} {m : List (BitVec 8)} (hi : l[i]? = some (.key ao m)) : Rd W ao m := (h.holds i _ hi).1
theorem keyLt (h : Bag w W l) (i : Nat) {ao : Option Addr} {m : List (BitVec 8)} (hi : l[i]? = some (.key ao m)) : ∀ a, ao = some a → a.block < W.heap.size := (h.holds i _ hi).2
theorem add (h : Bag w W l) {x : It} (hx : x.holds W) (hn : ∀ k, x.ats k → w.heap.size ≤ k) (ho : ∀ (j : Nat) (y : It), l[j]? = some y → x.off y) : Bag w W (x :: l) := by
  refine ⟨h.below, ?_, ?_, ?_⟩
  · rintro (_ | i) y hy
    · simp at hy; subst hy; exact hx
    · exact h.holds i y (by simpa using hy)
  · rintro (_ | i) y k hy hk
    · simp at hy; subst hy; exact hn k hk
    · exact h.new i y k (by simpa using hy) hk
  · rintro (_ | i) (_ | j) y z hy hz hij
    · exact absurd rfl hij
    · simp at hy; subst hy
      exact ho j z (by simpa using hz)
    · simp at hz; subst hz
      exact It.off_symm (ho i y (by simpa using hy))
    · exact h.off i j y z (by simpa using hy) (by simpa using hz) (by omega)
/-- A new block's bytes, whatever its mark. -/
theorem key (h : Bag w W l) (hb : Below W.heap.size W W') {g o : Nat} {m : List (BitVec 8)} (hr : Rd W' (some ⟨g, o, none⟩) m) (hg : W.heap.size ≤ g) (hl : g < W'.heap.size) : Bag w W' (.key (some ⟨g, o, none⟩) m :: l) :=
  h.cons hb ⟨hr, by intro a ha; cases ha; exact hl⟩ (by rintro k ⟨a, ha, rfl⟩; cases ha; exact hg)
end Bag
end Go.Proofs.YthaiibfnjgfgjaaDoor
