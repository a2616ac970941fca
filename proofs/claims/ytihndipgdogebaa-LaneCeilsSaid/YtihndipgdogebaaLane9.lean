/- What the program's Answered makes of a lane. -/
import Derived.Test.YtihndipgdogebaaLane8
namespace Go.Proofs.Ytihndipgdogebaa
open Go.RowKit
def lessB (a b c d : Int) : Bool := decide (a < c) || (a == c && decide (b < d))
theorem stampLess (a b c d : Int) (w : World) : Calls Try.prog 59 #[.agg #[.int .i64 a, .int .i64 b], .agg #[.int .i64 c, .int .i64 d]] w fun e w' => e = .returned (.bool (lessB a b c d)) ∧ Below w.heap.size w w' := by
  by_cases h : a < c
  · have hb : lessB a b c d = true := by simp [lessB, h]
    rw [hb]
    go_enter Try.func59, Try.ntmps59
    go_wp2
    go_ret
    exact ⟨rfl, fresh2 _ _ _⟩
  · by_cases h2 : a = c
    · subst h2
      have hb : lessB a b a d = decide (b < d) := by simp [lessB]
      rw [hb]
      go_enter Try.func59, Try.ntmps59
      go_wp2
      go_ret
      exact ⟨rfl, fresh2 _ _ _⟩
    · have hb : lessB a b c d = false := by simp [lessB, h, h2]
      rw [hb]
      have h3 : (a == c) = false := beq_eq_false_iff_ne.2 h2
      clear h2
      go_enter Try.func59, Try.ntmps59
      go_wp2
      go_ret
      exact ⟨rfl, fresh2 _ _ _⟩
def mayA (L : Ln) (g c ss sn b : Int) : Bool := L.ok && (blkB b && (decide (L.cur < g) && (decide (g ≤ 2147483647) && (decide (c ≤ 18446744073709551614) && (stampB ss sn && lessB L.sec L.nano ss sn)))))
def atA (L : Ln) (g c ss sn b : Int) : Int := if mayA L g c ss sn b = true then (if g ≤ L.next then 1 else 0) else 0
def answeredL (L : Ln) (g c ss sn b : Int) : Ln := if mayA L g c ss sn b = true then L.keep g L.next (upF (atA L g c ss sn b) b) (upF c b) ss sn else Ln.zero
end Go.Proofs.Ytihndipgdogebaa
