/- SameBytes at lengths that are named apart. -/
import Derived.Test.YthaiibfnjgfgjaaDoorBytes
namespace Go.Proofs.YthaiibfnjgfgjaaDoor
open Go.RowKit
theorem sameAs (ao bo : Option Addr) (l m : List (BitVec 8)) (n k c1 c2 : Nat) (w : World) (hn : l.length = n) (hk : m.length = k)
   (hl : n ≤ 281474976710656) (hm : k ≤ 281474976710656) (hr : Rd w ao l) (hs : Rd w bo m) :
   Calls Tryd.prog 41 #[.slice ao n c1, .slice bo k c2] w fun e w' => e = .returned (.bool (l == m)) ∧ Still w w' := by
  subst hn hk
  exact sameBytes ao bo l m c1 c2 w hl hm hr hs
/-- The same where the two are alike. -/
theorem sameTrue (ao bo : Option Addr) (l : List (BitVec 8)) (n k c1 c2 : Nat) (w : World) (hn : l.length = n) (hk : l.length = k)
   (hl : n ≤ 281474976710656) (hr : Rd w ao l) (hs : Rd w bo l) :
   Calls Tryd.prog 41 #[.slice ao n c1, .slice bo k c2] w fun e w' => e = .returned (.bool true) ∧ Still w w' := by
  subst hn hk
  refine (sameBytes ao bo l l c1 c2 w hl hl hr hs).mono ?_
  rintro e w1 ⟨rfl, h⟩
  exact ⟨by simp, h⟩
end Go.Proofs.YthaiibfnjgfgjaaDoor
