/- The walk of CrcJoins. -/
import Derived.Test.YtihiomgnegcbbaaDoorCrcFirst
namespace Go.Proofs.YtihiomgnegcbbaaDoor
open Go.RowKit
set_option maxHeartbeats 400000 in
theorem lawJoins (a b : BitVec 32) (n : Int) (hn : n < 9223372036854775808) (w : World) (ht : Tab w) (hw : 0 < w.heap.size) :
   Calls Tryd.prog 5 #[.int .u32 (n32 a), .int .u32 (n32 b), .int .i64 n] w fun e w' => e = .returned (.bool true) ∧ Below w.heap.size w w' := by
  go_enter Tryd.func5, Tryd.ntmps5
  go_wp2_with fail
  refine (lawFirst w ht hw).mono ?_
  rintro e w1 ⟨rfl, hb1⟩
  go_wp2_with fail
  refine (crcJoin a b n hn w1).mono ?_
  rintro e w2 ⟨rfl, hb2⟩
  go_wp2_with fail
  refine (refJoin a b n hn w2).mono ?_
  rintro e w3 ⟨rfl, hb3⟩
  have hb := (hb1.trans (hb2.mono hb1.size)).trans (hb3.mono (Nat.le_trans hb1.size hb2.size))
  clear hb1 hb2 hb3
  go_wp2
  go_ret
  exact ⟨rfl, hb⟩
end Go.Proofs.YtihiomgnegcbbaaDoor
