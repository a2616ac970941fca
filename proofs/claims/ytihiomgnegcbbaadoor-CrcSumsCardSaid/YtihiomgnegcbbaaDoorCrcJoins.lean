/- Both Joins, at every number. -/
import Derived.Test.YtihiomgnegcbbaaDoorCrcSteps
namespace Go.Proofs.YtihiomgnegcbbaaDoor
open Go.RowKit
theorem crcJoin (a b : BitVec 32) (n : Int) (hn : n < 9223372036854775808) (w : World) :
   Calls Tryd.prog 20 #[.int .u32 (n32 a), .int .u32 (n32 b), .int .i64 n] w fun e w' => e = .returned (.int .u32 (n32 (Crc.join a b n))) ∧ Below w.heap.size w w' := by
  by_cases h : n < 0
  · unfold Crc.join; rw [if_pos h]; exact crcJoin_neg a b n h w
  · obtain ⟨m, rfl⟩ := Int.eq_ofNat_of_zero_le (show 0 ≤ n by omega)
    unfold Crc.join; rw [if_neg h, Int.toNat_natCast]; exact crcJoin_pos a b m (by omega) w
set_option maxHeartbeats 400000 in
theorem refJoin (a b : BitVec 32) (n : Int) (hn : n < 9223372036854775808) (w : World) :
   Calls Tryd.prog 21 #[.int .u32 (n32 a), .int .u32 (n32 b), .int .i64 n] w fun e w' => e = .returned (.int .u32 (n32 (Crc.join a b n))) ∧ Below w.heap.size w w' := by
  by_cases h : n < 0
  · unfold Crc.join; rw [if_pos h]
    go_enter Tryd.func21, Tryd.ntmps21
    go_wp2
    go_ret
    exact ⟨by unfold n32; rfl, Below.refl _ _⟩
  · obtain ⟨m, rfl⟩ := Int.eq_ofNat_of_zero_le (show 0 ≤ n by omega)
    unfold Crc.join; rw [if_neg h, Int.toNat_natCast]
    have hm : m < 9223372036854775808 := by omega
    clear hn h
    obtain ⟨q, hq, hqi, hq2⟩ : ∃ q : Nat, m % 2147483647 * 8 % 2147483647 = q ∧ (q : Int) = (m : Int) % 2147483647 * 8 % 2147483647 ∧ q < 2147483647 := ⟨_, rfl, by omega, by omega⟩
    rw [hq]
    have HQ := Lib.hid hqi
    clear hq hqi
    go_enter Tryd.func21, Tryd.ntmps21
    go_wp2_with fail
    have HS := refSteps a q hq2 w
    rw [HQ.out] at HS
    refine HS.mono ?_
    clear HS
    rintro e w1 ⟨rfl, hb⟩
    go_wp2
    go_ret
    exact ⟨rfl, hb⟩
end Go.Proofs.YtihiomgnegcbbaaDoor
