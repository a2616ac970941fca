/- The walks of the reference's step and Update, and of both Sums. -/
import Derived.Test.YtihiomgnegcbbaaDoorCrcUpd
namespace Go.Proofs.YtihiomgnegcbbaaDoor
open Go.RowKit
theorem crcSum (ao : Option Addr) (l : List (BitVec 8)) (cap : Nat) (w : World)
   (hl : l.length ≤ 140737488351232) (hr : Rd w ao l) (ht : Tab w) :
   Calls Tryd.prog 15 #[.slice ao l.length cap] w fun e w' => e = .returned (.int .u32 (n32 (Crc.sum l))) ∧ w = w' := by
  go_enter Tryd.func15, Tryd.ntmps15
  go_wp2_with fail
  have h := crcUpdate 0#32 ao l cap w hl hr ht
  rw [show n32 0#32 = 0 from by unfold n32; rfl] at h
  refine h.mono ?_
  rintro e w' ⟨rfl, rfl⟩
  go_wp2_with fail
  go_ret
  exact ⟨rfl, rfl⟩
set_option maxHeartbeats 400000 in
theorem refStep (r : BitVec 32) (w : World) :
   Calls Tryd.prog 24 #[.int .u32 (n32 r)] w fun e w' => e = .returned (.int .u32 (n32 (Crc.stp r))) ∧ w = w' := by
  have hx : ∀ a : BitVec 32, bits .xor .u32 (n32 a) 2197175160 = n32 (a ^^^ Crc.poly) := fun a => by
    rw [show (2197175160 : Int) = n32 Crc.poly from by unfold n32; rfl, xor32]
  cases hb : r.getLsbD 0
  · have hd : (n32 (r &&& 1#32) == 1) = false := by
      rw [show (1 : Int) = n32 1#32 from by unfold n32; rfl, n32_beq]
      rw [beq_eq_false_iff_ne]; intro h
      have := congrArg (fun x => x.getLsbD 0) h
      simp at this; simp [this] at hb
    have HS := Lib.hid (show Crc.stp r = r >>> 1 from Crc.stp_even r hb)
    clear hb
    go_enter Tryd.func24, Tryd.ntmps24
    go_wp2
    go_ret
    exact ⟨by rw [HS.out]; simp, rfl⟩
  · have hd : (n32 (r &&& 1#32) == 1) = true := by
      rw [show (1 : Int) = n32 1#32 from by unfold n32; rfl, n32_beq, beq_iff_eq]
      ext i hi
      rcases Nat.eq_zero_or_pos i with rfl | h
      · simpa using hb
      · simp; intro; omega
    have HS := Lib.hid (show Crc.stp r = (r >>> 1) ^^^ Crc.poly from by unfold Crc.stp; rw [hb]; rfl)
    clear hb
    go_enter Tryd.func24, Tryd.ntmps24
    go_wp2
    go_ret
    exact ⟨by rw [HS.out]; simp, rfl⟩
end Go.Proofs.YtihiomgnegcbbaaDoor
