/- The walks of crc.Update and crc.Sum. -/
import Derived.Test.YthaiibfnjgfgjaaDoorProg
import Derived.Test.YthaiibfnjgfgjaaDoorBv
import Derived.Test.YthaiibfnjgfgjaaDoorCrcMaps
import Derived.Lib.LaidTab
import Derived.Lib.Hide
namespace Go.Proofs.YthaiibfnjgfgjaaDoor
open Go.RowKit
/-- The table lies where the program looks. -/
def Tab (w : World) : Prop := ∀ i : BitVec 32, w.cell? ⟨0, (n32 (i &&& 15#32)).toNat, none⟩ = some (.int .u32 (n32 (Crc.hf (i &&& 15#32))))
theorem Tab.below {B : Nat} {w w' : World} (h : Tab w) (hb : Below B w w') (hB : 0 < B) : Tab w' := fun i => (hb.cell hB).trans (h i)
theorem and15_lo (i : BitVec 32) : 0 ≤ n32 (i &&& 15#32) := n32_lo _
theorem and15_hi (i : BitVec 32) : n32 (i &&& 15#32) < 16 := by
  have := Crc.low_lt i
  unfold n32; omega
set_option maxHeartbeats 400000 in
theorem crcUpdate (c : BitVec 32) (ao : Option Addr) (l : List (BitVec 8)) (cap : Nat) (w : World)
   (hl : l.length ≤ 140737488351232) (hr : Rd w ao l) (ht : Tab w) :
   Calls Tryd.prog 75 #[.int .u32 (n32 c), .slice ao l.length cap] w fun e w' => e = .returned (.int .u32 (n32 (Crc.upd c l))) ∧ w = w' := by
  unfold Tab at ht
  have ht1 := and15_lo
  have ht2 := and15_hi
  by_cases hl0 : 0 < l.length
  · obtain ⟨b, o, rfl, hb⟩ := hr.at hl0
    clear hr
    go_enter Tryd.func75, Tryd.ntmps75
    go_wp2
    go_loop [5, 12] (fun r i => ∃ k : Nat, k ≤ l.length ∧ i = .int .i64 k ∧ r = .int .u32 (n32 (Crc.rg (~~~ c) (l.take k)))) (fun _ i => l.length - (intOf i).toNat)
    case atStart => exact ⟨0, Nat.zero_le _, rfl, rfl⟩
    case round =>
      obtain ⟨k, hk, rfl, rfl⟩ := hrel
      by_cases hlt : k < l.length
      · have hc := hb k hlt
        have HS := Lib.hid ((Crc.rg_snoc (~~~ c) l k hlt).trans (Crc.tk_half _ _))
        clear hb
        go_wp2
        go_round
        case rel => exact ⟨k + 1, by omega, by go_num, by rw [HS.out]; simp [List.getD, hlt]⟩
        case measure => simp [intOf]; omega
      · clear hb
        go_wp2
        go_ret
        exact ⟨by rw [Crc.rg_all _ _ _ (by omega)]; rfl, rfl⟩
  · obtain rfl : l = [] := List.length_eq_zero_iff.1 (by omega)
    clear hr
    go_enter Tryd.func75, Tryd.ntmps75
    go_wp2
    go_loop [5, 12] (fun r i => i = .int .i64 0 ∧ r = .int .u32 (n32 (~~~ c))) (fun _ i => 0)
    case atStart => exact ⟨rfl, rfl⟩
    case round =>
      obtain ⟨rfl, rfl⟩ := hrel
      go_wp2
      go_ret
      exact ⟨by simp [Crc.upd, Crc.rg], rfl⟩
theorem crcSum (ao : Option Addr) (l : List (BitVec 8)) (cap : Nat) (w : World)
   (hl : l.length ≤ 140737488351232) (hr : Rd w ao l) (ht : Tab w) :
   Calls Tryd.prog 63 #[.slice ao l.length cap] w fun e w' => e = .returned (.int .u32 (n32 (Crc.sum l))) ∧ w = w' := by
  go_enter Tryd.func63, Tryd.ntmps63
  go_wp2_with fail
  have h := crcUpdate 0#32 ao l cap w hl hr ht
  rw [show n32 0#32 = 0 from by unfold n32; rfl] at h
  refine h.mono ?_
  rintro e w' ⟨rfl, rfl⟩
  go_wp2_with fail
  go_ret
  exact ⟨rfl, rfl⟩
end Go.Proofs.YthaiibfnjgfgjaaDoor
