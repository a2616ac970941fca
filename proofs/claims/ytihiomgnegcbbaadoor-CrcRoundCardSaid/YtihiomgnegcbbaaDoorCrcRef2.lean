/- The walks of the reference's Update and Sum. -/
import Derived.Test.YtihiomgnegcbbaaDoorCrcRef
namespace Go.Proofs.YtihiomgnegcbbaaDoor
open Go.RowKit
set_option maxHeartbeats 400000 in
theorem refUpdate (c : BitVec 32) (ao : Option Addr) (l : List (BitVec 8)) (cap : Nat) (w : World)
   (hl : l.length ≤ 140737488351232) (hr : Rd w ao l) :
   Calls Tryd.prog 19 #[.int .u32 (n32 c), .slice ao l.length cap] w fun e w' => e = .returned (.int .u32 (n32 (Crc.upd c l))) ∧ w = w' := by
  by_cases hl0 : 0 < l.length
  · obtain ⟨b, o, rfl, hb⟩ := hr.at hl0
    clear hr
    go_enter Tryd.func19, Tryd.ntmps19
    go_wp2
    go_loop [5, 6] (fun r i => ∃ k : Nat, k ≤ l.length ∧ i = .int .i64 k ∧ r = .int .u32 (n32 (Crc.rg (~~~ c) (l.take k)))) (fun _ i => l.length - (intOf i).toNat)
    case atStart => exact ⟨0, Nat.zero_le _, rfl, rfl⟩
    case round =>
      obtain ⟨k, hk, rfl, rfl⟩ := hrel
      by_cases hlt : k < l.length
      · have hc := hb k hlt
        have hS := Crc.rg_snoc (~~~ c) l k hlt
        obtain ⟨x, hx⟩ : ∃ x, l.getD k 0#8 = x := ⟨_, rfl⟩
        rw [hx] at hc hS
        have HS := Lib.hid hS
        clear hb hx hS
        go_wp2
        go_loop [5, 7] (fun r i => ∃ j : Nat, j ≤ 8 ∧ i = .int .i64 j ∧ r = .int .u32 (n32 (Crc.it j (Crc.rg (~~~ c) (l.take k) ^^^ x.setWidth 32)))) (fun _ i => 8 - (intOf i).toNat)
        case atStart => exact ⟨0, Nat.zero_le _, rfl, by simp [Crc.it]⟩
        case round =>
          obtain ⟨j, hj, rfl, rfl⟩ := hrel
          by_cases hlt2 : j < 8
          · go_wp2_with (go_at_call 24; refine (refStep _ _).mono ?_; rintro e w' ⟨rfl, rfl⟩)
            go_round
            case rel => exact ⟨j + 1, by omega, by go_num, by rw [Crc.it_succ']⟩
            case measure => simp [intOf]; omega
          · obtain rfl : j = 8 := by omega
            go_wp2
            go_round
            case rel => exact ⟨k + 1, by omega, by go_num, by rw [HS.out]; rfl⟩
            case measure => simp [intOf]; omega
      · clear hb
        go_wp2
        go_ret
        exact ⟨by rw [Crc.rg_all _ _ _ (by omega)]; rfl, rfl⟩
  · obtain rfl : l = [] := List.length_eq_zero_iff.1 (by omega)
    clear hr
    go_enter Tryd.func19, Tryd.ntmps19
    go_wp2
    go_loop [5, 6] (fun r i => i = .int .i64 0 ∧ r = .int .u32 (n32 (~~~ c))) (fun _ i => 0)
    case atStart => exact ⟨rfl, rfl⟩
    case round =>
      obtain ⟨rfl, rfl⟩ := hrel
      go_wp2
      go_ret
      exact ⟨by simp [Crc.upd, Crc.rg], rfl⟩
theorem refSum (ao : Option Addr) (l : List (BitVec 8)) (cap : Nat) (w : World)
   (hl : l.length ≤ 140737488351232) (hr : Rd w ao l) :
   Calls Tryd.prog 16 #[.slice ao l.length cap] w fun e w' => e = .returned (.int .u32 (n32 (Crc.sum l))) ∧ w = w' := by
  go_enter Tryd.func16, Tryd.ntmps16
  go_wp2_with fail
  have h := refUpdate 0#32 ao l cap w hl hr
  rw [show n32 0#32 = 0 from by unfold n32; rfl] at h
  refine h.mono ?_
  rintro e w' ⟨rfl, rfl⟩
  go_wp2_with fail
  go_ret
  exact ⟨rfl, rfl⟩
end Go.Proofs.YtihiomgnegcbbaaDoor
