/- bits.width of each type. -/
import Derived.Test.YtmhcfifenclebaaProg
import Derived.Test.YtmhcfifenclebaaBv
namespace Go.Proofs.Ytmhcfifenclebaa
open Go.RowKit
theorem pow_div (m : Nat) : ((256 ^ (m + 1) - 1 : Nat) : Int) / 256 = ((256 ^ m - 1 : Nat) : Int) := by
  have := Nat.pow_pos (n := m) (show 0 < 256 by omega)
  rw [Nat.pow_succ]; omega
theorem pow_ne (m : Nat) : (((256 ^ (m + 1) - 1 : Nat) : Int) != 0) = true := by
  have := Nat.pow_pos (n := m) (show 0 < 256 by omega)
  rw [Nat.pow_succ]; simp; omega
theorem width8 (w : World) : Calls Try.prog 43 #[] w fun e w' => e = .returned (.int .i64 1) ∧ w' = w := by
  go_enter Try.func43, Try.ntmps43
  go_wp2
  go_loop [1, 2] (fun n x => ∃ k m : Nat, k + m = 1 ∧ n = .int .i64 k ∧ x = .int .u64 ((256 ^ m - 1 : Nat) : Int)) (fun n _ => 1 - (intOf n).toNat)
  case atStart => exact ⟨0, 1, rfl, rfl, rfl⟩
  case round =>
    obtain ⟨k, m, hk, rfl, rfl⟩ := hrel
    cases m with
    | zero =>
      obtain rfl : k = 1 := by omega
      go_wp2
      go_ret
      exact ⟨rfl, rfl⟩
    | succ m =>
      have h1 := pow_div m
      have h2 := pow_ne m
      have h3 : 256 ^ m ≤ 256 ^ 8 := Nat.pow_le_pow_right (by omega) (by omega)
      go_wp2
      go_round
      case rel => exact ⟨k + 1, m, by omega, by go_num, rfl⟩
      case measure => simp [intOf]; omega
theorem width16 (w : World) : Calls Try.prog 41 #[] w fun e w' => e = .returned (.int .i64 2) ∧ w' = w := by
  go_enter Try.func41, Try.ntmps41
  go_wp2
  go_loop [1, 2] (fun n x => ∃ k m : Nat, k + m = 2 ∧ n = .int .i64 k ∧ x = .int .u64 ((256 ^ m - 1 : Nat) : Int)) (fun n _ => 2 - (intOf n).toNat)
  case atStart => exact ⟨0, 2, rfl, rfl, rfl⟩
  case round =>
    obtain ⟨k, m, hk, rfl, rfl⟩ := hrel
    cases m with
    | zero =>
      obtain rfl : k = 2 := by omega
      go_wp2
      go_ret
      exact ⟨rfl, rfl⟩
    | succ m =>
      have h1 := pow_div m
      have h2 := pow_ne m
      have h3 : 256 ^ m ≤ 256 ^ 8 := Nat.pow_le_pow_right (by omega) (by omega)
      go_wp2
      go_round
      case rel => exact ⟨k + 1, m, by omega, by go_num, rfl⟩
      case measure => simp [intOf]; omega
theorem width32 (w : World) : Calls Try.prog 44 #[] w fun e w' => e = .returned (.int .i64 4) ∧ w' = w := by
  go_enter Try.func44, Try.ntmps44
  go_wp2
  go_loop [1, 2] (fun n x => ∃ k m : Nat, k + m = 4 ∧ n = .int .i64 k ∧ x = .int .u64 ((256 ^ m - 1 : Nat) : Int)) (fun n _ => 4 - (intOf n).toNat)
  case atStart => exact ⟨0, 4, rfl, rfl, rfl⟩
  case round =>
    obtain ⟨k, m, hk, rfl, rfl⟩ := hrel
    cases m with
    | zero =>
      obtain rfl : k = 4 := by omega
      go_wp2
      go_ret
      exact ⟨rfl, rfl⟩
    | succ m =>
      have h1 := pow_div m
      have h2 := pow_ne m
      have h3 : 256 ^ m ≤ 256 ^ 8 := Nat.pow_le_pow_right (by omega) (by omega)
      go_wp2
      go_round
      case rel => exact ⟨k + 1, m, by omega, by go_num, rfl⟩
      case measure => simp [intOf]; omega
theorem width64 (w : World) : Calls Try.prog 42 #[] w fun e w' => e = .returned (.int .i64 8) ∧ w' = w := by
  go_enter Try.func42, Try.ntmps42
  go_wp2
  go_loop [1, 2] (fun n x => ∃ k m : Nat, k + m = 8 ∧ n = .int .i64 k ∧ x = .int .u64 ((256 ^ m - 1 : Nat) : Int)) (fun n _ => 8 - (intOf n).toNat)
  case atStart => exact ⟨0, 8, rfl, rfl, rfl⟩
  case round =>
    obtain ⟨k, m, hk, rfl, rfl⟩ := hrel
    cases m with
    | zero =>
      obtain rfl : k = 8 := by omega
      go_wp2
      go_ret
      exact ⟨rfl, rfl⟩
    | succ m =>
      have h1 := pow_div m
      have h2 := pow_ne m
      have h3 : 256 ^ m ≤ 256 ^ 8 := Nat.pow_le_pow_right (by omega) (by omega)
      go_wp2
      go_round
      case rel => exact ⟨k + 1, m, by omega, by go_num, rfl⟩
      case measure => simp [intOf]; omega
theorem widthWord (w : World) : Calls Try.prog 45 #[] w fun e w' => e = .returned (.int .i64 2) ∧ w' = w := by
  go_enter Try.func45, Try.ntmps45
  go_wp2
  go_loop [1, 2] (fun n x => ∃ k m : Nat, k + m = 2 ∧ n = .int .i64 k ∧ x = .int .u64 ((256 ^ m - 1 : Nat) : Int)) (fun n _ => 2 - (intOf n).toNat)
  case atStart => exact ⟨0, 2, rfl, rfl, rfl⟩
  case round =>
    obtain ⟨k, m, hk, rfl, rfl⟩ := hrel
    cases m with
    | zero =>
      obtain rfl : k = 2 := by omega
      go_wp2
      go_ret
      exact ⟨rfl, rfl⟩
    | succ m =>
      have h1 := pow_div m
      have h2 := pow_ne m
      have h3 : 256 ^ m ≤ 256 ^ 8 := Nat.pow_le_pow_right (by omega) (by omega)
      go_wp2
      go_round
      case rel => exact ⟨k + 1, m, by omega, by go_num, rfl⟩
      case measure => simp [intOf]; omega
theorem widthLong (w : World) : Calls Try.prog 46 #[] w fun e w' => e = .returned (.int .i64 8) ∧ w' = w := by
  go_enter Try.func46, Try.ntmps46
  go_wp2
  go_loop [1, 2] (fun n x => ∃ k m : Nat, k + m = 8 ∧ n = .int .i64 k ∧ x = .int .u64 ((256 ^ m - 1 : Nat) : Int)) (fun n _ => 8 - (intOf n).toNat)
  case atStart => exact ⟨0, 8, rfl, rfl, rfl⟩
  case round =>
    obtain ⟨k, m, hk, rfl, rfl⟩ := hrel
    cases m with
    | zero =>
      obtain rfl : k = 8 := by omega
      go_wp2
      go_ret
      exact ⟨rfl, rfl⟩
    | succ m =>
      have h1 := pow_div m
      have h2 := pow_ne m
      have h3 : 256 ^ m ≤ 256 ^ 8 := Nat.pow_le_pow_right (by omega) (by omega)
      go_wp2
      go_round
      case rel => exact ⟨k + 1, m, by omega, by go_num, rfl⟩
      case measure => simp [intOf]; omega
end Go.Proofs.Ytmhcfifenclebaa
