/- Blocks and Up of both sides. -/
import Derived.Test.YtihndipgdogebaaLane1
namespace Go.Proofs.Ytihndipgdogebaa
open Go.RowKit
def blkB (b : Int) : Bool := decide (1 ≤ b) && decide (b ≤ 1048576)
def upF (c b : Int) : Int := if blkB b = true then (if 18446744073709551615 - b ≤ c then 18446744073709551615 else c + b) else 0
theorem laneBlock (b : Int) (w : World) : Calls Try.prog 49 #[.int .i64 b] w fun e w' => e = .returned (.bool (blkB b)) ∧ w' = w := by
  by_cases h1 : 1 ≤ b
  · have hb : blkB b = decide (b ≤ 1048576) := by simp [blkB, h1]
    rw [hb]
    go_enter Try.func49, Try.ntmps49
    go_wp2
    go_ret
    exact ⟨rfl, rfl⟩
  · have hb : blkB b = false := by simp [blkB, h1]
    rw [hb]
    go_enter Try.func49, Try.ntmps49
    go_wp2
    go_ret
    exact ⟨rfl, rfl⟩
theorem refBlocks (b : Int) (w : World) : Calls Try.prog 50 #[.int .i64 b] w fun e w' => e = .returned (.bool (blkB b)) ∧ w' = w := by
  by_cases h1 : 1 ≤ b
  · have hb : blkB b = decide (b ≤ 1048576) := by simp [blkB, h1]
    rw [hb]
    go_enter Try.func50, Try.ntmps50
    go_wp2
    go_ret
    exact ⟨rfl, rfl⟩
  · have hb : blkB b = false := by simp [blkB, h1]
    rw [hb]
    go_enter Try.func50, Try.ntmps50
    go_wp2
    go_ret
    exact ⟨rfl, rfl⟩
theorem blkB_le {b : Int} (h : blkB b = true) : 1 ≤ b ∧ b ≤ 1048576 := by simpa [blkB] using h
theorem laneUp (c b : Int) (hc0 : 0 ≤ c) (hc1 : c ≤ 18446744073709551615) (w : World) : Calls Try.prog 21 #[.int .u64 c, .int .i64 b] w fun e w' => e = .returned (.int .u64 (upF c b)) ∧ w' = w := by
  by_cases hb : blkB b = true
  · obtain ⟨hb0, hb1⟩ := blkB_le hb
    by_cases hg : 18446744073709551615 - b ≤ c
    · have hu : upF c b = 18446744073709551615 := by simp [upF, hb, hg]
      rw [hu]
      have HB := Lib.hid hb
      clear hu hb
      go_enter Try.func21, Try.ntmps21
      go_wp2_with fail
      refine (laneBlock b w).mono ?_
      rintro e w1 ⟨rfl, rfl⟩
      rw [HB.out]
      go_wp2
      go_ret
      exact ⟨rfl, rfl⟩
    · have hu : upF c b = c + b := by simp [upF, hb, hg]
      rw [hu]
      have HB := Lib.hid hb
      clear hu hb
      go_enter Try.func21, Try.ntmps21
      go_wp2_with fail
      refine (laneBlock b w).mono ?_
      rintro e w1 ⟨rfl, rfl⟩
      rw [HB.out]
      go_wp2
      go_ret
      exact ⟨rfl, rfl⟩
  · have hb' : blkB b = false := by simpa using hb
    have hu : upF c b = 0 := by simp [upF, hb']
    rw [hu]
    have HB := Lib.hid hb'
    clear hu hb hb'
    go_enter Try.func21, Try.ntmps21
    go_wp2_with fail
    refine (laneBlock b w).mono ?_
    rintro e w1 ⟨rfl, rfl⟩
    rw [HB.out]
    go_wp2
    go_ret
    exact ⟨rfl, rfl⟩
theorem refUp (c b : Int) (hc0 : 0 ≤ c) (hc1 : c ≤ 18446744073709551615) (w : World) : Calls Try.prog 22 #[.int .u64 c, .int .i64 b] w fun e w' => e = .returned (.int .u64 (upF c b)) ∧ w' = w := by
  by_cases hb : blkB b = true
  · obtain ⟨hb0, hb1⟩ := blkB_le hb
    by_cases hg : 18446744073709551615 - b < c
    · have hu : upF c b = 18446744073709551615 := by simp [upF, hb]; omega
      rw [hu]
      have HB := Lib.hid hb
      clear hu hb
      go_enter Try.func22, Try.ntmps22
      go_wp2_with fail
      refine (refBlocks b w).mono ?_
      rintro e w1 ⟨rfl, rfl⟩
      rw [HB.out]
      go_wp2
      go_ret
      exact ⟨rfl, rfl⟩
    · have hu : upF c b = c + b := by simp [upF, hb]; omega
      rw [hu]
      have HB := Lib.hid hb
      clear hu hb
      go_enter Try.func22, Try.ntmps22
      go_wp2_with fail
      refine (refBlocks b w).mono ?_
      rintro e w1 ⟨rfl, rfl⟩
      rw [HB.out]
      go_wp2
      go_ret
      exact ⟨rfl, rfl⟩
  · have hb' : blkB b = false := by simpa using hb
    have hu : upF c b = 0 := by simp [upF, hb']
    rw [hu]
    have HB := Lib.hid hb'
    clear hu hb hb'
    go_enter Try.func22, Try.ntmps22
    go_wp2_with fail
    refine (refBlocks b w).mono ?_
    rintro e w1 ⟨rfl, rfl⟩
    rw [HB.out]
    go_wp2
    go_ret
    exact ⟨rfl, rfl⟩
end Go.Proofs.Ytihndipgdogebaa
