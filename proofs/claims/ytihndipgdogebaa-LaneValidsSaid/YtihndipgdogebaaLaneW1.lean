/- The walks of LaneValids, LaneUps, LaneUpper. -/
import Derived.Test.YtihndipgdogebaaLane13
namespace Go.Proofs.Ytihndipgdogebaa
open Go.RowKit
set_option maxHeartbeats 800000 in
theorem lawValids (L : Ln) (ao : Option Addr) (cap : Nat) (w : World) (hs : L.sec ≤ 9223372036854775807) : Calls Try.prog 3 #[L.val ao cap] w fun e w' => e = .returned (.bool true) ∧ Below w.heap.size w w' := by
  obtain ⟨ok, hok⟩ : ∃ b, L.ok = b := ⟨_, rfl⟩
  obtain ⟨key, side, cur, next, send, ceil, sec, nano⟩ := L
  unfold Ln.val
  simp only at hs ⊢
  have HK := Lib.hid hok
  clear hok
  cases ok with
  | false =>
    go_enter Try.func3, Try.ntmps3
    go_wp2_with fail
    refine (laneKnown _).mono ?_
    rintro e w1 ⟨rfl, hb⟩
    have hz := hb.size
    simp only [alloc_size] at hz
    have hB := ((Below.refl _ w).alloc (Nat.le_refl _) _).trans (hb.mono (by simp only [alloc_size]; omega))
    have x : w1.heap[w.heap.size]? = some (.cells #[.slice ao key.length cap, .int .i64 side, .int .i64 cur, .int .i64 next, .int .u64 send, .int .u64 ceil, .int .i64 sec, .int .i64 nano] 27 (0, 0)) := (hb_block hb (w.heap.size) (by simp only [alloc_size]; omega)).trans (by simp only [alloc_get]; repeat first | rw [if_pos trivial] | rw [if_neg (by omega)] | rw [if_pos (by omega)])
    clear hb
    have a0 : w1.cell? ⟨w.heap.size, 0, none⟩ = some (.slice ao key.length cap) := cell_of_row w1 (w.heap.size) 0 _ _ _ x
    have a1 : w1.cell? ⟨w.heap.size, 1, none⟩ = some (.int .i64 side) := cell_of_row w1 (w.heap.size) 1 _ _ _ x
    have a2 : w1.cell? ⟨w.heap.size, 2, none⟩ = some (.int .i64 cur) := cell_of_row w1 (w.heap.size) 2 _ _ _ x
    have a3 : w1.cell? ⟨w.heap.size, 3, none⟩ = some (.int .i64 next) := cell_of_row w1 (w.heap.size) 3 _ _ _ x
    have a4 : w1.cell? ⟨w.heap.size, 4, none⟩ = some (.int .u64 send) := cell_of_row w1 (w.heap.size) 4 _ _ _ x
    have a5 : w1.cell? ⟨w.heap.size, 5, none⟩ = some (.int .u64 ceil) := cell_of_row w1 (w.heap.size) 5 _ _ _ x
    have a6 : w1.cell? ⟨w.heap.size, 6, none⟩ = some (.int .i64 sec) := cell_of_row w1 (w.heap.size) 6 _ _ _ x
    have a7 : w1.cell? ⟨w.heap.size, 7, none⟩ = some (.int .i64 nano) := cell_of_row w1 (w.heap.size) 7 _ _ _ x
    have af (i : Nat) : w1.frozen? ⟨w.heap.size, i, none⟩ = false := frozen_of_row w1 (w.heap.size) i _ _ x
    have X := Lib.hid x
    clear x
    go_wp2_with fail
    refine (laneValid ⟨key, side, cur, next, send, ceil, sec, nano⟩ ao cap hs _).mono ?_
    rintro e w2 ⟨rfl, hb⟩
    rw [HK.out]
    have x : w2.heap[w.heap.size]? = some (.cells #[.slice ao key.length cap, .int .i64 side, .int .i64 cur, .int .i64 next, .int .u64 send, .int .u64 ceil, .int .i64 sec, .int .i64 nano] 27 (0, 0)) := (hb.block _ (by omega)).trans X.out
    have hB2 := hB.trans (hb.mono (by omega))
    clear hb X
    clear a0 a1 a2 a3 a4 a5 a6 a7 af
    have a0 : w2.cell? ⟨w.heap.size, 0, none⟩ = some (.slice ao key.length cap) := cell_of_row w2 (w.heap.size) 0 _ _ _ x
    have a1 : w2.cell? ⟨w.heap.size, 1, none⟩ = some (.int .i64 side) := cell_of_row w2 (w.heap.size) 1 _ _ _ x
    have a2 : w2.cell? ⟨w.heap.size, 2, none⟩ = some (.int .i64 cur) := cell_of_row w2 (w.heap.size) 2 _ _ _ x
    have a3 : w2.cell? ⟨w.heap.size, 3, none⟩ = some (.int .i64 next) := cell_of_row w2 (w.heap.size) 3 _ _ _ x
    have a4 : w2.cell? ⟨w.heap.size, 4, none⟩ = some (.int .u64 send) := cell_of_row w2 (w.heap.size) 4 _ _ _ x
    have a5 : w2.cell? ⟨w.heap.size, 5, none⟩ = some (.int .u64 ceil) := cell_of_row w2 (w.heap.size) 5 _ _ _ x
    have a6 : w2.cell? ⟨w.heap.size, 6, none⟩ = some (.int .i64 sec) := cell_of_row w2 (w.heap.size) 6 _ _ _ x
    have a7 : w2.cell? ⟨w.heap.size, 7, none⟩ = some (.int .i64 nano) := cell_of_row w2 (w.heap.size) 7 _ _ _ x
    have af (i : Nat) : w2.frozen? ⟨w.heap.size, i, none⟩ = false := frozen_of_row w2 (w.heap.size) i _ _ x
    clear x
    go_wp2_with fail
    refine (refLaneValid ⟨key, side, cur, next, send, ceil, sec, nano⟩ ao cap _).mono ?_
    rintro e w3 ⟨rfl, hb⟩
    rw [HK.out]
    have hB3 := hB2.trans (hb.mono hB2.size)
    clear hb
    clear a0 a1 a2 a3 a4 a5 a6 a7 af
    go_wp2_with fail
    go_ret
    exact ⟨rfl, hB3⟩
  | true =>
    go_enter Try.func3, Try.ntmps3
    go_wp2_with fail
    refine (laneKnown _).mono ?_
    rintro e w1 ⟨rfl, hb⟩
    have hz := hb.size
    simp only [alloc_size] at hz
    have hB := ((Below.refl _ w).alloc (Nat.le_refl _) _).trans (hb.mono (by simp only [alloc_size]; omega))
    have x : w1.heap[w.heap.size]? = some (.cells #[.slice ao key.length cap, .int .i64 side, .int .i64 cur, .int .i64 next, .int .u64 send, .int .u64 ceil, .int .i64 sec, .int .i64 nano] 27 (0, 0)) := (hb_block hb (w.heap.size) (by simp only [alloc_size]; omega)).trans (by simp only [alloc_get]; repeat first | rw [if_pos trivial] | rw [if_neg (by omega)] | rw [if_pos (by omega)])
    clear hb
    have a0 : w1.cell? ⟨w.heap.size, 0, none⟩ = some (.slice ao key.length cap) := cell_of_row w1 (w.heap.size) 0 _ _ _ x
    have a1 : w1.cell? ⟨w.heap.size, 1, none⟩ = some (.int .i64 side) := cell_of_row w1 (w.heap.size) 1 _ _ _ x
    have a2 : w1.cell? ⟨w.heap.size, 2, none⟩ = some (.int .i64 cur) := cell_of_row w1 (w.heap.size) 2 _ _ _ x
    have a3 : w1.cell? ⟨w.heap.size, 3, none⟩ = some (.int .i64 next) := cell_of_row w1 (w.heap.size) 3 _ _ _ x
    have a4 : w1.cell? ⟨w.heap.size, 4, none⟩ = some (.int .u64 send) := cell_of_row w1 (w.heap.size) 4 _ _ _ x
    have a5 : w1.cell? ⟨w.heap.size, 5, none⟩ = some (.int .u64 ceil) := cell_of_row w1 (w.heap.size) 5 _ _ _ x
    have a6 : w1.cell? ⟨w.heap.size, 6, none⟩ = some (.int .i64 sec) := cell_of_row w1 (w.heap.size) 6 _ _ _ x
    have a7 : w1.cell? ⟨w.heap.size, 7, none⟩ = some (.int .i64 nano) := cell_of_row w1 (w.heap.size) 7 _ _ _ x
    have af (i : Nat) : w1.frozen? ⟨w.heap.size, i, none⟩ = false := frozen_of_row w1 (w.heap.size) i _ _ x
    have X := Lib.hid x
    clear x
    go_wp2_with fail
    refine (laneValid ⟨key, side, cur, next, send, ceil, sec, nano⟩ ao cap hs _).mono ?_
    rintro e w2 ⟨rfl, hb⟩
    rw [HK.out]
    have x : w2.heap[w.heap.size]? = some (.cells #[.slice ao key.length cap, .int .i64 side, .int .i64 cur, .int .i64 next, .int .u64 send, .int .u64 ceil, .int .i64 sec, .int .i64 nano] 27 (0, 0)) := (hb.block _ (by omega)).trans X.out
    have hB2 := hB.trans (hb.mono (by omega))
    clear hb X
    clear a0 a1 a2 a3 a4 a5 a6 a7 af
    have a0 : w2.cell? ⟨w.heap.size, 0, none⟩ = some (.slice ao key.length cap) := cell_of_row w2 (w.heap.size) 0 _ _ _ x
    have a1 : w2.cell? ⟨w.heap.size, 1, none⟩ = some (.int .i64 side) := cell_of_row w2 (w.heap.size) 1 _ _ _ x
    have a2 : w2.cell? ⟨w.heap.size, 2, none⟩ = some (.int .i64 cur) := cell_of_row w2 (w.heap.size) 2 _ _ _ x
    have a3 : w2.cell? ⟨w.heap.size, 3, none⟩ = some (.int .i64 next) := cell_of_row w2 (w.heap.size) 3 _ _ _ x
    have a4 : w2.cell? ⟨w.heap.size, 4, none⟩ = some (.int .u64 send) := cell_of_row w2 (w.heap.size) 4 _ _ _ x
    have a5 : w2.cell? ⟨w.heap.size, 5, none⟩ = some (.int .u64 ceil) := cell_of_row w2 (w.heap.size) 5 _ _ _ x
    have a6 : w2.cell? ⟨w.heap.size, 6, none⟩ = some (.int .i64 sec) := cell_of_row w2 (w.heap.size) 6 _ _ _ x
    have a7 : w2.cell? ⟨w.heap.size, 7, none⟩ = some (.int .i64 nano) := cell_of_row w2 (w.heap.size) 7 _ _ _ x
    have af (i : Nat) : w2.frozen? ⟨w.heap.size, i, none⟩ = false := frozen_of_row w2 (w.heap.size) i _ _ x
    clear x
    go_wp2_with fail
    refine (refLaneValid ⟨key, side, cur, next, send, ceil, sec, nano⟩ ao cap _).mono ?_
    rintro e w3 ⟨rfl, hb⟩
    rw [HK.out]
    have hB3 := hB2.trans (hb.mono hB2.size)
    clear hb
    clear a0 a1 a2 a3 a4 a5 a6 a7 af
    go_wp2_with fail
    go_ret
    exact ⟨rfl, hB3⟩
theorem lawUps (c b : Int) (w : World) (hc0 : 0 ≤ c) (hc1 : c ≤ 18446744073709551615) : Calls Try.prog 5 #[.int .u64 c, .int .i64 b] w fun e w' => e = .returned (.bool true) ∧ Below w.heap.size w w' := by
  obtain ⟨u, hu⟩ : ∃ u, upF c b = u := ⟨_, rfl⟩
  have HU := Lib.hid hu
  clear hu
  go_enter Try.func5, Try.ntmps5
  go_wp2_with fail
  refine (laneKnown _).mono ?_
  rintro e w1 ⟨rfl, hb⟩
  go_wp2_with fail
  refine (laneUp c b hc0 hc1 _).mono ?_
  rintro e w2 ⟨rfl, hw⟩
  obtain rfl := hw.symm
  rw [HU.out]
  go_wp2_with fail
  refine (refUp c b hc0 hc1 _).mono ?_
  rintro e w2 ⟨rfl, hw⟩
  obtain rfl := hw.symm
  rw [HU.out]
  have h0 : (u == u) = true := by simp
  go_wp2_with fail
  go_ret
  exact ⟨rfl, hb⟩
theorem lawUpper_n (c d b : Int) (w : World) (hc0 : 0 ≤ c) (hc1 : c ≤ 18446744073709551615) (_hd0 : 0 ≤ d) (_hd1 : d ≤ 18446744073709551615) (hb : blkB b = false) : Calls Try.prog 11 #[.int .u64 c, .int .u64 d, .int .i64 b] w fun e w' => e = .returned (.bool true) ∧ Below w.heap.size w w' := by
  have hu : upF c b = 0 := by simp [upF, hb]
  have hn : b < 1 ∨ (1 ≤ b ∧ 1048576 < b) := by
    simp [blkB] at hb
    omega
  have HU := Lib.hid hu
  clear hb hu
  rcases hn with hn | ⟨hn, hn2⟩
  · go_enter Try.func11, Try.ntmps11
    go_wp2_with fail
    refine (laneKnown _).mono ?_
    rintro e w1 ⟨rfl, hb⟩
    have HB := Lib.hid hb
    clear hb
    go_wp2_with fail
    refine (laneUp c b hc0 hc1 _).mono ?_
    rintro e w2 ⟨rfl, hw⟩
    obtain rfl := hw.symm
    rw [HU.out]
    go_wp2_with fail
    go_ret
    exact ⟨rfl, HB.out⟩
  · go_enter Try.func11, Try.ntmps11
    go_wp2_with fail
    refine (laneKnown _).mono ?_
    rintro e w1 ⟨rfl, hb⟩
    have HB := Lib.hid hb
    clear hb
    go_wp2_with fail
    refine (laneUp c b hc0 hc1 _).mono ?_
    rintro e w2 ⟨rfl, hw⟩
    obtain rfl := hw.symm
    rw [HU.out]
    go_wp2_with fail
    go_ret
    exact ⟨rfl, HB.out⟩
theorem upF_mono {c d b : Int} (h : c ≤ d) (_hd : d ≤ 18446744073709551615) : upF c b ≤ upF d b := by
  unfold upF
  split
  · split <;> split <;> omega
  · omega
set_option maxHeartbeats 800000 in
theorem lawUpper_a (c d b : Int) (w : World) (hc0 : 0 ≤ c) (hc1 : c ≤ 18446744073709551615) (hd0 : 0 ≤ d) (hd1 : d ≤ 18446744073709551615) (hb : blkB b = true) (h : c = 18446744073709551615) (hcd : d < c) : Calls Try.prog 11 #[.int .u64 c, .int .u64 d, .int .i64 b] w fun e w' => e = .returned (.bool true) ∧ Below w.heap.size w w' := by
  obtain ⟨hb0, hb1⟩ := blkB_le hb
  subst h
  have hu : upF 18446744073709551615 b = 18446744073709551615 := by simp [upF, hb]; omega
  obtain ⟨v, hv⟩ : ∃ v, upF d b = v := ⟨_, rfl⟩
  have HU := Lib.hid hu
  have HV := Lib.hid hv
  clear hu hv hb hc0 hc1
  go_enter Try.func11, Try.ntmps11
  go_wp2_with fail
  refine (laneKnown _).mono ?_
  rintro e w1 ⟨rfl, hb⟩
  have HB := Lib.hid hb
  clear hb
  go_wp2_with fail
  refine (laneUp 18446744073709551615 b (by decide) (by decide) _).mono ?_
  rintro e w2 ⟨rfl, hw⟩
  obtain rfl := hw.symm
  rw [HU.out]
  clear hw
  go_wp2_with fail
  refine (laneUp d b hd0 hd1 _).mono ?_
  rintro e w2 ⟨rfl, hw⟩
  obtain rfl := hw.symm
  rw [HV.out]
  clear hw
  go_wp2_with fail
  all_goals go_ret
  all_goals exact ⟨rfl, HB.out⟩
set_option maxHeartbeats 800000 in
theorem lawUpper_b (c d b : Int) (w : World) (hc0 : 0 ≤ c) (hc1 : c ≤ 18446744073709551615) (hd0 : 0 ≤ d) (hd1 : d ≤ 18446744073709551615) (hb : blkB b = true) (h : c = 18446744073709551615) (hcd : ¬ d < c) : Calls Try.prog 11 #[.int .u64 c, .int .u64 d, .int .i64 b] w fun e w' => e = .returned (.bool true) ∧ Below w.heap.size w w' := by
  obtain ⟨hb0, hb1⟩ := blkB_le hb
  subst h
  obtain rfl : d = 18446744073709551615 := by omega
  have hu : upF 18446744073709551615 b = 18446744073709551615 := by simp [upF, hb]; omega
  have HU := Lib.hid hu
  have HV := Lib.hid hu
  clear hu hb hc0 hc1 hcd hd0 hd1
  go_enter Try.func11, Try.ntmps11
  go_wp2_with fail
  refine (laneKnown _).mono ?_
  rintro e w1 ⟨rfl, hb⟩
  have HB := Lib.hid hb
  clear hb
  go_wp2_with fail
  refine (laneUp 18446744073709551615 b (by decide) (by decide) _).mono ?_
  rintro e w2 ⟨rfl, hw⟩
  obtain rfl := hw.symm
  rw [HU.out]
  clear hw
  go_wp2_with fail
  refine (laneUp 18446744073709551615 b (by decide) (by decide) _).mono ?_
  rintro e w2 ⟨rfl, hw⟩
  obtain rfl := hw.symm
  rw [HV.out]
  clear hw
  go_wp2_with fail
  all_goals go_ret
  all_goals exact ⟨rfl, HB.out⟩
set_option maxHeartbeats 800000 in
theorem lawUpper_c1 (c d b : Int) (w : World) (hc0 : 0 ≤ c) (hc1 : c ≤ 18446744073709551615) (hd0 : 0 ≤ d) (hd1 : d ≤ 18446744073709551615) (hb : blkB b = true) (h : c ≤ 18446744073709551614) (hg : 18446744073709551615 - b ≤ c) (hcd : d < c) : Calls Try.prog 11 #[.int .u64 c, .int .u64 d, .int .i64 b] w fun e w' => e = .returned (.bool true) ∧ Below w.heap.size w w' := by
  obtain ⟨hb0, hb1⟩ := blkB_le hb
  have hu : upF c b = 18446744073709551615 := by simp [upF, hb]; omega
  obtain ⟨v, hv⟩ : ∃ v, upF d b = v := ⟨_, rfl⟩
  have HU := Lib.hid hu
  have HV := Lib.hid hv
  clear hu hv hb
  have k1 : ¬ (18446744073709551615 ≤ c) := by omega
  have k2 : ¬ (c < 18446744073709551615 - b) := by omega
  go_enter Try.func11, Try.ntmps11
  go_wp2_with fail
  refine (laneKnown _).mono ?_
  rintro e w1 ⟨rfl, hb⟩
  have HB := Lib.hid hb
  clear hb
  go_wp2_with fail
  refine (laneUp c b hc0 hc1 _).mono ?_
  rintro e w2 ⟨rfl, hw⟩
  obtain rfl := hw.symm
  rw [HU.out]
  clear hw
  go_wp2_with fail
  refine (laneUp d b hd0 hd1 _).mono ?_
  rintro e w2 ⟨rfl, hw⟩
  obtain rfl := hw.symm
  rw [HV.out]
  clear hw
  go_wp2_with fail
  all_goals go_ret
  all_goals exact ⟨rfl, HB.out⟩
set_option maxHeartbeats 800000 in
theorem lawUpper_c0 (c d b : Int) (w : World) (hc0 : 0 ≤ c) (hc1 : c ≤ 18446744073709551615) (hd0 : 0 ≤ d) (hd1 : d ≤ 18446744073709551615) (hb : blkB b = true) (h : c ≤ 18446744073709551614) (hg : 18446744073709551615 - b ≤ c) (hcd : ¬ d < c) : Calls Try.prog 11 #[.int .u64 c, .int .u64 d, .int .i64 b] w fun e w' => e = .returned (.bool true) ∧ Below w.heap.size w w' := by
  obtain ⟨hb0, hb1⟩ := blkB_le hb
  have hu : upF c b = 18446744073709551615 := by simp [upF, hb]; omega
  obtain ⟨v, hv⟩ : ∃ v, upF d b = v := ⟨_, rfl⟩
  have hm := upF_mono (b := b) (show c ≤ d by omega) hd1
  rw [hu, hv] at hm
  have HU := Lib.hid hu
  have HV := Lib.hid hv
  clear hu hv hb
  have k1 : ¬ (18446744073709551615 ≤ c) := by omega
  have k2 : ¬ (c < 18446744073709551615 - b) := by omega
  go_enter Try.func11, Try.ntmps11
  go_wp2_with fail
  refine (laneKnown _).mono ?_
  rintro e w1 ⟨rfl, hb⟩
  have HB := Lib.hid hb
  clear hb
  go_wp2_with fail
  refine (laneUp c b hc0 hc1 _).mono ?_
  rintro e w2 ⟨rfl, hw⟩
  obtain rfl := hw.symm
  rw [HU.out]
  clear hw
  go_wp2_with fail
  refine (laneUp d b hd0 hd1 _).mono ?_
  rintro e w2 ⟨rfl, hw⟩
  obtain rfl := hw.symm
  rw [HV.out]
  clear hw
  go_wp2_with fail
  all_goals go_ret
  all_goals exact ⟨rfl, HB.out⟩
set_option maxHeartbeats 800000 in
theorem lawUpper_d1 (c d b : Int) (w : World) (hc0 : 0 ≤ c) (hc1 : c ≤ 18446744073709551615) (hd0 : 0 ≤ d) (hd1 : d ≤ 18446744073709551615) (hb : blkB b = true) (h : c ≤ 18446744073709551614) (hg : ¬ 18446744073709551615 - b ≤ c) (hcd : d < c) : Calls Try.prog 11 #[.int .u64 c, .int .u64 d, .int .i64 b] w fun e w' => e = .returned (.bool true) ∧ Below w.heap.size w w' := by
  obtain ⟨hb0, hb1⟩ := blkB_le hb
  have hu : upF c b = (c + b) := by simp [upF, hb]; omega
  obtain ⟨v, hv⟩ : ∃ v, upF d b = v := ⟨_, rfl⟩
  have HU := Lib.hid hu
  have HV := Lib.hid hv
  clear hu hv hb
  have k1 : ¬ (c + b ≤ c) := by omega
  have k2 : ¬ (c + b > 18446744073709551615) := by omega
  have k3 : ¬ (c + b < c) := by omega
  have k4 : (c + b == 18446744073709551615) = false := by rw [beq_eq_false_iff_ne]; omega
  have k5 : (c + b != 18446744073709551615) = true := by rw [bne_iff_ne]; omega
  have k6 : c + b - c = b := by omega
  go_enter Try.func11, Try.ntmps11
  go_wp2_with fail
  refine (laneKnown _).mono ?_
  rintro e w1 ⟨rfl, hb⟩
  have HB := Lib.hid hb
  clear hb
  go_wp2_with fail
  refine (laneUp c b hc0 hc1 _).mono ?_
  rintro e w2 ⟨rfl, hw⟩
  obtain rfl := hw.symm
  rw [HU.out]
  clear hw
  go_wp2_with fail
  refine (laneUp d b hd0 hd1 _).mono ?_
  rintro e w2 ⟨rfl, hw⟩
  obtain rfl := hw.symm
  rw [HV.out]
  clear hw
  go_wp2_with fail
  all_goals go_ret
  all_goals exact ⟨rfl, HB.out⟩
set_option maxHeartbeats 800000 in
theorem lawUpper_d0 (c d b : Int) (w : World) (hc0 : 0 ≤ c) (hc1 : c ≤ 18446744073709551615) (hd0 : 0 ≤ d) (hd1 : d ≤ 18446744073709551615) (hb : blkB b = true) (h : c ≤ 18446744073709551614) (hg : ¬ 18446744073709551615 - b ≤ c) (hcd : ¬ d < c) : Calls Try.prog 11 #[.int .u64 c, .int .u64 d, .int .i64 b] w fun e w' => e = .returned (.bool true) ∧ Below w.heap.size w w' := by
  obtain ⟨hb0, hb1⟩ := blkB_le hb
  have hu : upF c b = (c + b) := by simp [upF, hb]; omega
  obtain ⟨v, hv⟩ : ∃ v, upF d b = v := ⟨_, rfl⟩
  have hm := upF_mono (b := b) (show c ≤ d by omega) hd1
  rw [hu, hv] at hm
  have HU := Lib.hid hu
  have HV := Lib.hid hv
  clear hu hv hb
  have k1 : ¬ (c + b ≤ c) := by omega
  have k2 : ¬ (c + b > 18446744073709551615) := by omega
  have k3 : ¬ (c + b < c) := by omega
  have k4 : (c + b == 18446744073709551615) = false := by rw [beq_eq_false_iff_ne]; omega
  have k5 : (c + b != 18446744073709551615) = true := by rw [bne_iff_ne]; omega
  have k6 : c + b - c = b := by omega
  go_enter Try.func11, Try.ntmps11
  go_wp2_with fail
  refine (laneKnown _).mono ?_
  rintro e w1 ⟨rfl, hb⟩
  have HB := Lib.hid hb
  clear hb
  go_wp2_with fail
  refine (laneUp c b hc0 hc1 _).mono ?_
  rintro e w2 ⟨rfl, hw⟩
  obtain rfl := hw.symm
  rw [HU.out]
  clear hw
  go_wp2_with fail
  refine (laneUp d b hd0 hd1 _).mono ?_
  rintro e w2 ⟨rfl, hw⟩
  obtain rfl := hw.symm
  rw [HV.out]
  clear hw
  go_wp2_with fail
  all_goals go_ret
  all_goals exact ⟨rfl, HB.out⟩
theorem lawUpper (c d b : Int) (w : World) (hc0 : 0 ≤ c) (hc1 : c ≤ 18446744073709551615) (hd0 : 0 ≤ d) (hd1 : d ≤ 18446744073709551615) : Calls Try.prog 11 #[.int .u64 c, .int .u64 d, .int .i64 b] w fun e w' => e = .returned (.bool true) ∧ Below w.heap.size w w' := by
  by_cases hb : blkB b = true
  · by_cases h : c ≤ 18446744073709551614
    · by_cases hg : 18446744073709551615 - b ≤ c
      · by_cases hcd : d < c
        · exact lawUpper_c1 c d b w hc0 hc1 hd0 hd1 hb h hg hcd
        · exact lawUpper_c0 c d b w hc0 hc1 hd0 hd1 hb h hg hcd
      · by_cases hcd : d < c
        · exact lawUpper_d1 c d b w hc0 hc1 hd0 hd1 hb h hg hcd
        · exact lawUpper_d0 c d b w hc0 hc1 hd0 hd1 hb h hg hcd
    · by_cases hcd : d < c
      · exact lawUpper_a c d b w hc0 hc1 hd0 hd1 hb (by omega) hcd
      · exact lawUpper_b c d b w hc0 hc1 hd0 hd1 hb (by omega) hcd
  · exact lawUpper_n c d b w hc0 hc1 hd0 hd1 (by simpa using hb)
end Go.Proofs.Ytihndipgdogebaa
