/- The walk of LaneNews. -/
import Derived.Test.YtihndipgdogebaaLane14
namespace Go.Proofs.Ytihndipgdogebaa
open Go.RowKit
theorem newL_len (key : List (BitVec 8)) (side : Int) : (newL key side).key.length ≤ key.length := by
  unfold newL
  split
  · exact Nat.le_refl _
  · simp [Ln.zero]
set_option maxHeartbeats 800000 in
theorem lawNews_long (key : List (BitVec 8)) (side : Int) (ao : Option Addr) (cap : Nat) (w : World) (hl : 4096 < key.length) :
   Calls Try.prog 4 #[.slice ao key.length cap, .int .i64 side] w fun e w' => e = .returned (.bool true) ∧ Below w.heap.size w w' := by
  have hl2 : (4096 : Int) < (key.length : Int) := by omega
  go_enter Try.func4, Try.ntmps4
  go_wp2_with fail
  refine (laneKnown _).mono ?_
  rintro e w1 ⟨rfl, hb⟩
  go_wp2_with fail
  go_ret
  exact ⟨rfl, hb⟩
set_option maxHeartbeats 1600000 in
theorem lawNews_short (key : List (BitVec 8)) (side : Int) (ao : Option Addr) (cap : Nat) (w : World) (hl : key.length ≤ 4096) (hr : Rd w ao key) :
   Calls Try.prog 4 #[.slice ao key.length cap, .int .i64 side] w fun e w' => e = .returned (.bool true) ∧ Below w.heap.size w w' := by
  have hl2 : (key.length : Int) ≤ (4096 : Int) := by omega
  obtain ⟨N, hN⟩ : ∃ N, newL key side = N := ⟨_, rfl⟩
  obtain ⟨kk, sk, ck, nk, ek, fk, xk, yk⟩ := N
  have hlk : kk.length ≤ key.length := by
    have h := newL_len key side
    rw [hN] at h
    exact h
  have HN := Lib.hid hN
  clear hN
  go_enter Try.func4, Try.ntmps4
  go_wp2_with fail
  refine (laneKnown _).mono ?_
  rintro e w1 ⟨rfl, hb1⟩
  have HB1 := Lib.hid hb1
  have hr1 := hr.on hb1
  clear hb1
  go_wp2_with fail
  refine (laneRoomy ⟨key, 0, 0, 0, 0, 0, 0, 0⟩ ao cap _ hl hr1).mono ?_
  rintro e w2 ⟨g, cr, he, hg, hcr, hO, hb2⟩
  obtain rfl : e = .returned (.agg #[.slice (some ⟨g, 0, none⟩) key.length cr, .int .i64 0, .int .i64 0, .int .i64 0, .int .u64 0, .int .u64 0, .int .i64 0, .int .i64 0]) := he
  have HB2 := Lib.hid (HB1.out.trans (hb2.mono HB1.out.size))
  have hr2 := hr1.on hb2
  have hO2 : Own w2 g cr 5 (key ++ [201#8, 202#8, 203#8]) := hO
  have hg2 := hO2.lt
  clear hb2 hr1 hO HB1 hg
  go_wp2_with fail
  refine (laneNew key side (some ⟨g, 0, none⟩) cr _ ((hO2.alloc _).pre.rd)).mono ?_
  rintro e w3 ⟨a1, c1, he, hm1, hb3⟩
  rw [HN.out] at he hm1
  obtain rfl : e = .returned (.agg #[.slice a1 kk.length c1, .int .i64 sk, .int .i64 ck, .int .i64 nk, .int .u64 ek, .int .u64 fk, .int .i64 xk, .int .i64 yk]) := he
  have hz3 : w2.heap.size + 1 ≤ w3.heap.size := by have h := hb3.size; simp only [alloc_size] at h; exact h
  have x5 : w3.heap[w2.heap.size]? = some (.cells #[.slice (some ⟨g, 0, none⟩) key.length cr, .int .i64 0, .int .i64 0, .int .i64 0, .int .u64 0, .int .u64 0, .int .i64 0, .int .i64 0] 27 (0, 0)) := (hb3.block (w2.heap.size) (by simp only [alloc_size]; omega)).trans (heap_alloc_new _ _)
  have hO3 : Own w3 g cr 5 (key ++ [201#8, 202#8, 203#8]) := (hO2.alloc _).below hb3 (by simp only [alloc_size]; omega)
  have hr3 := (hr2.on (fresh1 w2 _)).on hb3
  have HB3 := Lib.hid ((below_push HB2.out).trans (hb3.mono (by have := HB2.out.size; simp only [alloc_size]; omega)))
  have X5 := Lib.hid x5
  clear hb3 hr2 hO2 HB2 x5
  go_wp2_with fail
  refine (refNew key side ao cap _ (by omega) (hr3.on (fresh1 w3 _))).mono ?_
  rintro e w4 ⟨a2, c2, he, hm2, hb4⟩
  rw [HN.out] at he hm2
  obtain rfl : e = .returned (.agg #[.slice a2 kk.length c2, .int .i64 sk, .int .i64 ck, .int .i64 nk, .int .u64 ek, .int .u64 fk, .int .i64 xk, .int .i64 yk]) := he
  have hz4 : w3.heap.size + 1 ≤ w4.heap.size := by have h := hb4.size; simp only [alloc_size] at h; exact h
  have x6 : w4.heap[w3.heap.size]? = some (.cells #[.slice a1 kk.length c1, .int .i64 sk, .int .i64 ck, .int .i64 nk, .int .u64 ek, .int .u64 fk, .int .i64 xk, .int .i64 yk] 27 (0, 0)) := (hb4.block (w3.heap.size) (by simp only [alloc_size]; omega)).trans (heap_alloc_new _ _)
  have x5 : w4.heap[w2.heap.size]? = some (.cells #[.slice (some ⟨g, 0, none⟩) key.length cr, .int .i64 0, .int .i64 0, .int .i64 0, .int .u64 0, .int .u64 0, .int .i64 0, .int .i64 0] 27 (0, 0)) := (hb4.block (w2.heap.size) (by simp only [alloc_size]; omega)).trans ((alloc_old _ _ _ (by omega)).trans X5.out)
  have hO4 : Own w4 g cr 5 (key ++ [201#8, 202#8, 203#8]) := (hO3.alloc _).below hb4 (by simp only [alloc_size]; omega)
  have hr4 := (hr3.on (fresh1 w3 _)).on hb4
  have hrA := ((hm1.below (fresh1 w3 _)).below hb4).rd
  have HB4 := Lib.hid ((below_push HB3.out).trans (hb4.mono (by have := HB3.out.size; simp only [alloc_size]; omega)))
  clear hb4 hr3 hO3 HB3 X5 hm1
  have q0 : w4.cell? ⟨w3.heap.size, 0, none⟩ = some (.slice a1 kk.length c1) := cell_of_row w4 (w3.heap.size) 0 _ _ _ x6
  have q1 : w4.cell? ⟨w3.heap.size, 1, none⟩ = some (.int .i64 sk) := cell_of_row w4 (w3.heap.size) 1 _ _ _ x6
  have q2 : w4.cell? ⟨w3.heap.size, 2, none⟩ = some (.int .i64 ck) := cell_of_row w4 (w3.heap.size) 2 _ _ _ x6
  have q3 : w4.cell? ⟨w3.heap.size, 3, none⟩ = some (.int .i64 nk) := cell_of_row w4 (w3.heap.size) 3 _ _ _ x6
  have q4 : w4.cell? ⟨w3.heap.size, 4, none⟩ = some (.int .u64 ek) := cell_of_row w4 (w3.heap.size) 4 _ _ _ x6
  have q5 : w4.cell? ⟨w3.heap.size, 5, none⟩ = some (.int .u64 fk) := cell_of_row w4 (w3.heap.size) 5 _ _ _ x6
  have q6 : w4.cell? ⟨w3.heap.size, 6, none⟩ = some (.int .i64 xk) := cell_of_row w4 (w3.heap.size) 6 _ _ _ x6
  have q7 : w4.cell? ⟨w3.heap.size, 7, none⟩ = some (.int .i64 yk) := cell_of_row w4 (w3.heap.size) 7 _ _ _ x6
  have qf (i : Nat) : w4.frozen? ⟨w3.heap.size, i, none⟩ = false := frozen_of_row w4 (w3.heap.size) i _ _ x6
  have X5 := Lib.hid x5
  clear x5 x6
  have hlt6 : w3.heap.size < w4.heap.size := by omega
  go_wp2_with fail
  refine (sameLane ⟨kk, sk, ck, nk, ek, fk, xk, yk⟩ ⟨kk, sk, ck, nk, ek, fk, xk, yk⟩ a1 a2 c1 c2 _ (by show kk.length ≤ _; omega) (by show kk.length ≤ _; omega) (hrA.on (fresh1 w4 _)) ((hm2.below (fresh1 w4 _)).rd)).mono ?_
  rintro e w5 ⟨he, hb5⟩
  rw [sameL_refl] at he
  subst he
  have hz5 : w4.heap.size + 1 ≤ w5.heap.size := by have h := hb5.size; simp only [alloc_size] at h; exact h
  have x5 : w5.heap[w2.heap.size]? = some (.cells #[.slice (some ⟨g, 0, none⟩) key.length cr, .int .i64 0, .int .i64 0, .int .i64 0, .int .u64 0, .int .u64 0, .int .i64 0, .int .i64 0] 27 (0, 0)) := (hb5.block (w2.heap.size) (by simp only [alloc_size]; omega)).trans ((alloc_old _ _ _ (by omega)).trans X5.out)
  have hO5 : Own w5 g cr 5 (key ++ [201#8, 202#8, 203#8]) := (hO4.alloc _).below hb5 (by simp only [alloc_size]; omega)
  have hr5 := (hr4.on (fresh1 w4 _)).on hb5
  have HB5 := Lib.hid ((below_push HB4.out).trans (hb5.mono (by have := HB4.out.size; simp only [alloc_size]; omega)))
  clear hb5 hr4 hO4 HB4 X5 hm2 hrA
  clear q0 q1 q2 q3 q4 q5 q6 q7 qf
  have q0 : w5.cell? ⟨w2.heap.size, 0, none⟩ = some (.slice (some ⟨g, 0, none⟩) key.length cr) := cell_of_row w5 (w2.heap.size) 0 _ _ _ x5
  have q1 : w5.cell? ⟨w2.heap.size, 1, none⟩ = some (.int .i64 0) := cell_of_row w5 (w2.heap.size) 1 _ _ _ x5
  have q2 : w5.cell? ⟨w2.heap.size, 2, none⟩ = some (.int .i64 0) := cell_of_row w5 (w2.heap.size) 2 _ _ _ x5
  have q3 : w5.cell? ⟨w2.heap.size, 3, none⟩ = some (.int .i64 0) := cell_of_row w5 (w2.heap.size) 3 _ _ _ x5
  have q4 : w5.cell? ⟨w2.heap.size, 4, none⟩ = some (.int .u64 0) := cell_of_row w5 (w2.heap.size) 4 _ _ _ x5
  have q5 : w5.cell? ⟨w2.heap.size, 5, none⟩ = some (.int .u64 0) := cell_of_row w5 (w2.heap.size) 5 _ _ _ x5
  have q6 : w5.cell? ⟨w2.heap.size, 6, none⟩ = some (.int .i64 0) := cell_of_row w5 (w2.heap.size) 6 _ _ _ x5
  have q7 : w5.cell? ⟨w2.heap.size, 7, none⟩ = some (.int .i64 0) := cell_of_row w5 (w2.heap.size) 7 _ _ _ x5
  have qf (i : Nat) : w5.frozen? ⟨w2.heap.size, i, none⟩ = false := frozen_of_row w5 (w2.heap.size) i _ _ x5
  clear x5
  go_wp2_with fail
  refine (laneStays ⟨key, 0, 0, 0, 0, 0, 0, 0⟩ ⟨key, 0, 0, 0, 0, 0, 0, 0⟩ g cr ao cap _ hl hO5 rfl hr5).mono ?_
  rintro e w6 ⟨rfl, hb6⟩
  have hB6 := HB5.out.trans (hb6.mono HB5.out.size)
  clear hb6 q0 q1 q2 q3 q4 q5 q6 q7 qf
  go_wp2_with fail
  go_ret
  exact ⟨rfl, hB6⟩
theorem lawNews (key : List (BitVec 8)) (side : Int) (ao : Option Addr) (cap : Nat) (w : World) (hr : Rd w ao key) :
   Calls Try.prog 4 #[.slice ao key.length cap, .int .i64 side] w fun e w' => e = .returned (.bool true) ∧ Below w.heap.size w w' := by
  by_cases hl : key.length ≤ 4096
  · exact lawNews_short key side ao cap w hl hr
  · exact lawNews_long key side ao cap w (by omega)
end Go.Proofs.Ytihndipgdogebaa
