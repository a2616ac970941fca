/- The keys of what the seven calls answer. -/
import Derived.Test.YtihndipgdogebaaLaneW3
import Derived.Deep.RegionHeld3
namespace Go.Proofs.Ytihndipgdogebaa
open Go.RowKit
theorem sevenOk (key : List (BitVec 8)) (side : Int) (hk : key.length = 32) (h0 : 0 ≤ side) (h1 : side ≤ 1) : Ln.ok ⟨key, side, 1, 2, 0, 0, 0, 0⟩ = true := by
  simp [Ln.ok, stampB, hk, h0, h1]
set_option maxRecDepth 100000 in
set_option maxHeartbeats 3000000 in
theorem laneSeven (key : List (BitVec 8)) (side : Int) (ao : Option Addr) (cap : Nat) (w : World) (hk : key.length = 32) (h0 : 0 ≤ side) (h1 : side ≤ 1) (hr : Rd w ao key) :
   Calls Try.prog 42 #[.slice ao key.length cap, .int .i64 side] w fun e w' => ∃ a0 d0 a1 d1 a2 d2 a3 d3 a4 d4 a5 d5 a6 d6, e = .returned (.agg #[.slice a0 key.length d0, .slice a1 key.length d1, .slice a2 key.length d2, .slice a3 key.length d3, .slice a4 key.length d4, .slice a5 key.length d5, .slice a6 key.length d6]) ∧ Mine w' w.heap.size 5 a0 d0 key ∧ Mine w' w.heap.size 5 a1 d1 key ∧ Mine w' w.heap.size 5 a2 d2 key ∧ Mine w' w.heap.size 5 a3 d3 key ∧ Mine w' w.heap.size 5 a4 d4 key ∧ Mine w' w.heap.size 5 a5 d5 key ∧ Mine w' w.heap.size 5 a6 d6 key ∧ Below w.heap.size w w' := by
  have hok := sevenOk key side hk h0 h1
  have hfit : Ln.fits ⟨key, side, 1, 2, 0, 0, 0, 0⟩ := by constructor <;> simp [hk]
  obtain ⟨ng, hng⟩ : ∃ x, nextG ⟨key, side, 1, 2, 0, 0, 0, 0⟩ = x := ⟨_, rfl⟩
  obtain ⟨ne, hne⟩ : ∃ x, nextE ⟨key, side, 1, 2, 0, 0, 0, 0⟩ = x := ⟨_, rfl⟩
  obtain ⟨aa, haa⟩ : ∃ x, atA ⟨key, side, 1, 2, 0, 0, 0, 0⟩ 2 0 1 0 1 = x := ⟨_, rfl⟩
  have hnew : newL key side = ⟨key, side, 1, 0, 0, 0, 0, 0⟩ := by simp [newL, Ln.ok, stampB, hk, h0, h1]
  obtain ⟨N1, hN1⟩ : ∃ N, againL ⟨key, side, 1, 2, 0, 0, 0, 0⟩ = N := ⟨_, rfl⟩
  have hK1 : N1.key = key := by rw [← hN1]; simp [againL, nextE, topG, hok, Ln.keep]
  obtain ⟨k1, s1, c1, n1, e1, f1, x1, y1⟩ := N1
  simp only at hK1
  have hS1 := hK1.symm
  clear hK1
  subst hS1
  have HN1 := Lib.hid hN1
  clear hN1
  obtain ⟨N2, hN2⟩ : ∃ N, proposeL ⟨key, side, 1, 2, 0, 0, 0, 0⟩ = N := ⟨_, rfl⟩
  have hK2 : N2.key = key := by rw [← hN2]; simp [proposeL, nextE, topG, hok, Ln.keep]
  obtain ⟨k2, s2, c2, n2, e2, f2, x2, y2⟩ := N2
  simp only at hK2
  have hS2 := hK2.symm
  clear hK2
  subst hS2
  have HN2 := Lib.hid hN2
  clear hN2
  obtain ⟨N3, hN3⟩ : ∃ N, answeredL ⟨key, side, 1, 2, 0, 0, 0, 0⟩ 2 0 1 0 1 = N := ⟨_, rfl⟩
  have hK3 : N3.key = key := by rw [← hN3]; simp [answeredL, mayA, hok, blkB, stampB, lessB, Ln.keep]
  obtain ⟨k3, s3, c3, n3, e3, f3, x3, y3⟩ := N3
  simp only at hK3
  have hS3 := hK3.symm
  clear hK3
  subst hS3
  have HN3 := Lib.hid hN3
  clear hN3
  obtain ⟨N4, hN4⟩ : ∃ N, reserveL ⟨key, side, 1, 2, 0, 0, 0, 0⟩ 0 1 = N := ⟨_, rfl⟩
  have hK4 : N4.key = key := by rw [← hN4]; simp [reserveL, mayR, hok, blkB, Ln.keep]
  obtain ⟨k4, s4, c4, n4, e4, f4, x4, y4⟩ := N4
  simp only at hK4
  have hS4 := hK4.symm
  clear hK4
  subst hS4
  have HN4 := Lib.hid hN4
  clear hN4
  obtain ⟨N5, hN5⟩ : ∃ N, openedL ⟨key, side, 1, 2, 0, 0, 0, 0⟩ 2 0 1 = N := ⟨_, rfl⟩
  have hK5 : N5.key = key := by rw [← hN5]; simp [openedL, mayO, hok, blkB, Ln.keep]
  obtain ⟨k5, s5, c5, n5, e5, f5, x5, y5⟩ := N5
  simp only at hK5
  have hS5 := hK5.symm
  clear hK5
  subst hS5
  have HN5 := Lib.hid hN5
  clear hN5
  obtain ⟨N6, hN6⟩ : ∃ N, raiseL ⟨key, side, 1, 2, 0, 0, 0, 0⟩ 0 1 = N := ⟨_, rfl⟩
  have hK6 : N6.key = key := by rw [← hN6]; simp [raiseL, mayS, hok, blkB, Ln.keep]
  obtain ⟨k6, s6, c6, n6, e6, f6, x6, y6⟩ := N6
  simp only at hK6
  have hS6 := hK6.symm
  clear hK6
  subst hS6
  have HN6 := Lib.hid hN6
  clear hN6
  have HG := Lib.hid hng
  have HE := Lib.hid hne
  have HA := Lib.hid haa
  have HF := Lib.hid hfit
  have HW := Lib.hid hnew
  have HK := Lib.hid hk
  clear hng hne haa hfit hnew hok hk
  go_enter Try.func42, Try.ntmps42
  go_wp2_with fail
  generalize hU : ((w.alloc (.cells #[.slice none 0 0, .slice none 0 0, .slice none 0 0, .slice none 0 0, .slice none 0 0, .slice none 0 0, .slice none 0 0] 73 (0, 0))).alloc (.cells #[.slice ao key.length cap, .int .i64 side, .int .i64 1, .int .i64 2, .int .u64 0, .int .u64 0, .int .i64 0, .int .i64 0] 27 (0, 0))) = U1
  have HB := Lib.hid (show Below w.heap.size w U1 by rw [← hU]; exact (((Below.refl _ w).alloc (Nat.le_refl _) _).alloc (by simp only [alloc_size]; omega) _))
  have XZ := Lib.hid (show U1.heap[w.heap.size]? = some (.cells #[.slice none 0 0, .slice none 0 0, .slice none 0 0, .slice none 0 0, .slice none 0 0, .slice none 0 0, .slice none 0 0] 73 (0, 0)) by rw [← hU]; exact (by simp only [alloc_get, alloc_size]; repeat first | rw [if_pos trivial] | rw [if_neg (by omega)] | rw [if_pos (by omega)]))
  have lZ : w.heap.size < U1.heap.size := by rw [← hU]; exact (by simp only [alloc_size]; omega)
  have XL := Lib.hid (show U1.heap[w.heap.size + 1]? = some (.cells #[.slice ao key.length cap, .int .i64 side, .int .i64 1, .int .i64 2, .int .u64 0, .int .u64 0, .int .i64 0, .int .i64 0] 27 (0, 0)) by rw [← hU]; exact (by simp only [alloc_get, alloc_size]; repeat first | rw [if_pos trivial] | rw [if_neg (by omega)] | rw [if_pos (by omega)]))
  have lL : w.heap.size + 1 < U1.heap.size := by rw [← hU]; exact (by simp only [alloc_size]; omega)
  have pZ_L : w.heap.size < w.heap.size + 1 := by omega
  clear hU
  refine (laneAgain ⟨key, side, 1, 2, 0, 0, 0, 0⟩ ao cap  _ HF.out (hr.on HB.out)).mono ?_
  rintro e W2 ⟨A1, cA1, he, Mx, hb⟩
  rw [HN1.out] at he Mx
  rw [HE.out] at he
  obtain rfl : e = .returned (.tuple #[(.agg #[.slice A1 key.length cA1, .int .i64 s1, .int .i64 c1, .int .i64 n1, .int .u64 e1, .int .u64 f1, .int .i64 x1, .int .i64 y1]), .int .i64 ne]) := he
  have MA1 : Mine _ _ _ A1 cA1 key := Mx
  clear Mx
  have hz := hb.size
  have HB2 := Lib.hid (HB.out.trans (hb.mono HB.out.size))
  clear HB
  have HB := HB2
  clear HB2
  have YZ := Lib.hid (show W2.heap[w.heap.size]? = some (.cells #[.slice none 0 0, .slice none 0 0, .slice none 0 0, .slice none 0 0, .slice none 0 0, .slice none 0 0, .slice none 0 0] 73 (0, 0)) from (hb.block (w.heap.size) lZ).trans XZ.out)
  have lZ2 : w.heap.size < W2.heap.size := by omega
  have mA1_Z : w.heap.size < U1.heap.size := lZ
  clear XZ lZ
  have XZ := YZ
  have lZ := lZ2
  clear YZ lZ2
  have YL := Lib.hid (show W2.heap[w.heap.size + 1]? = some (.cells #[.slice ao key.length cap, .int .i64 side, .int .i64 1, .int .i64 2, .int .u64 0, .int .u64 0, .int .i64 0, .int .i64 0] 27 (0, 0)) from (hb.block (w.heap.size + 1) lL).trans XL.out)
  have lL2 : w.heap.size + 1 < W2.heap.size := by omega
  have mA1_L : w.heap.size + 1 < U1.heap.size := lL
  clear XL lL
  have XL := YL
  have lL := lL2
  clear YL lL2
  clear hb hz
  have xL := XL.out
  have qL_0 : W2.cell? ⟨w.heap.size + 1, 0, none⟩ = some (.slice ao key.length cap) := cell_of_row W2 (w.heap.size + 1) 0 _ _ _ xL
  have qL_1 : W2.cell? ⟨w.heap.size + 1, 1, none⟩ = some (.int .i64 side) := cell_of_row W2 (w.heap.size + 1) 1 _ _ _ xL
  have qL_2 : W2.cell? ⟨w.heap.size + 1, 2, none⟩ = some (.int .i64 1) := cell_of_row W2 (w.heap.size + 1) 2 _ _ _ xL
  have qL_3 : W2.cell? ⟨w.heap.size + 1, 3, none⟩ = some (.int .i64 2) := cell_of_row W2 (w.heap.size + 1) 3 _ _ _ xL
  have qL_4 : W2.cell? ⟨w.heap.size + 1, 4, none⟩ = some (.int .u64 0) := cell_of_row W2 (w.heap.size + 1) 4 _ _ _ xL
  have qL_5 : W2.cell? ⟨w.heap.size + 1, 5, none⟩ = some (.int .u64 0) := cell_of_row W2 (w.heap.size + 1) 5 _ _ _ xL
  have qL_6 : W2.cell? ⟨w.heap.size + 1, 6, none⟩ = some (.int .i64 0) := cell_of_row W2 (w.heap.size + 1) 6 _ _ _ xL
  have qL_7 : W2.cell? ⟨w.heap.size + 1, 7, none⟩ = some (.int .i64 0) := cell_of_row W2 (w.heap.size + 1) 7 _ _ _ xL
  have qL_f (i : Nat) : W2.frozen? ⟨w.heap.size + 1, i, none⟩ = false := frozen_of_row W2 (w.heap.size + 1) i _ _ xL
  clear xL
  go_wp2_with fail
  generalize hU : W2.alloc (.cells #[.slice A1 key.length cA1, .int .i64 s1, .int .i64 c1, .int .i64 n1, .int .u64 e1, .int .u64 f1, .int .i64 x1, .int .i64 y1] 27 (0, 0)) = U3
  have HB2 := Lib.hid (show Below w.heap.size w U3 by rw [← hU]; exact below_push HB.out)
  clear HB
  have HB := HB2
  clear HB2
  clear qL_0 qL_1 qL_2 qL_3 qL_4 qL_5 qL_6 qL_7 qL_f
  have YZ := Lib.hid (show U3.heap[w.heap.size]? = some (.cells #[.slice none 0 0, .slice none 0 0, .slice none 0 0, .slice none 0 0, .slice none 0 0, .slice none 0 0, .slice none 0 0] 73 (0, 0)) by rw [← hU]; exact (alloc_old _ _ _ lZ).trans XZ.out)
  have pZ_b1 : w.heap.size < W2.heap.size := lZ
  have lZ2 : w.heap.size < U3.heap.size := by rw [← hU]; simp only [alloc_size]; omega
  clear XZ lZ
  have XZ := YZ
  have lZ := lZ2
  clear YZ lZ2
  have YL := Lib.hid (show U3.heap[w.heap.size + 1]? = some (.cells #[.slice ao key.length cap, .int .i64 side, .int .i64 1, .int .i64 2, .int .u64 0, .int .u64 0, .int .i64 0, .int .i64 0] 27 (0, 0)) by rw [← hU]; exact (alloc_old _ _ _ lL).trans XL.out)
  have pL_b1 : w.heap.size + 1 < W2.heap.size := lL
  have lL2 : w.heap.size + 1 < U3.heap.size := by rw [← hU]; simp only [alloc_size]; omega
  clear XL lL
  have XL := YL
  have lL := lL2
  clear YL lL2
  have Xb1 := Lib.hid (show U3.heap[W2.heap.size]? = some (.cells #[.slice A1 key.length cA1, .int .i64 s1, .int .i64 c1, .int .i64 n1, .int .u64 e1, .int .u64 f1, .int .i64 x1, .int .i64 y1] 27 (0, 0)) by rw [← hU]; exact heap_alloc_new _ _)
  have lb1 : W2.heap.size < U3.heap.size := by rw [← hU]; simp only [alloc_size]; omega
  have NA1 := Mine.below MA1 (fresh1 W2 (.cells #[.slice A1 key.length cA1, .int .i64 s1, .int .i64 c1, .int .i64 n1, .int .u64 e1, .int .u64 f1, .int .i64 x1, .int .i64 y1] 27 (0, 0)))
  rw [hU] at NA1
  clear MA1
  have MA1 := NA1
  clear NA1
  clear hU
  refine (lanePropose ⟨key, side, 1, 2, 0, 0, 0, 0⟩ ao cap  _ HF.out (hr.on HB.out)).mono ?_
  rintro e W4 ⟨A2, cA2, he, Mx, hb⟩
  rw [HN2.out] at he Mx
  rw [HG.out, HE.out] at he
  obtain rfl : e = .returned (.tuple #[(.agg #[.slice A2 key.length cA2, .int .i64 s2, .int .i64 c2, .int .i64 n2, .int .u64 e2, .int .u64 f2, .int .i64 x2, .int .i64 y2]), .int .i64 ng, .int .i64 ne]) := he
  have MA2 : Mine _ _ _ A2 cA2 key := Mx
  clear Mx
  have hz := hb.size
  have HB2 := Lib.hid (HB.out.trans (hb.mono HB.out.size))
  clear HB
  have HB := HB2
  clear HB2
  have YZ := Lib.hid (show W4.heap[w.heap.size]? = some (.cells #[.slice none 0 0, .slice none 0 0, .slice none 0 0, .slice none 0 0, .slice none 0 0, .slice none 0 0, .slice none 0 0] 73 (0, 0)) from (hb.block (w.heap.size) lZ).trans XZ.out)
  have lZ2 : w.heap.size < W4.heap.size := by omega
  have mA2_Z : w.heap.size < U3.heap.size := lZ
  clear XZ lZ
  have XZ := YZ
  have lZ := lZ2
  clear YZ lZ2
  have YL := Lib.hid (show W4.heap[w.heap.size + 1]? = some (.cells #[.slice ao key.length cap, .int .i64 side, .int .i64 1, .int .i64 2, .int .u64 0, .int .u64 0, .int .i64 0, .int .i64 0] 27 (0, 0)) from (hb.block (w.heap.size + 1) lL).trans XL.out)
  have lL2 : w.heap.size + 1 < W4.heap.size := by omega
  have mA2_L : w.heap.size + 1 < U3.heap.size := lL
  clear XL lL
  have XL := YL
  have lL := lL2
  clear YL lL2
  have Yb1 := Lib.hid (show W4.heap[W2.heap.size]? = some (.cells #[.slice A1 key.length cA1, .int .i64 s1, .int .i64 c1, .int .i64 n1, .int .u64 e1, .int .u64 f1, .int .i64 x1, .int .i64 y1] 27 (0, 0)) from (hb.block (W2.heap.size) lb1).trans Xb1.out)
  have lb12 : W2.heap.size < W4.heap.size := by omega
  have mA2_b1 : W2.heap.size < U3.heap.size := lb1
  clear Xb1 lb1
  have Xb1 := Yb1
  have lb1 := lb12
  clear Yb1 lb12
  have NA1 := Mine.below MA1 hb
  clear MA1
  have MA1 := NA1
  clear NA1
  clear hb hz
  have xL := XL.out
  have qL_0 : W4.cell? ⟨w.heap.size + 1, 0, none⟩ = some (.slice ao key.length cap) := cell_of_row W4 (w.heap.size + 1) 0 _ _ _ xL
  have qL_1 : W4.cell? ⟨w.heap.size + 1, 1, none⟩ = some (.int .i64 side) := cell_of_row W4 (w.heap.size + 1) 1 _ _ _ xL
  have qL_2 : W4.cell? ⟨w.heap.size + 1, 2, none⟩ = some (.int .i64 1) := cell_of_row W4 (w.heap.size + 1) 2 _ _ _ xL
  have qL_3 : W4.cell? ⟨w.heap.size + 1, 3, none⟩ = some (.int .i64 2) := cell_of_row W4 (w.heap.size + 1) 3 _ _ _ xL
  have qL_4 : W4.cell? ⟨w.heap.size + 1, 4, none⟩ = some (.int .u64 0) := cell_of_row W4 (w.heap.size + 1) 4 _ _ _ xL
  have qL_5 : W4.cell? ⟨w.heap.size + 1, 5, none⟩ = some (.int .u64 0) := cell_of_row W4 (w.heap.size + 1) 5 _ _ _ xL
  have qL_6 : W4.cell? ⟨w.heap.size + 1, 6, none⟩ = some (.int .i64 0) := cell_of_row W4 (w.heap.size + 1) 6 _ _ _ xL
  have qL_7 : W4.cell? ⟨w.heap.size + 1, 7, none⟩ = some (.int .i64 0) := cell_of_row W4 (w.heap.size + 1) 7 _ _ _ xL
  have qL_f (i : Nat) : W4.frozen? ⟨w.heap.size + 1, i, none⟩ = false := frozen_of_row W4 (w.heap.size + 1) i _ _ xL
  clear xL
  go_wp2_with fail
  generalize hU : W4.alloc (.cells #[.slice A2 key.length cA2, .int .i64 s2, .int .i64 c2, .int .i64 n2, .int .u64 e2, .int .u64 f2, .int .i64 x2, .int .i64 y2] 27 (0, 0)) = U5
  have HB2 := Lib.hid (show Below w.heap.size w U5 by rw [← hU]; exact below_push HB.out)
  clear HB
  have HB := HB2
  clear HB2
  clear qL_0 qL_1 qL_2 qL_3 qL_4 qL_5 qL_6 qL_7 qL_f
  have YZ := Lib.hid (show U5.heap[w.heap.size]? = some (.cells #[.slice none 0 0, .slice none 0 0, .slice none 0 0, .slice none 0 0, .slice none 0 0, .slice none 0 0, .slice none 0 0] 73 (0, 0)) by rw [← hU]; exact (alloc_old _ _ _ lZ).trans XZ.out)
  have pZ_b2 : w.heap.size < W4.heap.size := lZ
  have lZ2 : w.heap.size < U5.heap.size := by rw [← hU]; simp only [alloc_size]; omega
  clear XZ lZ
  have XZ := YZ
  have lZ := lZ2
  clear YZ lZ2
  have YL := Lib.hid (show U5.heap[w.heap.size + 1]? = some (.cells #[.slice ao key.length cap, .int .i64 side, .int .i64 1, .int .i64 2, .int .u64 0, .int .u64 0, .int .i64 0, .int .i64 0] 27 (0, 0)) by rw [← hU]; exact (alloc_old _ _ _ lL).trans XL.out)
  have pL_b2 : w.heap.size + 1 < W4.heap.size := lL
  have lL2 : w.heap.size + 1 < U5.heap.size := by rw [← hU]; simp only [alloc_size]; omega
  clear XL lL
  have XL := YL
  have lL := lL2
  clear YL lL2
  have Yb1 := Lib.hid (show U5.heap[W2.heap.size]? = some (.cells #[.slice A1 key.length cA1, .int .i64 s1, .int .i64 c1, .int .i64 n1, .int .u64 e1, .int .u64 f1, .int .i64 x1, .int .i64 y1] 27 (0, 0)) by rw [← hU]; exact (alloc_old _ _ _ lb1).trans Xb1.out)
  have pb1_b2 : W2.heap.size < W4.heap.size := lb1
  have lb12 : W2.heap.size < U5.heap.size := by rw [← hU]; simp only [alloc_size]; omega
  clear Xb1 lb1
  have Xb1 := Yb1
  have lb1 := lb12
  clear Yb1 lb12
  have Xb2 := Lib.hid (show U5.heap[W4.heap.size]? = some (.cells #[.slice A2 key.length cA2, .int .i64 s2, .int .i64 c2, .int .i64 n2, .int .u64 e2, .int .u64 f2, .int .i64 x2, .int .i64 y2] 27 (0, 0)) by rw [← hU]; exact heap_alloc_new _ _)
  have lb2 : W4.heap.size < U5.heap.size := by rw [← hU]; simp only [alloc_size]; omega
  have NA1 := Mine.below MA1 (fresh1 W4 (.cells #[.slice A2 key.length cA2, .int .i64 s2, .int .i64 c2, .int .i64 n2, .int .u64 e2, .int .u64 f2, .int .i64 x2, .int .i64 y2] 27 (0, 0)))
  rw [hU] at NA1
  clear MA1
  have MA1 := NA1
  clear NA1
  have NA2 := Mine.below MA2 (fresh1 W4 (.cells #[.slice A2 key.length cA2, .int .i64 s2, .int .i64 c2, .int .i64 n2, .int .u64 e2, .int .u64 f2, .int .i64 x2, .int .i64 y2] 27 (0, 0)))
  rw [hU] at NA2
  clear MA2
  have MA2 := NA2
  clear NA2
  clear hU
  refine (laneAnswered ⟨key, side, 1, 2, 0, 0, 0, 0⟩ ao cap 2 0 1 0 1 (by decide) (by decide) (by decide) _ HF.out (hr.on HB.out)).mono ?_
  rintro e W6 ⟨A3, cA3, he, Mx, hb⟩
  rw [HN3.out] at he Mx
  rw [HA.out] at he
  obtain rfl : e = .returned (.tuple #[(.agg #[.slice A3 key.length cA3, .int .i64 s3, .int .i64 c3, .int .i64 n3, .int .u64 e3, .int .u64 f3, .int .i64 x3, .int .i64 y3]), .int .u64 aa]) := he
  have MA3 : Mine _ _ _ A3 cA3 key := Mx
  clear Mx
  have hz := hb.size
  have HB2 := Lib.hid (HB.out.trans (hb.mono HB.out.size))
  clear HB
  have HB := HB2
  clear HB2
  have YZ := Lib.hid (show W6.heap[w.heap.size]? = some (.cells #[.slice none 0 0, .slice none 0 0, .slice none 0 0, .slice none 0 0, .slice none 0 0, .slice none 0 0, .slice none 0 0] 73 (0, 0)) from (hb.block (w.heap.size) lZ).trans XZ.out)
  have lZ2 : w.heap.size < W6.heap.size := by omega
  have mA3_Z : w.heap.size < U5.heap.size := lZ
  clear XZ lZ
  have XZ := YZ
  have lZ := lZ2
  clear YZ lZ2
  have YL := Lib.hid (show W6.heap[w.heap.size + 1]? = some (.cells #[.slice ao key.length cap, .int .i64 side, .int .i64 1, .int .i64 2, .int .u64 0, .int .u64 0, .int .i64 0, .int .i64 0] 27 (0, 0)) from (hb.block (w.heap.size + 1) lL).trans XL.out)
  have lL2 : w.heap.size + 1 < W6.heap.size := by omega
  have mA3_L : w.heap.size + 1 < U5.heap.size := lL
  clear XL lL
  have XL := YL
  have lL := lL2
  clear YL lL2
  have Yb1 := Lib.hid (show W6.heap[W2.heap.size]? = some (.cells #[.slice A1 key.length cA1, .int .i64 s1, .int .i64 c1, .int .i64 n1, .int .u64 e1, .int .u64 f1, .int .i64 x1, .int .i64 y1] 27 (0, 0)) from (hb.block (W2.heap.size) lb1).trans Xb1.out)
  have lb12 : W2.heap.size < W6.heap.size := by omega
  have mA3_b1 : W2.heap.size < U5.heap.size := lb1
  clear Xb1 lb1
  have Xb1 := Yb1
  have lb1 := lb12
  clear Yb1 lb12
  have Yb2 := Lib.hid (show W6.heap[W4.heap.size]? = some (.cells #[.slice A2 key.length cA2, .int .i64 s2, .int .i64 c2, .int .i64 n2, .int .u64 e2, .int .u64 f2, .int .i64 x2, .int .i64 y2] 27 (0, 0)) from (hb.block (W4.heap.size) lb2).trans Xb2.out)
  have lb22 : W4.heap.size < W6.heap.size := by omega
  have mA3_b2 : W4.heap.size < U5.heap.size := lb2
  clear Xb2 lb2
  have Xb2 := Yb2
  have lb2 := lb22
  clear Yb2 lb22
  have NA1 := Mine.below MA1 hb
  clear MA1
  have MA1 := NA1
  clear NA1
  have NA2 := Mine.below MA2 hb
  clear MA2
  have MA2 := NA2
  clear NA2
  clear hb hz
  have xL := XL.out
  have qL_0 : W6.cell? ⟨w.heap.size + 1, 0, none⟩ = some (.slice ao key.length cap) := cell_of_row W6 (w.heap.size + 1) 0 _ _ _ xL
  have qL_1 : W6.cell? ⟨w.heap.size + 1, 1, none⟩ = some (.int .i64 side) := cell_of_row W6 (w.heap.size + 1) 1 _ _ _ xL
  have qL_2 : W6.cell? ⟨w.heap.size + 1, 2, none⟩ = some (.int .i64 1) := cell_of_row W6 (w.heap.size + 1) 2 _ _ _ xL
  have qL_3 : W6.cell? ⟨w.heap.size + 1, 3, none⟩ = some (.int .i64 2) := cell_of_row W6 (w.heap.size + 1) 3 _ _ _ xL
  have qL_4 : W6.cell? ⟨w.heap.size + 1, 4, none⟩ = some (.int .u64 0) := cell_of_row W6 (w.heap.size + 1) 4 _ _ _ xL
  have qL_5 : W6.cell? ⟨w.heap.size + 1, 5, none⟩ = some (.int .u64 0) := cell_of_row W6 (w.heap.size + 1) 5 _ _ _ xL
  have qL_6 : W6.cell? ⟨w.heap.size + 1, 6, none⟩ = some (.int .i64 0) := cell_of_row W6 (w.heap.size + 1) 6 _ _ _ xL
  have qL_7 : W6.cell? ⟨w.heap.size + 1, 7, none⟩ = some (.int .i64 0) := cell_of_row W6 (w.heap.size + 1) 7 _ _ _ xL
  have qL_f (i : Nat) : W6.frozen? ⟨w.heap.size + 1, i, none⟩ = false := frozen_of_row W6 (w.heap.size + 1) i _ _ xL
  clear xL
  go_wp2_with fail
  generalize hU : W6.alloc (.cells #[.slice A3 key.length cA3, .int .i64 s3, .int .i64 c3, .int .i64 n3, .int .u64 e3, .int .u64 f3, .int .i64 x3, .int .i64 y3] 27 (0, 0)) = U7
  have HB2 := Lib.hid (show Below w.heap.size w U7 by rw [← hU]; exact below_push HB.out)
  clear HB
  have HB := HB2
  clear HB2
  clear qL_0 qL_1 qL_2 qL_3 qL_4 qL_5 qL_6 qL_7 qL_f
  have YZ := Lib.hid (show U7.heap[w.heap.size]? = some (.cells #[.slice none 0 0, .slice none 0 0, .slice none 0 0, .slice none 0 0, .slice none 0 0, .slice none 0 0, .slice none 0 0] 73 (0, 0)) by rw [← hU]; exact (alloc_old _ _ _ lZ).trans XZ.out)
  have pZ_b3 : w.heap.size < W6.heap.size := lZ
  have lZ2 : w.heap.size < U7.heap.size := by rw [← hU]; simp only [alloc_size]; omega
  clear XZ lZ
  have XZ := YZ
  have lZ := lZ2
  clear YZ lZ2
  have YL := Lib.hid (show U7.heap[w.heap.size + 1]? = some (.cells #[.slice ao key.length cap, .int .i64 side, .int .i64 1, .int .i64 2, .int .u64 0, .int .u64 0, .int .i64 0, .int .i64 0] 27 (0, 0)) by rw [← hU]; exact (alloc_old _ _ _ lL).trans XL.out)
  have pL_b3 : w.heap.size + 1 < W6.heap.size := lL
  have lL2 : w.heap.size + 1 < U7.heap.size := by rw [← hU]; simp only [alloc_size]; omega
  clear XL lL
  have XL := YL
  have lL := lL2
  clear YL lL2
  have Yb1 := Lib.hid (show U7.heap[W2.heap.size]? = some (.cells #[.slice A1 key.length cA1, .int .i64 s1, .int .i64 c1, .int .i64 n1, .int .u64 e1, .int .u64 f1, .int .i64 x1, .int .i64 y1] 27 (0, 0)) by rw [← hU]; exact (alloc_old _ _ _ lb1).trans Xb1.out)
  have pb1_b3 : W2.heap.size < W6.heap.size := lb1
  have lb12 : W2.heap.size < U7.heap.size := by rw [← hU]; simp only [alloc_size]; omega
  clear Xb1 lb1
  have Xb1 := Yb1
  have lb1 := lb12
  clear Yb1 lb12
  have Yb2 := Lib.hid (show U7.heap[W4.heap.size]? = some (.cells #[.slice A2 key.length cA2, .int .i64 s2, .int .i64 c2, .int .i64 n2, .int .u64 e2, .int .u64 f2, .int .i64 x2, .int .i64 y2] 27 (0, 0)) by rw [← hU]; exact (alloc_old _ _ _ lb2).trans Xb2.out)
  have pb2_b3 : W4.heap.size < W6.heap.size := lb2
  have lb22 : W4.heap.size < U7.heap.size := by rw [← hU]; simp only [alloc_size]; omega
  clear Xb2 lb2
  have Xb2 := Yb2
  have lb2 := lb22
  clear Yb2 lb22
  have Xb3 := Lib.hid (show U7.heap[W6.heap.size]? = some (.cells #[.slice A3 key.length cA3, .int .i64 s3, .int .i64 c3, .int .i64 n3, .int .u64 e3, .int .u64 f3, .int .i64 x3, .int .i64 y3] 27 (0, 0)) by rw [← hU]; exact heap_alloc_new _ _)
  have lb3 : W6.heap.size < U7.heap.size := by rw [← hU]; simp only [alloc_size]; omega
  have NA1 := Mine.below MA1 (fresh1 W6 (.cells #[.slice A3 key.length cA3, .int .i64 s3, .int .i64 c3, .int .i64 n3, .int .u64 e3, .int .u64 f3, .int .i64 x3, .int .i64 y3] 27 (0, 0)))
  rw [hU] at NA1
  clear MA1
  have MA1 := NA1
  clear NA1
  have NA2 := Mine.below MA2 (fresh1 W6 (.cells #[.slice A3 key.length cA3, .int .i64 s3, .int .i64 c3, .int .i64 n3, .int .u64 e3, .int .u64 f3, .int .i64 x3, .int .i64 y3] 27 (0, 0)))
  rw [hU] at NA2
  clear MA2
  have MA2 := NA2
  clear NA2
  have NA3 := Mine.below MA3 (fresh1 W6 (.cells #[.slice A3 key.length cA3, .int .i64 s3, .int .i64 c3, .int .i64 n3, .int .u64 e3, .int .u64 f3, .int .i64 x3, .int .i64 y3] 27 (0, 0)))
  rw [hU] at NA3
  clear MA3
  have MA3 := NA3
  clear NA3
  clear hU
  refine (laneReserve ⟨key, side, 1, 2, 0, 0, 0, 0⟩ ao cap 0 1 (by decide) (by decide) _ HF.out (hr.on HB.out)).mono ?_
  rintro e W8 ⟨A4, cA4, he, Mx, hb⟩
  rw [HN4.out] at he Mx
  obtain rfl : e = .returned (.agg #[.slice A4 key.length cA4, .int .i64 s4, .int .i64 c4, .int .i64 n4, .int .u64 e4, .int .u64 f4, .int .i64 x4, .int .i64 y4]) := he
  have MA4 : Mine _ _ _ A4 cA4 key := Mx
  clear Mx
  have hz := hb.size
  have HB2 := Lib.hid (HB.out.trans (hb.mono HB.out.size))
  clear HB
  have HB := HB2
  clear HB2
  have YZ := Lib.hid (show W8.heap[w.heap.size]? = some (.cells #[.slice none 0 0, .slice none 0 0, .slice none 0 0, .slice none 0 0, .slice none 0 0, .slice none 0 0, .slice none 0 0] 73 (0, 0)) from (hb.block (w.heap.size) lZ).trans XZ.out)
  have lZ2 : w.heap.size < W8.heap.size := by omega
  have mA4_Z : w.heap.size < U7.heap.size := lZ
  clear XZ lZ
  have XZ := YZ
  have lZ := lZ2
  clear YZ lZ2
  have YL := Lib.hid (show W8.heap[w.heap.size + 1]? = some (.cells #[.slice ao key.length cap, .int .i64 side, .int .i64 1, .int .i64 2, .int .u64 0, .int .u64 0, .int .i64 0, .int .i64 0] 27 (0, 0)) from (hb.block (w.heap.size + 1) lL).trans XL.out)
  have lL2 : w.heap.size + 1 < W8.heap.size := by omega
  have mA4_L : w.heap.size + 1 < U7.heap.size := lL
  clear XL lL
  have XL := YL
  have lL := lL2
  clear YL lL2
  have Yb1 := Lib.hid (show W8.heap[W2.heap.size]? = some (.cells #[.slice A1 key.length cA1, .int .i64 s1, .int .i64 c1, .int .i64 n1, .int .u64 e1, .int .u64 f1, .int .i64 x1, .int .i64 y1] 27 (0, 0)) from (hb.block (W2.heap.size) lb1).trans Xb1.out)
  have lb12 : W2.heap.size < W8.heap.size := by omega
  have mA4_b1 : W2.heap.size < U7.heap.size := lb1
  clear Xb1 lb1
  have Xb1 := Yb1
  have lb1 := lb12
  clear Yb1 lb12
  have Yb2 := Lib.hid (show W8.heap[W4.heap.size]? = some (.cells #[.slice A2 key.length cA2, .int .i64 s2, .int .i64 c2, .int .i64 n2, .int .u64 e2, .int .u64 f2, .int .i64 x2, .int .i64 y2] 27 (0, 0)) from (hb.block (W4.heap.size) lb2).trans Xb2.out)
  have lb22 : W4.heap.size < W8.heap.size := by omega
  have mA4_b2 : W4.heap.size < U7.heap.size := lb2
  clear Xb2 lb2
  have Xb2 := Yb2
  have lb2 := lb22
  clear Yb2 lb22
  have Yb3 := Lib.hid (show W8.heap[W6.heap.size]? = some (.cells #[.slice A3 key.length cA3, .int .i64 s3, .int .i64 c3, .int .i64 n3, .int .u64 e3, .int .u64 f3, .int .i64 x3, .int .i64 y3] 27 (0, 0)) from (hb.block (W6.heap.size) lb3).trans Xb3.out)
  have lb32 : W6.heap.size < W8.heap.size := by omega
  have mA4_b3 : W6.heap.size < U7.heap.size := lb3
  clear Xb3 lb3
  have Xb3 := Yb3
  have lb3 := lb32
  clear Yb3 lb32
  have NA1 := Mine.below MA1 hb
  clear MA1
  have MA1 := NA1
  clear NA1
  have NA2 := Mine.below MA2 hb
  clear MA2
  have MA2 := NA2
  clear NA2
  have NA3 := Mine.below MA3 hb
  clear MA3
  have MA3 := NA3
  clear NA3
  clear hb hz
  have xL := XL.out
  have qL_0 : W8.cell? ⟨w.heap.size + 1, 0, none⟩ = some (.slice ao key.length cap) := cell_of_row W8 (w.heap.size + 1) 0 _ _ _ xL
  have qL_1 : W8.cell? ⟨w.heap.size + 1, 1, none⟩ = some (.int .i64 side) := cell_of_row W8 (w.heap.size + 1) 1 _ _ _ xL
  have qL_2 : W8.cell? ⟨w.heap.size + 1, 2, none⟩ = some (.int .i64 1) := cell_of_row W8 (w.heap.size + 1) 2 _ _ _ xL
  have qL_3 : W8.cell? ⟨w.heap.size + 1, 3, none⟩ = some (.int .i64 2) := cell_of_row W8 (w.heap.size + 1) 3 _ _ _ xL
  have qL_4 : W8.cell? ⟨w.heap.size + 1, 4, none⟩ = some (.int .u64 0) := cell_of_row W8 (w.heap.size + 1) 4 _ _ _ xL
  have qL_5 : W8.cell? ⟨w.heap.size + 1, 5, none⟩ = some (.int .u64 0) := cell_of_row W8 (w.heap.size + 1) 5 _ _ _ xL
  have qL_6 : W8.cell? ⟨w.heap.size + 1, 6, none⟩ = some (.int .i64 0) := cell_of_row W8 (w.heap.size + 1) 6 _ _ _ xL
  have qL_7 : W8.cell? ⟨w.heap.size + 1, 7, none⟩ = some (.int .i64 0) := cell_of_row W8 (w.heap.size + 1) 7 _ _ _ xL
  have qL_f (i : Nat) : W8.frozen? ⟨w.heap.size + 1, i, none⟩ = false := frozen_of_row W8 (w.heap.size + 1) i _ _ xL
  clear xL
  go_wp2_with fail
  generalize hU : W8.alloc (.cells #[.slice A4 key.length cA4, .int .i64 s4, .int .i64 c4, .int .i64 n4, .int .u64 e4, .int .u64 f4, .int .i64 x4, .int .i64 y4] 27 (0, 0)) = U9
  have HB2 := Lib.hid (show Below w.heap.size w U9 by rw [← hU]; exact below_push HB.out)
  clear HB
  have HB := HB2
  clear HB2
  clear qL_0 qL_1 qL_2 qL_3 qL_4 qL_5 qL_6 qL_7 qL_f
  have YZ := Lib.hid (show U9.heap[w.heap.size]? = some (.cells #[.slice none 0 0, .slice none 0 0, .slice none 0 0, .slice none 0 0, .slice none 0 0, .slice none 0 0, .slice none 0 0] 73 (0, 0)) by rw [← hU]; exact (alloc_old _ _ _ lZ).trans XZ.out)
  have pZ_b4 : w.heap.size < W8.heap.size := lZ
  have lZ2 : w.heap.size < U9.heap.size := by rw [← hU]; simp only [alloc_size]; omega
  clear XZ lZ
  have XZ := YZ
  have lZ := lZ2
  clear YZ lZ2
  have YL := Lib.hid (show U9.heap[w.heap.size + 1]? = some (.cells #[.slice ao key.length cap, .int .i64 side, .int .i64 1, .int .i64 2, .int .u64 0, .int .u64 0, .int .i64 0, .int .i64 0] 27 (0, 0)) by rw [← hU]; exact (alloc_old _ _ _ lL).trans XL.out)
  have pL_b4 : w.heap.size + 1 < W8.heap.size := lL
  have lL2 : w.heap.size + 1 < U9.heap.size := by rw [← hU]; simp only [alloc_size]; omega
  clear XL lL
  have XL := YL
  have lL := lL2
  clear YL lL2
  have Yb1 := Lib.hid (show U9.heap[W2.heap.size]? = some (.cells #[.slice A1 key.length cA1, .int .i64 s1, .int .i64 c1, .int .i64 n1, .int .u64 e1, .int .u64 f1, .int .i64 x1, .int .i64 y1] 27 (0, 0)) by rw [← hU]; exact (alloc_old _ _ _ lb1).trans Xb1.out)
  have pb1_b4 : W2.heap.size < W8.heap.size := lb1
  have lb12 : W2.heap.size < U9.heap.size := by rw [← hU]; simp only [alloc_size]; omega
  clear Xb1 lb1
  have Xb1 := Yb1
  have lb1 := lb12
  clear Yb1 lb12
  have Yb2 := Lib.hid (show U9.heap[W4.heap.size]? = some (.cells #[.slice A2 key.length cA2, .int .i64 s2, .int .i64 c2, .int .i64 n2, .int .u64 e2, .int .u64 f2, .int .i64 x2, .int .i64 y2] 27 (0, 0)) by rw [← hU]; exact (alloc_old _ _ _ lb2).trans Xb2.out)
  have pb2_b4 : W4.heap.size < W8.heap.size := lb2
  have lb22 : W4.heap.size < U9.heap.size := by rw [← hU]; simp only [alloc_size]; omega
  clear Xb2 lb2
  have Xb2 := Yb2
  have lb2 := lb22
  clear Yb2 lb22
  have Yb3 := Lib.hid (show U9.heap[W6.heap.size]? = some (.cells #[.slice A3 key.length cA3, .int .i64 s3, .int .i64 c3, .int .i64 n3, .int .u64 e3, .int .u64 f3, .int .i64 x3, .int .i64 y3] 27 (0, 0)) by rw [← hU]; exact (alloc_old _ _ _ lb3).trans Xb3.out)
  have pb3_b4 : W6.heap.size < W8.heap.size := lb3
  have lb32 : W6.heap.size < U9.heap.size := by rw [← hU]; simp only [alloc_size]; omega
  clear Xb3 lb3
  have Xb3 := Yb3
  have lb3 := lb32
  clear Yb3 lb32
  have Xb4 := Lib.hid (show U9.heap[W8.heap.size]? = some (.cells #[.slice A4 key.length cA4, .int .i64 s4, .int .i64 c4, .int .i64 n4, .int .u64 e4, .int .u64 f4, .int .i64 x4, .int .i64 y4] 27 (0, 0)) by rw [← hU]; exact heap_alloc_new _ _)
  have lb4 : W8.heap.size < U9.heap.size := by rw [← hU]; simp only [alloc_size]; omega
  have NA1 := Mine.below MA1 (fresh1 W8 (.cells #[.slice A4 key.length cA4, .int .i64 s4, .int .i64 c4, .int .i64 n4, .int .u64 e4, .int .u64 f4, .int .i64 x4, .int .i64 y4] 27 (0, 0)))
  rw [hU] at NA1
  clear MA1
  have MA1 := NA1
  clear NA1
  have NA2 := Mine.below MA2 (fresh1 W8 (.cells #[.slice A4 key.length cA4, .int .i64 s4, .int .i64 c4, .int .i64 n4, .int .u64 e4, .int .u64 f4, .int .i64 x4, .int .i64 y4] 27 (0, 0)))
  rw [hU] at NA2
  clear MA2
  have MA2 := NA2
  clear NA2
  have NA3 := Mine.below MA3 (fresh1 W8 (.cells #[.slice A4 key.length cA4, .int .i64 s4, .int .i64 c4, .int .i64 n4, .int .u64 e4, .int .u64 f4, .int .i64 x4, .int .i64 y4] 27 (0, 0)))
  rw [hU] at NA3
  clear MA3
  have MA3 := NA3
  clear NA3
  have NA4 := Mine.below MA4 (fresh1 W8 (.cells #[.slice A4 key.length cA4, .int .i64 s4, .int .i64 c4, .int .i64 n4, .int .u64 e4, .int .u64 f4, .int .i64 x4, .int .i64 y4] 27 (0, 0)))
  rw [hU] at NA4
  clear MA4
  have MA4 := NA4
  clear NA4
  clear hU
  refine (laneOpened ⟨key, side, 1, 2, 0, 0, 0, 0⟩ ao cap 2 0 1 (by decide) (by decide) _ HF.out (hr.on HB.out)).mono ?_
  rintro e W10 ⟨A5, cA5, he, Mx, hb⟩
  rw [HN5.out] at he Mx
  obtain rfl : e = .returned (.agg #[.slice A5 key.length cA5, .int .i64 s5, .int .i64 c5, .int .i64 n5, .int .u64 e5, .int .u64 f5, .int .i64 x5, .int .i64 y5]) := he
  have MA5 : Mine _ _ _ A5 cA5 key := Mx
  clear Mx
  have hz := hb.size
  have HB2 := Lib.hid (HB.out.trans (hb.mono HB.out.size))
  clear HB
  have HB := HB2
  clear HB2
  have YZ := Lib.hid (show W10.heap[w.heap.size]? = some (.cells #[.slice none 0 0, .slice none 0 0, .slice none 0 0, .slice none 0 0, .slice none 0 0, .slice none 0 0, .slice none 0 0] 73 (0, 0)) from (hb.block (w.heap.size) lZ).trans XZ.out)
  have lZ2 : w.heap.size < W10.heap.size := by omega
  have mA5_Z : w.heap.size < U9.heap.size := lZ
  clear XZ lZ
  have XZ := YZ
  have lZ := lZ2
  clear YZ lZ2
  have YL := Lib.hid (show W10.heap[w.heap.size + 1]? = some (.cells #[.slice ao key.length cap, .int .i64 side, .int .i64 1, .int .i64 2, .int .u64 0, .int .u64 0, .int .i64 0, .int .i64 0] 27 (0, 0)) from (hb.block (w.heap.size + 1) lL).trans XL.out)
  have lL2 : w.heap.size + 1 < W10.heap.size := by omega
  have mA5_L : w.heap.size + 1 < U9.heap.size := lL
  clear XL lL
  have XL := YL
  have lL := lL2
  clear YL lL2
  have Yb1 := Lib.hid (show W10.heap[W2.heap.size]? = some (.cells #[.slice A1 key.length cA1, .int .i64 s1, .int .i64 c1, .int .i64 n1, .int .u64 e1, .int .u64 f1, .int .i64 x1, .int .i64 y1] 27 (0, 0)) from (hb.block (W2.heap.size) lb1).trans Xb1.out)
  have lb12 : W2.heap.size < W10.heap.size := by omega
  have mA5_b1 : W2.heap.size < U9.heap.size := lb1
  clear Xb1 lb1
  have Xb1 := Yb1
  have lb1 := lb12
  clear Yb1 lb12
  have Yb2 := Lib.hid (show W10.heap[W4.heap.size]? = some (.cells #[.slice A2 key.length cA2, .int .i64 s2, .int .i64 c2, .int .i64 n2, .int .u64 e2, .int .u64 f2, .int .i64 x2, .int .i64 y2] 27 (0, 0)) from (hb.block (W4.heap.size) lb2).trans Xb2.out)
  have lb22 : W4.heap.size < W10.heap.size := by omega
  have mA5_b2 : W4.heap.size < U9.heap.size := lb2
  clear Xb2 lb2
  have Xb2 := Yb2
  have lb2 := lb22
  clear Yb2 lb22
  have Yb3 := Lib.hid (show W10.heap[W6.heap.size]? = some (.cells #[.slice A3 key.length cA3, .int .i64 s3, .int .i64 c3, .int .i64 n3, .int .u64 e3, .int .u64 f3, .int .i64 x3, .int .i64 y3] 27 (0, 0)) from (hb.block (W6.heap.size) lb3).trans Xb3.out)
  have lb32 : W6.heap.size < W10.heap.size := by omega
  have mA5_b3 : W6.heap.size < U9.heap.size := lb3
  clear Xb3 lb3
  have Xb3 := Yb3
  have lb3 := lb32
  clear Yb3 lb32
  have Yb4 := Lib.hid (show W10.heap[W8.heap.size]? = some (.cells #[.slice A4 key.length cA4, .int .i64 s4, .int .i64 c4, .int .i64 n4, .int .u64 e4, .int .u64 f4, .int .i64 x4, .int .i64 y4] 27 (0, 0)) from (hb.block (W8.heap.size) lb4).trans Xb4.out)
  have lb42 : W8.heap.size < W10.heap.size := by omega
  have mA5_b4 : W8.heap.size < U9.heap.size := lb4
  clear Xb4 lb4
  have Xb4 := Yb4
  have lb4 := lb42
  clear Yb4 lb42
  have NA1 := Mine.below MA1 hb
  clear MA1
  have MA1 := NA1
  clear NA1
  have NA2 := Mine.below MA2 hb
  clear MA2
  have MA2 := NA2
  clear NA2
  have NA3 := Mine.below MA3 hb
  clear MA3
  have MA3 := NA3
  clear NA3
  have NA4 := Mine.below MA4 hb
  clear MA4
  have MA4 := NA4
  clear NA4
  clear hb hz
  have xL := XL.out
  have qL_0 : W10.cell? ⟨w.heap.size + 1, 0, none⟩ = some (.slice ao key.length cap) := cell_of_row W10 (w.heap.size + 1) 0 _ _ _ xL
  have qL_1 : W10.cell? ⟨w.heap.size + 1, 1, none⟩ = some (.int .i64 side) := cell_of_row W10 (w.heap.size + 1) 1 _ _ _ xL
  have qL_2 : W10.cell? ⟨w.heap.size + 1, 2, none⟩ = some (.int .i64 1) := cell_of_row W10 (w.heap.size + 1) 2 _ _ _ xL
  have qL_3 : W10.cell? ⟨w.heap.size + 1, 3, none⟩ = some (.int .i64 2) := cell_of_row W10 (w.heap.size + 1) 3 _ _ _ xL
  have qL_4 : W10.cell? ⟨w.heap.size + 1, 4, none⟩ = some (.int .u64 0) := cell_of_row W10 (w.heap.size + 1) 4 _ _ _ xL
  have qL_5 : W10.cell? ⟨w.heap.size + 1, 5, none⟩ = some (.int .u64 0) := cell_of_row W10 (w.heap.size + 1) 5 _ _ _ xL
  have qL_6 : W10.cell? ⟨w.heap.size + 1, 6, none⟩ = some (.int .i64 0) := cell_of_row W10 (w.heap.size + 1) 6 _ _ _ xL
  have qL_7 : W10.cell? ⟨w.heap.size + 1, 7, none⟩ = some (.int .i64 0) := cell_of_row W10 (w.heap.size + 1) 7 _ _ _ xL
  have qL_f (i : Nat) : W10.frozen? ⟨w.heap.size + 1, i, none⟩ = false := frozen_of_row W10 (w.heap.size + 1) i _ _ xL
  clear xL
  go_wp2_with fail
  generalize hU : W10.alloc (.cells #[.slice A5 key.length cA5, .int .i64 s5, .int .i64 c5, .int .i64 n5, .int .u64 e5, .int .u64 f5, .int .i64 x5, .int .i64 y5] 27 (0, 0)) = U11
  have HB2 := Lib.hid (show Below w.heap.size w U11 by rw [← hU]; exact below_push HB.out)
  clear HB
  have HB := HB2
  clear HB2
  clear qL_0 qL_1 qL_2 qL_3 qL_4 qL_5 qL_6 qL_7 qL_f
  have YZ := Lib.hid (show U11.heap[w.heap.size]? = some (.cells #[.slice none 0 0, .slice none 0 0, .slice none 0 0, .slice none 0 0, .slice none 0 0, .slice none 0 0, .slice none 0 0] 73 (0, 0)) by rw [← hU]; exact (alloc_old _ _ _ lZ).trans XZ.out)
  have pZ_b5 : w.heap.size < W10.heap.size := lZ
  have lZ2 : w.heap.size < U11.heap.size := by rw [← hU]; simp only [alloc_size]; omega
  clear XZ lZ
  have XZ := YZ
  have lZ := lZ2
  clear YZ lZ2
  have YL := Lib.hid (show U11.heap[w.heap.size + 1]? = some (.cells #[.slice ao key.length cap, .int .i64 side, .int .i64 1, .int .i64 2, .int .u64 0, .int .u64 0, .int .i64 0, .int .i64 0] 27 (0, 0)) by rw [← hU]; exact (alloc_old _ _ _ lL).trans XL.out)
  have pL_b5 : w.heap.size + 1 < W10.heap.size := lL
  have lL2 : w.heap.size + 1 < U11.heap.size := by rw [← hU]; simp only [alloc_size]; omega
  clear XL lL
  have XL := YL
  have lL := lL2
  clear YL lL2
  have Yb1 := Lib.hid (show U11.heap[W2.heap.size]? = some (.cells #[.slice A1 key.length cA1, .int .i64 s1, .int .i64 c1, .int .i64 n1, .int .u64 e1, .int .u64 f1, .int .i64 x1, .int .i64 y1] 27 (0, 0)) by rw [← hU]; exact (alloc_old _ _ _ lb1).trans Xb1.out)
  have pb1_b5 : W2.heap.size < W10.heap.size := lb1
  have lb12 : W2.heap.size < U11.heap.size := by rw [← hU]; simp only [alloc_size]; omega
  clear Xb1 lb1
  have Xb1 := Yb1
  have lb1 := lb12
  clear Yb1 lb12
  have Yb2 := Lib.hid (show U11.heap[W4.heap.size]? = some (.cells #[.slice A2 key.length cA2, .int .i64 s2, .int .i64 c2, .int .i64 n2, .int .u64 e2, .int .u64 f2, .int .i64 x2, .int .i64 y2] 27 (0, 0)) by rw [← hU]; exact (alloc_old _ _ _ lb2).trans Xb2.out)
  have pb2_b5 : W4.heap.size < W10.heap.size := lb2
  have lb22 : W4.heap.size < U11.heap.size := by rw [← hU]; simp only [alloc_size]; omega
  clear Xb2 lb2
  have Xb2 := Yb2
  have lb2 := lb22
  clear Yb2 lb22
  have Yb3 := Lib.hid (show U11.heap[W6.heap.size]? = some (.cells #[.slice A3 key.length cA3, .int .i64 s3, .int .i64 c3, .int .i64 n3, .int .u64 e3, .int .u64 f3, .int .i64 x3, .int .i64 y3] 27 (0, 0)) by rw [← hU]; exact (alloc_old _ _ _ lb3).trans Xb3.out)
  have pb3_b5 : W6.heap.size < W10.heap.size := lb3
  have lb32 : W6.heap.size < U11.heap.size := by rw [← hU]; simp only [alloc_size]; omega
  clear Xb3 lb3
  have Xb3 := Yb3
  have lb3 := lb32
  clear Yb3 lb32
  have Yb4 := Lib.hid (show U11.heap[W8.heap.size]? = some (.cells #[.slice A4 key.length cA4, .int .i64 s4, .int .i64 c4, .int .i64 n4, .int .u64 e4, .int .u64 f4, .int .i64 x4, .int .i64 y4] 27 (0, 0)) by rw [← hU]; exact (alloc_old _ _ _ lb4).trans Xb4.out)
  have pb4_b5 : W8.heap.size < W10.heap.size := lb4
  have lb42 : W8.heap.size < U11.heap.size := by rw [← hU]; simp only [alloc_size]; omega
  clear Xb4 lb4
  have Xb4 := Yb4
  have lb4 := lb42
  clear Yb4 lb42
  have Xb5 := Lib.hid (show U11.heap[W10.heap.size]? = some (.cells #[.slice A5 key.length cA5, .int .i64 s5, .int .i64 c5, .int .i64 n5, .int .u64 e5, .int .u64 f5, .int .i64 x5, .int .i64 y5] 27 (0, 0)) by rw [← hU]; exact heap_alloc_new _ _)
  have lb5 : W10.heap.size < U11.heap.size := by rw [← hU]; simp only [alloc_size]; omega
  have NA1 := Mine.below MA1 (fresh1 W10 (.cells #[.slice A5 key.length cA5, .int .i64 s5, .int .i64 c5, .int .i64 n5, .int .u64 e5, .int .u64 f5, .int .i64 x5, .int .i64 y5] 27 (0, 0)))
  rw [hU] at NA1
  clear MA1
  have MA1 := NA1
  clear NA1
  have NA2 := Mine.below MA2 (fresh1 W10 (.cells #[.slice A5 key.length cA5, .int .i64 s5, .int .i64 c5, .int .i64 n5, .int .u64 e5, .int .u64 f5, .int .i64 x5, .int .i64 y5] 27 (0, 0)))
  rw [hU] at NA2
  clear MA2
  have MA2 := NA2
  clear NA2
  have NA3 := Mine.below MA3 (fresh1 W10 (.cells #[.slice A5 key.length cA5, .int .i64 s5, .int .i64 c5, .int .i64 n5, .int .u64 e5, .int .u64 f5, .int .i64 x5, .int .i64 y5] 27 (0, 0)))
  rw [hU] at NA3
  clear MA3
  have MA3 := NA3
  clear NA3
  have NA4 := Mine.below MA4 (fresh1 W10 (.cells #[.slice A5 key.length cA5, .int .i64 s5, .int .i64 c5, .int .i64 n5, .int .u64 e5, .int .u64 f5, .int .i64 x5, .int .i64 y5] 27 (0, 0)))
  rw [hU] at NA4
  clear MA4
  have MA4 := NA4
  clear NA4
  have NA5 := Mine.below MA5 (fresh1 W10 (.cells #[.slice A5 key.length cA5, .int .i64 s5, .int .i64 c5, .int .i64 n5, .int .u64 e5, .int .u64 f5, .int .i64 x5, .int .i64 y5] 27 (0, 0)))
  rw [hU] at NA5
  clear MA5
  have MA5 := NA5
  clear NA5
  clear hU
  refine (laneRaise ⟨key, side, 1, 2, 0, 0, 0, 0⟩ ao cap 0 1 (by decide) (by decide) _ HF.out (hr.on HB.out)).mono ?_
  rintro e W12 ⟨A6, cA6, he, Mx, hb⟩
  rw [HN6.out] at he Mx
  obtain rfl : e = .returned (.agg #[.slice A6 key.length cA6, .int .i64 s6, .int .i64 c6, .int .i64 n6, .int .u64 e6, .int .u64 f6, .int .i64 x6, .int .i64 y6]) := he
  have MA6 : Mine _ _ _ A6 cA6 key := Mx
  clear Mx
  have hz := hb.size
  have HB2 := Lib.hid (HB.out.trans (hb.mono HB.out.size))
  clear HB
  have HB := HB2
  clear HB2
  have YZ := Lib.hid (show W12.heap[w.heap.size]? = some (.cells #[.slice none 0 0, .slice none 0 0, .slice none 0 0, .slice none 0 0, .slice none 0 0, .slice none 0 0, .slice none 0 0] 73 (0, 0)) from (hb.block (w.heap.size) lZ).trans XZ.out)
  have lZ2 : w.heap.size < W12.heap.size := by omega
  have mA6_Z : w.heap.size < U11.heap.size := lZ
  clear XZ lZ
  have XZ := YZ
  have lZ := lZ2
  clear YZ lZ2
  have YL := Lib.hid (show W12.heap[w.heap.size + 1]? = some (.cells #[.slice ao key.length cap, .int .i64 side, .int .i64 1, .int .i64 2, .int .u64 0, .int .u64 0, .int .i64 0, .int .i64 0] 27 (0, 0)) from (hb.block (w.heap.size + 1) lL).trans XL.out)
  have lL2 : w.heap.size + 1 < W12.heap.size := by omega
  have mA6_L : w.heap.size + 1 < U11.heap.size := lL
  clear XL lL
  have XL := YL
  have lL := lL2
  clear YL lL2
  have Yb1 := Lib.hid (show W12.heap[W2.heap.size]? = some (.cells #[.slice A1 key.length cA1, .int .i64 s1, .int .i64 c1, .int .i64 n1, .int .u64 e1, .int .u64 f1, .int .i64 x1, .int .i64 y1] 27 (0, 0)) from (hb.block (W2.heap.size) lb1).trans Xb1.out)
  have lb12 : W2.heap.size < W12.heap.size := by omega
  have mA6_b1 : W2.heap.size < U11.heap.size := lb1
  clear Xb1 lb1
  have Xb1 := Yb1
  have lb1 := lb12
  clear Yb1 lb12
  have Yb2 := Lib.hid (show W12.heap[W4.heap.size]? = some (.cells #[.slice A2 key.length cA2, .int .i64 s2, .int .i64 c2, .int .i64 n2, .int .u64 e2, .int .u64 f2, .int .i64 x2, .int .i64 y2] 27 (0, 0)) from (hb.block (W4.heap.size) lb2).trans Xb2.out)
  have lb22 : W4.heap.size < W12.heap.size := by omega
  have mA6_b2 : W4.heap.size < U11.heap.size := lb2
  clear Xb2 lb2
  have Xb2 := Yb2
  have lb2 := lb22
  clear Yb2 lb22
  have Yb3 := Lib.hid (show W12.heap[W6.heap.size]? = some (.cells #[.slice A3 key.length cA3, .int .i64 s3, .int .i64 c3, .int .i64 n3, .int .u64 e3, .int .u64 f3, .int .i64 x3, .int .i64 y3] 27 (0, 0)) from (hb.block (W6.heap.size) lb3).trans Xb3.out)
  have lb32 : W6.heap.size < W12.heap.size := by omega
  have mA6_b3 : W6.heap.size < U11.heap.size := lb3
  clear Xb3 lb3
  have Xb3 := Yb3
  have lb3 := lb32
  clear Yb3 lb32
  have Yb4 := Lib.hid (show W12.heap[W8.heap.size]? = some (.cells #[.slice A4 key.length cA4, .int .i64 s4, .int .i64 c4, .int .i64 n4, .int .u64 e4, .int .u64 f4, .int .i64 x4, .int .i64 y4] 27 (0, 0)) from (hb.block (W8.heap.size) lb4).trans Xb4.out)
  have lb42 : W8.heap.size < W12.heap.size := by omega
  have mA6_b4 : W8.heap.size < U11.heap.size := lb4
  clear Xb4 lb4
  have Xb4 := Yb4
  have lb4 := lb42
  clear Yb4 lb42
  have Yb5 := Lib.hid (show W12.heap[W10.heap.size]? = some (.cells #[.slice A5 key.length cA5, .int .i64 s5, .int .i64 c5, .int .i64 n5, .int .u64 e5, .int .u64 f5, .int .i64 x5, .int .i64 y5] 27 (0, 0)) from (hb.block (W10.heap.size) lb5).trans Xb5.out)
  have lb52 : W10.heap.size < W12.heap.size := by omega
  have mA6_b5 : W10.heap.size < U11.heap.size := lb5
  clear Xb5 lb5
  have Xb5 := Yb5
  have lb5 := lb52
  clear Yb5 lb52
  have NA1 := Mine.below MA1 hb
  clear MA1
  have MA1 := NA1
  clear NA1
  have NA2 := Mine.below MA2 hb
  clear MA2
  have MA2 := NA2
  clear NA2
  have NA3 := Mine.below MA3 hb
  clear MA3
  have MA3 := NA3
  clear NA3
  have NA4 := Mine.below MA4 hb
  clear MA4
  have MA4 := NA4
  clear NA4
  have NA5 := Mine.below MA5 hb
  clear MA5
  have MA5 := NA5
  clear NA5
  clear hb hz
  go_wp2_with fail
  generalize hU : W12.alloc (.cells #[.slice A6 key.length cA6, .int .i64 s6, .int .i64 c6, .int .i64 n6, .int .u64 e6, .int .u64 f6, .int .i64 x6, .int .i64 y6] 27 (0, 0)) = U13
  have HB2 := Lib.hid (show Below w.heap.size w U13 by rw [← hU]; exact below_push HB.out)
  clear HB
  have HB := HB2
  clear HB2
  have YZ := Lib.hid (show U13.heap[w.heap.size]? = some (.cells #[.slice none 0 0, .slice none 0 0, .slice none 0 0, .slice none 0 0, .slice none 0 0, .slice none 0 0, .slice none 0 0] 73 (0, 0)) by rw [← hU]; exact (alloc_old _ _ _ lZ).trans XZ.out)
  have pZ_b6 : w.heap.size < W12.heap.size := lZ
  have lZ2 : w.heap.size < U13.heap.size := by rw [← hU]; simp only [alloc_size]; omega
  clear XZ lZ
  have XZ := YZ
  have lZ := lZ2
  clear YZ lZ2
  have YL := Lib.hid (show U13.heap[w.heap.size + 1]? = some (.cells #[.slice ao key.length cap, .int .i64 side, .int .i64 1, .int .i64 2, .int .u64 0, .int .u64 0, .int .i64 0, .int .i64 0] 27 (0, 0)) by rw [← hU]; exact (alloc_old _ _ _ lL).trans XL.out)
  have pL_b6 : w.heap.size + 1 < W12.heap.size := lL
  have lL2 : w.heap.size + 1 < U13.heap.size := by rw [← hU]; simp only [alloc_size]; omega
  clear XL lL
  have XL := YL
  have lL := lL2
  clear YL lL2
  have Yb1 := Lib.hid (show U13.heap[W2.heap.size]? = some (.cells #[.slice A1 key.length cA1, .int .i64 s1, .int .i64 c1, .int .i64 n1, .int .u64 e1, .int .u64 f1, .int .i64 x1, .int .i64 y1] 27 (0, 0)) by rw [← hU]; exact (alloc_old _ _ _ lb1).trans Xb1.out)
  have pb1_b6 : W2.heap.size < W12.heap.size := lb1
  have lb12 : W2.heap.size < U13.heap.size := by rw [← hU]; simp only [alloc_size]; omega
  clear Xb1 lb1
  have Xb1 := Yb1
  have lb1 := lb12
  clear Yb1 lb12
  have Yb2 := Lib.hid (show U13.heap[W4.heap.size]? = some (.cells #[.slice A2 key.length cA2, .int .i64 s2, .int .i64 c2, .int .i64 n2, .int .u64 e2, .int .u64 f2, .int .i64 x2, .int .i64 y2] 27 (0, 0)) by rw [← hU]; exact (alloc_old _ _ _ lb2).trans Xb2.out)
  have pb2_b6 : W4.heap.size < W12.heap.size := lb2
  have lb22 : W4.heap.size < U13.heap.size := by rw [← hU]; simp only [alloc_size]; omega
  clear Xb2 lb2
  have Xb2 := Yb2
  have lb2 := lb22
  clear Yb2 lb22
  have Yb3 := Lib.hid (show U13.heap[W6.heap.size]? = some (.cells #[.slice A3 key.length cA3, .int .i64 s3, .int .i64 c3, .int .i64 n3, .int .u64 e3, .int .u64 f3, .int .i64 x3, .int .i64 y3] 27 (0, 0)) by rw [← hU]; exact (alloc_old _ _ _ lb3).trans Xb3.out)
  have pb3_b6 : W6.heap.size < W12.heap.size := lb3
  have lb32 : W6.heap.size < U13.heap.size := by rw [← hU]; simp only [alloc_size]; omega
  clear Xb3 lb3
  have Xb3 := Yb3
  have lb3 := lb32
  clear Yb3 lb32
  have Yb4 := Lib.hid (show U13.heap[W8.heap.size]? = some (.cells #[.slice A4 key.length cA4, .int .i64 s4, .int .i64 c4, .int .i64 n4, .int .u64 e4, .int .u64 f4, .int .i64 x4, .int .i64 y4] 27 (0, 0)) by rw [← hU]; exact (alloc_old _ _ _ lb4).trans Xb4.out)
  have pb4_b6 : W8.heap.size < W12.heap.size := lb4
  have lb42 : W8.heap.size < U13.heap.size := by rw [← hU]; simp only [alloc_size]; omega
  clear Xb4 lb4
  have Xb4 := Yb4
  have lb4 := lb42
  clear Yb4 lb42
  have Yb5 := Lib.hid (show U13.heap[W10.heap.size]? = some (.cells #[.slice A5 key.length cA5, .int .i64 s5, .int .i64 c5, .int .i64 n5, .int .u64 e5, .int .u64 f5, .int .i64 x5, .int .i64 y5] 27 (0, 0)) by rw [← hU]; exact (alloc_old _ _ _ lb5).trans Xb5.out)
  have pb5_b6 : W10.heap.size < W12.heap.size := lb5
  have lb52 : W10.heap.size < U13.heap.size := by rw [← hU]; simp only [alloc_size]; omega
  clear Xb5 lb5
  have Xb5 := Yb5
  have lb5 := lb52
  clear Yb5 lb52
  have Xb6 := Lib.hid (show U13.heap[W12.heap.size]? = some (.cells #[.slice A6 key.length cA6, .int .i64 s6, .int .i64 c6, .int .i64 n6, .int .u64 e6, .int .u64 f6, .int .i64 x6, .int .i64 y6] 27 (0, 0)) by rw [← hU]; exact heap_alloc_new _ _)
  have lb6 : W12.heap.size < U13.heap.size := by rw [← hU]; simp only [alloc_size]; omega
  have NA1 := Mine.below MA1 (fresh1 W12 (.cells #[.slice A6 key.length cA6, .int .i64 s6, .int .i64 c6, .int .i64 n6, .int .u64 e6, .int .u64 f6, .int .i64 x6, .int .i64 y6] 27 (0, 0)))
  rw [hU] at NA1
  clear MA1
  have MA1 := NA1
  clear NA1
  have NA2 := Mine.below MA2 (fresh1 W12 (.cells #[.slice A6 key.length cA6, .int .i64 s6, .int .i64 c6, .int .i64 n6, .int .u64 e6, .int .u64 f6, .int .i64 x6, .int .i64 y6] 27 (0, 0)))
  rw [hU] at NA2
  clear MA2
  have MA2 := NA2
  clear NA2
  have NA3 := Mine.below MA3 (fresh1 W12 (.cells #[.slice A6 key.length cA6, .int .i64 s6, .int .i64 c6, .int .i64 n6, .int .u64 e6, .int .u64 f6, .int .i64 x6, .int .i64 y6] 27 (0, 0)))
  rw [hU] at NA3
  clear MA3
  have MA3 := NA3
  clear NA3
  have NA4 := Mine.below MA4 (fresh1 W12 (.cells #[.slice A6 key.length cA6, .int .i64 s6, .int .i64 c6, .int .i64 n6, .int .u64 e6, .int .u64 f6, .int .i64 x6, .int .i64 y6] 27 (0, 0)))
  rw [hU] at NA4
  clear MA4
  have MA4 := NA4
  clear NA4
  have NA5 := Mine.below MA5 (fresh1 W12 (.cells #[.slice A6 key.length cA6, .int .i64 s6, .int .i64 c6, .int .i64 n6, .int .u64 e6, .int .u64 f6, .int .i64 x6, .int .i64 y6] 27 (0, 0)))
  rw [hU] at NA5
  clear MA5
  have MA5 := NA5
  clear NA5
  have NA6 := Mine.below MA6 (fresh1 W12 (.cells #[.slice A6 key.length cA6, .int .i64 s6, .int .i64 c6, .int .i64 n6, .int .u64 e6, .int .u64 f6, .int .i64 x6, .int .i64 y6] 27 (0, 0)))
  rw [hU] at NA6
  clear MA6
  have MA6 := NA6
  clear NA6
  clear hU
  have q1 : U13.cell? ⟨W2.heap.size, 0, none⟩ = some (.slice A1 key.length cA1) := cell_of_row U13 (W2.heap.size) 0 _ _ _ Xb1.out
  have nz1 : W2.heap.size ≠ w.heap.size := by omega
  have q2 : U13.cell? ⟨W4.heap.size, 0, none⟩ = some (.slice A2 key.length cA2) := cell_of_row U13 (W4.heap.size) 0 _ _ _ Xb2.out
  have nz2 : W4.heap.size ≠ w.heap.size := by omega
  have q3 : U13.cell? ⟨W6.heap.size, 0, none⟩ = some (.slice A3 key.length cA3) := cell_of_row U13 (W6.heap.size) 0 _ _ _ Xb3.out
  have nz3 : W6.heap.size ≠ w.heap.size := by omega
  have q4 : U13.cell? ⟨W8.heap.size, 0, none⟩ = some (.slice A4 key.length cA4) := cell_of_row U13 (W8.heap.size) 0 _ _ _ Xb4.out
  have nz4 : W8.heap.size ≠ w.heap.size := by omega
  have q5 : U13.cell? ⟨W10.heap.size, 0, none⟩ = some (.slice A5 key.length cA5) := cell_of_row U13 (W10.heap.size) 0 _ _ _ Xb5.out
  have nz5 : W10.heap.size ≠ w.heap.size := by omega
  have q6 : U13.cell? ⟨W12.heap.size, 0, none⟩ = some (.slice A6 key.length cA6) := cell_of_row U13 (W12.heap.size) 0 _ _ _ Xb6.out
  have nz6 : W12.heap.size ≠ w.heap.size := by omega
  have hrU : Rd U13.drew ao key := (hr.on HB.out : Rd U13 ao key)
  have hfd : ∀ (a : Option Addr) (d : Nat) (u : World), (Instr.field 27 (.agg #[.slice a key.length d, .int .i64 side, .int .i64 1, .int .i64 0, .int .u64 0, .int .u64 0, .int .i64 0, .int .i64 0]) 0).run Try.prog u = .ok (.slice a key.length d) u := fun _ _ _ => by kernel_rfl
  go_region_held3 (fun w' => w'.cell? ⟨W2.heap.size, 0, none⟩ = some (.slice A1 key.length cA1) ∧ w'.cell? ⟨W4.heap.size, 0, none⟩ = some (.slice A2 key.length cA2) ∧ w'.cell? ⟨W6.heap.size, 0, none⟩ = some (.slice A3 key.length cA3) ∧ w'.cell? ⟨W8.heap.size, 0, none⟩ = some (.slice A4 key.length cA4) ∧ w'.cell? ⟨W10.heap.size, 0, none⟩ = some (.slice A5 key.length cA5) ∧ w'.cell? ⟨W12.heap.size, 0, none⟩ = some (.slice A6 key.length cA6)) (((try simp only [cell_drew, cell_far _ _ _ _ _ _ nz1, cell_far _ _ _ _ _ _ nz2, cell_far _ _ _ _ _ _ nz3, cell_far _ _ _ _ _ _ nz4, cell_far _ _ _ _ _ _ nz5, cell_far _ _ _ _ _ _ nz6]); (refine ⟨?_, ?_, ?_, ?_, ?_, ?_⟩ <;> with_reducible assumption))) ((go_at_call 17; refine (laneNew key side ao cap U13.drew hrU).mono ?_; rintro e V ⟨A0, cA0, he, Mx, hb⟩; rw [HW.out] at he Mx; obtain rfl : e = .returned (.agg #[.slice A0 key.length cA0, .int .i64 side, .int .i64 1, .int .i64 0, .int .u64 0, .int .u64 0, .int .i64 0, .int .i64 0]) := he; have r1 : V.cell? ⟨W2.heap.size, 0, none⟩ = some (.slice A1 key.length cA1) := (hb.cell (by show W2.heap.size < U13.heap.size; omega)).trans q1; have r2 : V.cell? ⟨W4.heap.size, 0, none⟩ = some (.slice A2 key.length cA2) := (hb.cell (by show W4.heap.size < U13.heap.size; omega)).trans q2; have r3 : V.cell? ⟨W6.heap.size, 0, none⟩ = some (.slice A3 key.length cA3) := (hb.cell (by show W6.heap.size < U13.heap.size; omega)).trans q3; have r4 : V.cell? ⟨W8.heap.size, 0, none⟩ = some (.slice A4 key.length cA4) := (hb.cell (by show W8.heap.size < U13.heap.size; omega)).trans q4; have r5 : V.cell? ⟨W10.heap.size, 0, none⟩ = some (.slice A5 key.length cA5) := (hb.cell (by show W10.heap.size < U13.heap.size; omega)).trans q5; have r6 : V.cell? ⟨W12.heap.size, 0, none⟩ = some (.slice A6 key.length cA6) := (hb.cell (by show W12.heap.size < U13.heap.size; omega)).trans q6; have xz : V.heap[w.heap.size]? = some (.cells #[.slice none 0 0, .slice none 0 0, .slice none 0 0, .slice none 0 0, .slice none 0 0, .slice none 0 0, .slice none 0 0] 73 (0, 0)) := (hb.block (w.heap.size) (by show w.heap.size < U13.heap.size; omega)).trans XZ.out; have z0 : V.cell? ⟨w.heap.size, 0, none⟩ = some (.slice none 0 0) := cell_of_row V (w.heap.size) 0 _ _ _ xz; have z1 : V.cell? ⟨w.heap.size, 1, none⟩ = some (.slice none 0 0) := cell_of_row V (w.heap.size) 1 _ _ _ xz; have z2 : V.cell? ⟨w.heap.size, 2, none⟩ = some (.slice none 0 0) := cell_of_row V (w.heap.size) 2 _ _ _ xz; have z3 : V.cell? ⟨w.heap.size, 3, none⟩ = some (.slice none 0 0) := cell_of_row V (w.heap.size) 3 _ _ _ xz; have z4 : V.cell? ⟨w.heap.size, 4, none⟩ = some (.slice none 0 0) := cell_of_row V (w.heap.size) 4 _ _ _ xz; have z5 : V.cell? ⟨w.heap.size, 5, none⟩ = some (.slice none 0 0) := cell_of_row V (w.heap.size) 5 _ _ _ xz; have z6 : V.cell? ⟨w.heap.size, 6, none⟩ = some (.slice none 0 0) := cell_of_row V (w.heap.size) 6 _ _ _ xz; have zf (i : Nat) : V.frozen? ⟨w.heap.size, i, none⟩ = false := frozen_of_row V (w.heap.size) i _ _ xz; clear xz))
  go_wp2_with fail
  refine bodyPost_ret (v := .agg #[.slice A0 key.length cA0, .slice A1 key.length cA1, .slice A2 key.length cA2, .slice A3 key.length cA3, .slice A4 key.length cA4, .slice A5 key.length cA5, .slice A6 key.length cA6]) (by simp [results, Try.results42, go_sem, z0, z1, z2, z3, z4, z5, z6]) rfl ⟨A0, cA0, A1, cA1, A2, cA2, A3, cA3, A4, cA4, A5, cA5, A6, cA6, rfl, ?_, ?_, ?_, ?_, ?_, ?_, ?_, ?_⟩
  · refine Mine.from (B := U13.heap.size) ?_ (by omega)
    iterate 7 (refine Mine.setCell ?_ _ _ _ (by omega))
    exact Mx
  · refine Mine.from (B := U1.heap.size) ?_ (by omega)
    iterate 7 (refine Mine.setCell ?_ _ _ _ (by omega))
    exact Mine.below (w := U13.drew) MA1 hb
  · refine Mine.from (B := U3.heap.size) ?_ (by omega)
    iterate 7 (refine Mine.setCell ?_ _ _ _ (by omega))
    exact Mine.below (w := U13.drew) MA2 hb
  · refine Mine.from (B := U5.heap.size) ?_ (by omega)
    iterate 7 (refine Mine.setCell ?_ _ _ _ (by omega))
    exact Mine.below (w := U13.drew) MA3 hb
  · refine Mine.from (B := U7.heap.size) ?_ (by omega)
    iterate 7 (refine Mine.setCell ?_ _ _ _ (by omega))
    exact Mine.below (w := U13.drew) MA4 hb
  · refine Mine.from (B := U9.heap.size) ?_ (by omega)
    iterate 7 (refine Mine.setCell ?_ _ _ _ (by omega))
    exact Mine.below (w := U13.drew) MA5 hb
  · refine Mine.from (B := U11.heap.size) ?_ (by omega)
    iterate 7 (refine Mine.setCell ?_ _ _ _ (by omega))
    exact Mine.below (w := U13.drew) MA6 hb
  · iterate 7 (refine Below.set ?_ _ _ _ (Nat.le_refl _))
    exact HB.out.drew.trans (hb.mono HB.out.size)
end Go.Proofs.Ytihndipgdogebaa
