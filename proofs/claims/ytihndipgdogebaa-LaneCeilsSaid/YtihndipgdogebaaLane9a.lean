/- What the program's Answered makes of a lane: the leaves of its walk. -/
import Derived.Test.YtihndipgdogebaaLane9
namespace Go.Proofs.Ytihndipgdogebaa
open Go.RowKit
set_option maxHeartbeats 4000000 in
theorem laneAnswered_n0 (L : Ln) (ao : Option Addr) (cap : Nat) (g c ss sn b : Int) (_hc0 : 0 ≤ c) (_hc1 : c ≤ 18446744073709551615) (_hss : ss ≤ 9223372036854775807) (w : World) (hf : L.fits) (hr : Rd w ao L.key) (hok : L.ok = false) :
   Calls Try.prog 34 #[L.val ao cap, .int .i64 g, .int .u64 c, .agg #[.int .i64 ss, .int .i64 sn], .int .i64 b] w fun e w' => ∃ ao' cap', e = .returned (.tuple #[(answeredL L g c ss sn b).val ao' cap', .int .u64 (atA L g c ss sn b)]) ∧ Mine w' w.heap.size 5 ao' cap' (answeredL L g c ss sn b).key ∧ Below w.heap.size w w' := by
  obtain ⟨hl, hcur0, hcur1, hnext0, hnext1, hsend0, hsend1, hceil0, hceil1, hs⟩ := hf
  obtain ⟨key, side, cur, next, send, ceil, sec, nano⟩ := L
  unfold Ln.val
  simp only at hl hcur0 hcur1 hnext0 hnext1 hsend0 hsend1 hceil0 hceil1 hs hr hok ⊢
  have hma : mayA ⟨key, side, cur, next, send, ceil, sec, nano⟩ g c ss sn b = false := by simp [mayA, hok]
  have hy : answeredL ⟨key, side, cur, next, send, ceil, sec, nano⟩ g c ss sn b = Ln.zero := by simp [answeredL, hma]
  have ha : atA ⟨key, side, cur, next, send, ceil, sec, nano⟩ g c ss sn b = 0 := by simp [atA, hma]
  rw [hy, ha]
  unfold Ln.zero
  have HOK := Lib.hid hok
  clear hok hy ha hma
  go_enter Try.func34, Try.ntmps34
  go_wp2_with fail
  refine (laneValid ⟨key, side, cur, next, send, ceil, sec, nano⟩ ao cap hs _).mono ?_
  rintro e w1 ⟨rfl, hb⟩
  rw [HOK.out]
  have hz := hb.size
  simp only [alloc_size] at hz
  have hB := (((((((Below.refl _ w).alloc (Nat.le_refl _) _).alloc (by simp only [alloc_size]; omega) _).alloc (by simp only [alloc_size]; omega) _).alloc (by simp only [alloc_size]; omega) _).alloc (by simp only [alloc_size]; omega) _).alloc (by simp only [alloc_size]; omega) _).trans (hb.mono (by simp only [alloc_size]; omega))
  have x0 : w1.heap[w.heap.size]? = some (.cells #[.slice ao key.length cap, .int .i64 side, .int .i64 cur, .int .i64 next, .int .u64 send, .int .u64 ceil, .int .i64 sec, .int .i64 nano] 27 (0, 0)) := (hb_block hb (w.heap.size) (by simp only [alloc_size]; omega)).trans (by simp only [alloc_get, alloc_size]; repeat first | rw [if_pos trivial] | rw [if_neg (by omega)] | rw [if_pos (by omega)])
  have x1 : w1.heap[w.heap.size + 1]? = some (.cells #[.int .i64 g] 3 (0, 0)) := (hb_block hb (w.heap.size + 1) (by simp only [alloc_size]; omega)).trans (by simp only [alloc_get, alloc_size]; repeat first | rw [if_pos trivial] | rw [if_neg (by omega)] | rw [if_pos (by omega)])
  have x2 : w1.heap[w.heap.size + 2]? = some (.cells #[.int .u64 c] 23 (0, 0)) := (hb_block hb (w.heap.size + 2) (by simp only [alloc_size]; omega)).trans (by simp only [alloc_get, alloc_size]; repeat first | rw [if_pos trivial] | rw [if_neg (by omega)] | rw [if_pos (by omega)])
  have x3 : w1.heap[w.heap.size + 3]? = some (.cells #[.int .i64 ss, .int .i64 sn] 25 (0, 0)) := (hb_block hb (w.heap.size + 3) (by simp only [alloc_size]; omega)).trans (by simp only [alloc_get, alloc_size]; repeat first | rw [if_pos trivial] | rw [if_neg (by omega)] | rw [if_pos (by omega)])
  have x4 : w1.heap[w.heap.size + 4]? = some (.cells #[.int .i64 b] 3 (0, 0)) := (hb_block hb (w.heap.size + 4) (by simp only [alloc_size]; omega)).trans (by simp only [alloc_get, alloc_size]; repeat first | rw [if_pos trivial] | rw [if_neg (by omega)] | rw [if_pos (by omega)])
  have x5 : w1.heap[w.heap.size + 5]? = some (.cells #[.slice none 0 0, .int .i64 0, .int .i64 0, .int .i64 0, .int .u64 0, .int .u64 0, .int .i64 0, .int .i64 0] 27 (0, 0)) := (hb_block hb (w.heap.size + 5) (by simp only [alloc_size]; omega)).trans (by simp only [alloc_get, alloc_size]; repeat first | rw [if_pos trivial] | rw [if_neg (by omega)] | rw [if_pos (by omega)])
  clear hb
  have q0_0 : w1.cell? ⟨w.heap.size, 0, none⟩ = some (.slice ao key.length cap) := cell_of_row w1 (w.heap.size) 0 _ _ _ x0
  have q0_1 : w1.cell? ⟨w.heap.size, 1, none⟩ = some (.int .i64 side) := cell_of_row w1 (w.heap.size) 1 _ _ _ x0
  have q0_2 : w1.cell? ⟨w.heap.size, 2, none⟩ = some (.int .i64 cur) := cell_of_row w1 (w.heap.size) 2 _ _ _ x0
  have q0_3 : w1.cell? ⟨w.heap.size, 3, none⟩ = some (.int .i64 next) := cell_of_row w1 (w.heap.size) 3 _ _ _ x0
  have q0_4 : w1.cell? ⟨w.heap.size, 4, none⟩ = some (.int .u64 send) := cell_of_row w1 (w.heap.size) 4 _ _ _ x0
  have q0_5 : w1.cell? ⟨w.heap.size, 5, none⟩ = some (.int .u64 ceil) := cell_of_row w1 (w.heap.size) 5 _ _ _ x0
  have q0_6 : w1.cell? ⟨w.heap.size, 6, none⟩ = some (.int .i64 sec) := cell_of_row w1 (w.heap.size) 6 _ _ _ x0
  have q0_7 : w1.cell? ⟨w.heap.size, 7, none⟩ = some (.int .i64 nano) := cell_of_row w1 (w.heap.size) 7 _ _ _ x0
  have q0_f (i : Nat) : w1.frozen? ⟨w.heap.size, i, none⟩ = false := frozen_of_row w1 (w.heap.size) i _ _ x0
  have q1_0 : w1.cell? ⟨w.heap.size + 1, 0, none⟩ = some (.int .i64 g) := cell_of_row w1 (w.heap.size + 1) 0 _ _ _ x1
  have q1_f (i : Nat) : w1.frozen? ⟨w.heap.size + 1, i, none⟩ = false := frozen_of_row w1 (w.heap.size + 1) i _ _ x1
  have q2_0 : w1.cell? ⟨w.heap.size + 2, 0, none⟩ = some (.int .u64 c) := cell_of_row w1 (w.heap.size + 2) 0 _ _ _ x2
  have q2_f (i : Nat) : w1.frozen? ⟨w.heap.size + 2, i, none⟩ = false := frozen_of_row w1 (w.heap.size + 2) i _ _ x2
  have q3_0 : w1.cell? ⟨w.heap.size + 3, 0, none⟩ = some (.int .i64 ss) := cell_of_row w1 (w.heap.size + 3) 0 _ _ _ x3
  have q3_1 : w1.cell? ⟨w.heap.size + 3, 1, none⟩ = some (.int .i64 sn) := cell_of_row w1 (w.heap.size + 3) 1 _ _ _ x3
  have q3_f (i : Nat) : w1.frozen? ⟨w.heap.size + 3, i, none⟩ = false := frozen_of_row w1 (w.heap.size + 3) i _ _ x3
  have q4_0 : w1.cell? ⟨w.heap.size + 4, 0, none⟩ = some (.int .i64 b) := cell_of_row w1 (w.heap.size + 4) 0 _ _ _ x4
  have q4_f (i : Nat) : w1.frozen? ⟨w.heap.size + 4, i, none⟩ = false := frozen_of_row w1 (w.heap.size + 4) i _ _ x4
  have HX := Lib.hid (show w1.heap[w.heap.size + 5]? = some (.cells #[.slice none 0 0, .int .i64 0, .int .i64 0, .int .i64 0, .int .u64 0, .int .u64 0, .int .i64 0, .int .i64 0] 27 (0, 0)) from x5)
  have X0 := Lib.hid x0
  have X1 := Lib.hid x1
  have X2 := Lib.hid x2
  have X3 := Lib.hid x3
  have X4 := Lib.hid x4
  have X5 := Lib.hid x5
  clear x0 x1 x2 x3 x4 x5
  go_wp2_with fail
  generalize hW : w1.alloc (Obj.cells #[.int .u64 0] 23 (0, 0)) = U
  have hzW : w.heap.size + 6 ≤ w1.heap.size := by omega
  have hB2 := hB.alloc (B := w.heap.size) (by omega) (Obj.cells #[.int .u64 0] 23 (0, 0))
  rw [hW] at hB2
  have hWs : U.drew.heap.size = w1.heap.size + 1 := by rw [← hW]; exact alloc_size _ _
  have xa : U.heap[w1.heap.size]? = some (.cells #[.int .u64 0] 23 (0, 0)) := by rw [← hW]; exact heap_alloc_new _ _
  clear q0_0 q0_1 q0_2 q0_3 q0_4 q0_5 q0_6 q0_7 q0_f
  clear q1_0 q1_f
  clear q2_0 q2_f
  clear q3_0 q3_1 q3_f
  clear q4_0 q4_f
  have x0 := X0.out
  clear X0
  have x1 := X1.out
  clear X1
  have x2 := X2.out
  clear X2
  have x3 := X3.out
  clear X3
  have x4 := X4.out
  clear X4
  have x5 := X5.out
  clear X5
  have x0 : U.heap[w.heap.size]? = some (.cells #[.slice ao key.length cap, .int .i64 side, .int .i64 cur, .int .i64 next, .int .u64 send, .int .u64 ceil, .int .i64 sec, .int .i64 nano] 27 (0, 0)) := by rw [← hW]; exact (alloc_old _ _ _ (by omega)).trans x0
  have x1 : U.heap[w.heap.size + 1]? = some (.cells #[.int .i64 g] 3 (0, 0)) := by rw [← hW]; exact (alloc_old _ _ _ (by omega)).trans x1
  have x2 : U.heap[w.heap.size + 2]? = some (.cells #[.int .u64 c] 23 (0, 0)) := by rw [← hW]; exact (alloc_old _ _ _ (by omega)).trans x2
  have x3 : U.heap[w.heap.size + 3]? = some (.cells #[.int .i64 ss, .int .i64 sn] 25 (0, 0)) := by rw [← hW]; exact (alloc_old _ _ _ (by omega)).trans x3
  have x4 : U.heap[w.heap.size + 4]? = some (.cells #[.int .i64 b] 3 (0, 0)) := by rw [← hW]; exact (alloc_old _ _ _ (by omega)).trans x4
  have x5 : U.heap[w.heap.size + 5]? = some (.cells #[.slice none 0 0, .int .i64 0, .int .i64 0, .int .i64 0, .int .u64 0, .int .u64 0, .int .i64 0, .int .i64 0] 27 (0, 0)) := by rw [← hW]; exact (alloc_old _ _ _ (by omega)).trans x5
  have c0 : U.cell? ⟨w1.heap.size, 0, none⟩ = some (.int .u64 0) := cell_of_row U (w1.heap.size) 0 _ _ _ xa
  have r0_0 : U.cell? ⟨w.heap.size, 0, none⟩ = some (.slice ao key.length cap) := cell_of_row U (w.heap.size) 0 _ _ _ x0
  have r0_1 : U.cell? ⟨w.heap.size, 1, none⟩ = some (.int .i64 side) := cell_of_row U (w.heap.size) 1 _ _ _ x0
  have r0_2 : U.cell? ⟨w.heap.size, 2, none⟩ = some (.int .i64 cur) := cell_of_row U (w.heap.size) 2 _ _ _ x0
  have r0_3 : U.cell? ⟨w.heap.size, 3, none⟩ = some (.int .i64 next) := cell_of_row U (w.heap.size) 3 _ _ _ x0
  have r0_4 : U.cell? ⟨w.heap.size, 4, none⟩ = some (.int .u64 send) := cell_of_row U (w.heap.size) 4 _ _ _ x0
  have r0_5 : U.cell? ⟨w.heap.size, 5, none⟩ = some (.int .u64 ceil) := cell_of_row U (w.heap.size) 5 _ _ _ x0
  have r0_6 : U.cell? ⟨w.heap.size, 6, none⟩ = some (.int .i64 sec) := cell_of_row U (w.heap.size) 6 _ _ _ x0
  have r0_7 : U.cell? ⟨w.heap.size, 7, none⟩ = some (.int .i64 nano) := cell_of_row U (w.heap.size) 7 _ _ _ x0
  have r0_f (i : Nat) : U.frozen? ⟨w.heap.size, i, none⟩ = false := frozen_of_row U (w.heap.size) i _ _ x0
  have r1_0 : U.cell? ⟨w.heap.size + 1, 0, none⟩ = some (.int .i64 g) := cell_of_row U (w.heap.size + 1) 0 _ _ _ x1
  have r1_f (i : Nat) : U.frozen? ⟨w.heap.size + 1, i, none⟩ = false := frozen_of_row U (w.heap.size + 1) i _ _ x1
  have r2_0 : U.cell? ⟨w.heap.size + 2, 0, none⟩ = some (.int .u64 c) := cell_of_row U (w.heap.size + 2) 0 _ _ _ x2
  have r2_f (i : Nat) : U.frozen? ⟨w.heap.size + 2, i, none⟩ = false := frozen_of_row U (w.heap.size + 2) i _ _ x2
  have r3_0 : U.cell? ⟨w.heap.size + 3, 0, none⟩ = some (.int .i64 ss) := cell_of_row U (w.heap.size + 3) 0 _ _ _ x3
  have r3_1 : U.cell? ⟨w.heap.size + 3, 1, none⟩ = some (.int .i64 sn) := cell_of_row U (w.heap.size + 3) 1 _ _ _ x3
  have r3_f (i : Nat) : U.frozen? ⟨w.heap.size + 3, i, none⟩ = false := frozen_of_row U (w.heap.size + 3) i _ _ x3
  have r4_0 : U.cell? ⟨w.heap.size + 4, 0, none⟩ = some (.int .i64 b) := cell_of_row U (w.heap.size + 4) 0 _ _ _ x4
  have r4_f (i : Nat) : U.frozen? ⟨w.heap.size + 4, i, none⟩ = false := frozen_of_row U (w.heap.size + 4) i _ _ x4
  have hrW : Rd U.drew ao key := (hr.on hB2 : Rd U ao key)
  have hn1 : w1.heap.size ≠ w.heap.size + 5 := by omega
  have hn2 : w.heap.size ≠ w.heap.size + 5 := by omega
  have X5 := Lib.hid x5
  clear x0 x1 x2 x3 x4 x5 xa hW hB
  go_region_held3 (fun w' => w'.cell? ⟨w1.heap.size, 0, none⟩ = some (.int .u64 0) ∧ w'.cell? ⟨w.heap.size, 0, none⟩ = some (.slice ao key.length cap) ∧ w'.cell? ⟨w.heap.size, 1, none⟩ = some (.int .i64 side) ∧ w'.cell? ⟨w.heap.size, 2, none⟩ = some (.int .i64 cur) ∧ w'.cell? ⟨w.heap.size, 3, none⟩ = some (.int .i64 next) ∧ w'.cell? ⟨w.heap.size, 4, none⟩ = some (.int .u64 send) ∧ w'.cell? ⟨w.heap.size, 5, none⟩ = some (.int .u64 ceil) ∧ w'.cell? ⟨w.heap.size, 6, none⟩ = some (.int .i64 sec) ∧ w'.cell? ⟨w.heap.size, 7, none⟩ = some (.int .i64 nano)) (((try simp only [cell_drew, cell_far _ _ _ _ _ _ hn1, cell_far _ _ _ _ _ _ hn2]); (refine ⟨?_, ?_, ?_, ?_, ?_, ?_, ?_, ?_, ?_⟩ <;> with_reducible assumption))) ((go_at_call 46; refine (laneChanged0 ⟨key, side, cur, next, send, ceil, sec, nano⟩ ao cap false _ U.drew hs (by simp)).mono ?_; rintro e V ⟨he, hb2⟩; obtain rfl : e = .returned (.agg #[.slice none 0 0, .int .i64 0, .int .i64 0, .int .i64 0, .int .u64 0, .int .u64 0, .int .i64 0, .int .i64 0]) := he; have dc0 : V.cell? ⟨w1.heap.size, 0, none⟩ = some (.int .u64 0) := (hb2.cell (by rw [hWs]; show w1.heap.size < _; omega)).trans c0; have dr0_0 : V.cell? ⟨w.heap.size, 0, none⟩ = some (.slice ao key.length cap) := (hb2.cell (by rw [hWs]; show w.heap.size < _; omega)).trans r0_0; have dr0_1 : V.cell? ⟨w.heap.size, 1, none⟩ = some (.int .i64 side) := (hb2.cell (by rw [hWs]; show w.heap.size < _; omega)).trans r0_1; have dr0_2 : V.cell? ⟨w.heap.size, 2, none⟩ = some (.int .i64 cur) := (hb2.cell (by rw [hWs]; show w.heap.size < _; omega)).trans r0_2; have dr0_3 : V.cell? ⟨w.heap.size, 3, none⟩ = some (.int .i64 next) := (hb2.cell (by rw [hWs]; show w.heap.size < _; omega)).trans r0_3; have dr0_4 : V.cell? ⟨w.heap.size, 4, none⟩ = some (.int .u64 send) := (hb2.cell (by rw [hWs]; show w.heap.size < _; omega)).trans r0_4; have dr0_5 : V.cell? ⟨w.heap.size, 5, none⟩ = some (.int .u64 ceil) := (hb2.cell (by rw [hWs]; show w.heap.size < _; omega)).trans r0_5; have dr0_6 : V.cell? ⟨w.heap.size, 6, none⟩ = some (.int .i64 sec) := (hb2.cell (by rw [hWs]; show w.heap.size < _; omega)).trans r0_6; have dr0_7 : V.cell? ⟨w.heap.size, 7, none⟩ = some (.int .i64 nano) := (hb2.cell (by rw [hWs]; show w.heap.size < _; omega)).trans r0_7; have y : V.heap[w.heap.size + 5]? = some (.cells #[.slice none 0 0, .int .i64 0, .int .i64 0, .int .i64 0, .int .u64 0, .int .u64 0, .int .i64 0, .int .i64 0] 27 (0, 0)) := (hb2.block (w.heap.size + 5) (by rw [hWs]; omega)).trans X5.out; have b0 : V.cell? ⟨w.heap.size + 5, 0, none⟩ = some (.slice none 0 0) := cell_of_row V (w.heap.size + 5) 0 _ _ _ y; have b1 : V.cell? ⟨w.heap.size + 5, 1, none⟩ = some (.int .i64 0) := cell_of_row V (w.heap.size + 5) 1 _ _ _ y; have b2 : V.cell? ⟨w.heap.size + 5, 2, none⟩ = some (.int .i64 0) := cell_of_row V (w.heap.size + 5) 2 _ _ _ y; have b3 : V.cell? ⟨w.heap.size + 5, 3, none⟩ = some (.int .i64 0) := cell_of_row V (w.heap.size + 5) 3 _ _ _ y; have b4 : V.cell? ⟨w.heap.size + 5, 4, none⟩ = some (.int .u64 0) := cell_of_row V (w.heap.size + 5) 4 _ _ _ y; have b5 : V.cell? ⟨w.heap.size + 5, 5, none⟩ = some (.int .u64 0) := cell_of_row V (w.heap.size + 5) 5 _ _ _ y; have b6 : V.cell? ⟨w.heap.size + 5, 6, none⟩ = some (.int .i64 0) := cell_of_row V (w.heap.size + 5) 6 _ _ _ y; have b7 : V.cell? ⟨w.heap.size + 5, 7, none⟩ = some (.int .i64 0) := cell_of_row V (w.heap.size + 5) 7 _ _ _ y; have bf (i : Nat) : V.frozen? ⟨w.heap.size + 5, i, none⟩ = false := frozen_of_row V (w.heap.size + 5) i _ _ y; clear y))
  go_wp2_with fail
  refine bodyPost_ret (v := .tuple #[.agg #[.slice none 0 0, .int .i64 0, .int .i64 0, .int .i64 0, .int .u64 0, .int .u64 0, .int .i64 0, .int .i64 0], .int .u64 0]) (by simp [results, Try.results34, go_sem, b0, b1, b2, b3, b4, b5, b6, b7]) rfl ⟨_, _, rfl, ?_, ?_⟩
  · exact Or.inl ⟨rfl, rfl, rfl⟩
  · iterate 8 (refine Below.set ?_ _ _ _ (by omega))
    exact hB2.drew.trans (hb2.mono (by rw [hWs]; omega))
set_option maxHeartbeats 4000000 in
theorem laneAnswered_n1 (L : Ln) (ao : Option Addr) (cap : Nat) (g c ss sn b : Int) (_hc0 : 0 ≤ c) (_hc1 : c ≤ 18446744073709551615) (_hss : ss ≤ 9223372036854775807) (w : World) (hf : L.fits) (hr : Rd w ao L.key) (hok : L.ok = true) (hbk : blkB b = false) :
   Calls Try.prog 34 #[L.val ao cap, .int .i64 g, .int .u64 c, .agg #[.int .i64 ss, .int .i64 sn], .int .i64 b] w fun e w' => ∃ ao' cap', e = .returned (.tuple #[(answeredL L g c ss sn b).val ao' cap', .int .u64 (atA L g c ss sn b)]) ∧ Mine w' w.heap.size 5 ao' cap' (answeredL L g c ss sn b).key ∧ Below w.heap.size w w' := by
  obtain ⟨hl, hcur0, hcur1, hnext0, hnext1, hsend0, hsend1, hceil0, hceil1, hs⟩ := hf
  obtain ⟨key, side, cur, next, send, ceil, sec, nano⟩ := L
  unfold Ln.val
  simp only at hl hcur0 hcur1 hnext0 hnext1 hsend0 hsend1 hceil0 hceil1 hs hr hok ⊢
  have hma : mayA ⟨key, side, cur, next, send, ceil, sec, nano⟩ g c ss sn b = false := by simp [mayA, hok, hbk]
  have hy : answeredL ⟨key, side, cur, next, send, ceil, sec, nano⟩ g c ss sn b = Ln.zero := by simp [answeredL, hma]
  have ha : atA ⟨key, side, cur, next, send, ceil, sec, nano⟩ g c ss sn b = 0 := by simp [atA, hma]
  rw [hy, ha]
  unfold Ln.zero
  have HOK := Lib.hid hok
  have HBK := Lib.hid hbk
  clear hok hy ha hma hbk
  go_enter Try.func34, Try.ntmps34
  go_wp2_with fail
  refine (laneValid ⟨key, side, cur, next, send, ceil, sec, nano⟩ ao cap hs _).mono ?_
  rintro e w1 ⟨rfl, hb⟩
  rw [HOK.out]
  have hz := hb.size
  simp only [alloc_size] at hz
  have hB := (((((((Below.refl _ w).alloc (Nat.le_refl _) _).alloc (by simp only [alloc_size]; omega) _).alloc (by simp only [alloc_size]; omega) _).alloc (by simp only [alloc_size]; omega) _).alloc (by simp only [alloc_size]; omega) _).alloc (by simp only [alloc_size]; omega) _).trans (hb.mono (by simp only [alloc_size]; omega))
  have x0 : w1.heap[w.heap.size]? = some (.cells #[.slice ao key.length cap, .int .i64 side, .int .i64 cur, .int .i64 next, .int .u64 send, .int .u64 ceil, .int .i64 sec, .int .i64 nano] 27 (0, 0)) := (hb_block hb (w.heap.size) (by simp only [alloc_size]; omega)).trans (by simp only [alloc_get, alloc_size]; repeat first | rw [if_pos trivial] | rw [if_neg (by omega)] | rw [if_pos (by omega)])
  have x1 : w1.heap[w.heap.size + 1]? = some (.cells #[.int .i64 g] 3 (0, 0)) := (hb_block hb (w.heap.size + 1) (by simp only [alloc_size]; omega)).trans (by simp only [alloc_get, alloc_size]; repeat first | rw [if_pos trivial] | rw [if_neg (by omega)] | rw [if_pos (by omega)])
  have x2 : w1.heap[w.heap.size + 2]? = some (.cells #[.int .u64 c] 23 (0, 0)) := (hb_block hb (w.heap.size + 2) (by simp only [alloc_size]; omega)).trans (by simp only [alloc_get, alloc_size]; repeat first | rw [if_pos trivial] | rw [if_neg (by omega)] | rw [if_pos (by omega)])
  have x3 : w1.heap[w.heap.size + 3]? = some (.cells #[.int .i64 ss, .int .i64 sn] 25 (0, 0)) := (hb_block hb (w.heap.size + 3) (by simp only [alloc_size]; omega)).trans (by simp only [alloc_get, alloc_size]; repeat first | rw [if_pos trivial] | rw [if_neg (by omega)] | rw [if_pos (by omega)])
  have x4 : w1.heap[w.heap.size + 4]? = some (.cells #[.int .i64 b] 3 (0, 0)) := (hb_block hb (w.heap.size + 4) (by simp only [alloc_size]; omega)).trans (by simp only [alloc_get, alloc_size]; repeat first | rw [if_pos trivial] | rw [if_neg (by omega)] | rw [if_pos (by omega)])
  have x5 : w1.heap[w.heap.size + 5]? = some (.cells #[.slice none 0 0, .int .i64 0, .int .i64 0, .int .i64 0, .int .u64 0, .int .u64 0, .int .i64 0, .int .i64 0] 27 (0, 0)) := (hb_block hb (w.heap.size + 5) (by simp only [alloc_size]; omega)).trans (by simp only [alloc_get, alloc_size]; repeat first | rw [if_pos trivial] | rw [if_neg (by omega)] | rw [if_pos (by omega)])
  clear hb
  have q0_0 : w1.cell? ⟨w.heap.size, 0, none⟩ = some (.slice ao key.length cap) := cell_of_row w1 (w.heap.size) 0 _ _ _ x0
  have q0_1 : w1.cell? ⟨w.heap.size, 1, none⟩ = some (.int .i64 side) := cell_of_row w1 (w.heap.size) 1 _ _ _ x0
  have q0_2 : w1.cell? ⟨w.heap.size, 2, none⟩ = some (.int .i64 cur) := cell_of_row w1 (w.heap.size) 2 _ _ _ x0
  have q0_3 : w1.cell? ⟨w.heap.size, 3, none⟩ = some (.int .i64 next) := cell_of_row w1 (w.heap.size) 3 _ _ _ x0
  have q0_4 : w1.cell? ⟨w.heap.size, 4, none⟩ = some (.int .u64 send) := cell_of_row w1 (w.heap.size) 4 _ _ _ x0
  have q0_5 : w1.cell? ⟨w.heap.size, 5, none⟩ = some (.int .u64 ceil) := cell_of_row w1 (w.heap.size) 5 _ _ _ x0
  have q0_6 : w1.cell? ⟨w.heap.size, 6, none⟩ = some (.int .i64 sec) := cell_of_row w1 (w.heap.size) 6 _ _ _ x0
  have q0_7 : w1.cell? ⟨w.heap.size, 7, none⟩ = some (.int .i64 nano) := cell_of_row w1 (w.heap.size) 7 _ _ _ x0
  have q0_f (i : Nat) : w1.frozen? ⟨w.heap.size, i, none⟩ = false := frozen_of_row w1 (w.heap.size) i _ _ x0
  have q1_0 : w1.cell? ⟨w.heap.size + 1, 0, none⟩ = some (.int .i64 g) := cell_of_row w1 (w.heap.size + 1) 0 _ _ _ x1
  have q1_f (i : Nat) : w1.frozen? ⟨w.heap.size + 1, i, none⟩ = false := frozen_of_row w1 (w.heap.size + 1) i _ _ x1
  have q2_0 : w1.cell? ⟨w.heap.size + 2, 0, none⟩ = some (.int .u64 c) := cell_of_row w1 (w.heap.size + 2) 0 _ _ _ x2
  have q2_f (i : Nat) : w1.frozen? ⟨w.heap.size + 2, i, none⟩ = false := frozen_of_row w1 (w.heap.size + 2) i _ _ x2
  have q3_0 : w1.cell? ⟨w.heap.size + 3, 0, none⟩ = some (.int .i64 ss) := cell_of_row w1 (w.heap.size + 3) 0 _ _ _ x3
  have q3_1 : w1.cell? ⟨w.heap.size + 3, 1, none⟩ = some (.int .i64 sn) := cell_of_row w1 (w.heap.size + 3) 1 _ _ _ x3
  have q3_f (i : Nat) : w1.frozen? ⟨w.heap.size + 3, i, none⟩ = false := frozen_of_row w1 (w.heap.size + 3) i _ _ x3
  have q4_0 : w1.cell? ⟨w.heap.size + 4, 0, none⟩ = some (.int .i64 b) := cell_of_row w1 (w.heap.size + 4) 0 _ _ _ x4
  have q4_f (i : Nat) : w1.frozen? ⟨w.heap.size + 4, i, none⟩ = false := frozen_of_row w1 (w.heap.size + 4) i _ _ x4
  have HX := Lib.hid (show w1.heap[w.heap.size + 5]? = some (.cells #[.slice none 0 0, .int .i64 0, .int .i64 0, .int .i64 0, .int .u64 0, .int .u64 0, .int .i64 0, .int .i64 0] 27 (0, 0)) from x5)
  have X0 := Lib.hid x0
  have X1 := Lib.hid x1
  have X2 := Lib.hid x2
  have X3 := Lib.hid x3
  have X4 := Lib.hid x4
  have X5 := Lib.hid x5
  clear x0 x1 x2 x3 x4 x5
  go_wp2_with fail
  refine (laneBlock b _).mono ?_
  rintro e w2 ⟨rfl, hw⟩
  obtain rfl := hw.symm
  rw [HBK.out]
  go_wp2_with fail
  generalize hW : w1.alloc (Obj.cells #[.int .u64 0] 23 (0, 0)) = U
  have hzW : w.heap.size + 6 ≤ w1.heap.size := by omega
  have hB2 := hB.alloc (B := w.heap.size) (by omega) (Obj.cells #[.int .u64 0] 23 (0, 0))
  rw [hW] at hB2
  have hWs : U.drew.heap.size = w1.heap.size + 1 := by rw [← hW]; exact alloc_size _ _
  have xa : U.heap[w1.heap.size]? = some (.cells #[.int .u64 0] 23 (0, 0)) := by rw [← hW]; exact heap_alloc_new _ _
  clear q0_0 q0_1 q0_2 q0_3 q0_4 q0_5 q0_6 q0_7 q0_f
  clear q1_0 q1_f
  clear q2_0 q2_f
  clear q3_0 q3_1 q3_f
  clear q4_0 q4_f
  have x0 := X0.out
  clear X0
  have x1 := X1.out
  clear X1
  have x2 := X2.out
  clear X2
  have x3 := X3.out
  clear X3
  have x4 := X4.out
  clear X4
  have x5 := X5.out
  clear X5
  have x0 : U.heap[w.heap.size]? = some (.cells #[.slice ao key.length cap, .int .i64 side, .int .i64 cur, .int .i64 next, .int .u64 send, .int .u64 ceil, .int .i64 sec, .int .i64 nano] 27 (0, 0)) := by rw [← hW]; exact (alloc_old _ _ _ (by omega)).trans x0
  have x1 : U.heap[w.heap.size + 1]? = some (.cells #[.int .i64 g] 3 (0, 0)) := by rw [← hW]; exact (alloc_old _ _ _ (by omega)).trans x1
  have x2 : U.heap[w.heap.size + 2]? = some (.cells #[.int .u64 c] 23 (0, 0)) := by rw [← hW]; exact (alloc_old _ _ _ (by omega)).trans x2
  have x3 : U.heap[w.heap.size + 3]? = some (.cells #[.int .i64 ss, .int .i64 sn] 25 (0, 0)) := by rw [← hW]; exact (alloc_old _ _ _ (by omega)).trans x3
  have x4 : U.heap[w.heap.size + 4]? = some (.cells #[.int .i64 b] 3 (0, 0)) := by rw [← hW]; exact (alloc_old _ _ _ (by omega)).trans x4
  have x5 : U.heap[w.heap.size + 5]? = some (.cells #[.slice none 0 0, .int .i64 0, .int .i64 0, .int .i64 0, .int .u64 0, .int .u64 0, .int .i64 0, .int .i64 0] 27 (0, 0)) := by rw [← hW]; exact (alloc_old _ _ _ (by omega)).trans x5
  have c0 : U.cell? ⟨w1.heap.size, 0, none⟩ = some (.int .u64 0) := cell_of_row U (w1.heap.size) 0 _ _ _ xa
  have r0_0 : U.cell? ⟨w.heap.size, 0, none⟩ = some (.slice ao key.length cap) := cell_of_row U (w.heap.size) 0 _ _ _ x0
  have r0_1 : U.cell? ⟨w.heap.size, 1, none⟩ = some (.int .i64 side) := cell_of_row U (w.heap.size) 1 _ _ _ x0
  have r0_2 : U.cell? ⟨w.heap.size, 2, none⟩ = some (.int .i64 cur) := cell_of_row U (w.heap.size) 2 _ _ _ x0
  have r0_3 : U.cell? ⟨w.heap.size, 3, none⟩ = some (.int .i64 next) := cell_of_row U (w.heap.size) 3 _ _ _ x0
  have r0_4 : U.cell? ⟨w.heap.size, 4, none⟩ = some (.int .u64 send) := cell_of_row U (w.heap.size) 4 _ _ _ x0
  have r0_5 : U.cell? ⟨w.heap.size, 5, none⟩ = some (.int .u64 ceil) := cell_of_row U (w.heap.size) 5 _ _ _ x0
  have r0_6 : U.cell? ⟨w.heap.size, 6, none⟩ = some (.int .i64 sec) := cell_of_row U (w.heap.size) 6 _ _ _ x0
  have r0_7 : U.cell? ⟨w.heap.size, 7, none⟩ = some (.int .i64 nano) := cell_of_row U (w.heap.size) 7 _ _ _ x0
  have r0_f (i : Nat) : U.frozen? ⟨w.heap.size, i, none⟩ = false := frozen_of_row U (w.heap.size) i _ _ x0
  have r1_0 : U.cell? ⟨w.heap.size + 1, 0, none⟩ = some (.int .i64 g) := cell_of_row U (w.heap.size + 1) 0 _ _ _ x1
  have r1_f (i : Nat) : U.frozen? ⟨w.heap.size + 1, i, none⟩ = false := frozen_of_row U (w.heap.size + 1) i _ _ x1
  have r2_0 : U.cell? ⟨w.heap.size + 2, 0, none⟩ = some (.int .u64 c) := cell_of_row U (w.heap.size + 2) 0 _ _ _ x2
  have r2_f (i : Nat) : U.frozen? ⟨w.heap.size + 2, i, none⟩ = false := frozen_of_row U (w.heap.size + 2) i _ _ x2
  have r3_0 : U.cell? ⟨w.heap.size + 3, 0, none⟩ = some (.int .i64 ss) := cell_of_row U (w.heap.size + 3) 0 _ _ _ x3
  have r3_1 : U.cell? ⟨w.heap.size + 3, 1, none⟩ = some (.int .i64 sn) := cell_of_row U (w.heap.size + 3) 1 _ _ _ x3
  have r3_f (i : Nat) : U.frozen? ⟨w.heap.size + 3, i, none⟩ = false := frozen_of_row U (w.heap.size + 3) i _ _ x3
  have r4_0 : U.cell? ⟨w.heap.size + 4, 0, none⟩ = some (.int .i64 b) := cell_of_row U (w.heap.size + 4) 0 _ _ _ x4
  have r4_f (i : Nat) : U.frozen? ⟨w.heap.size + 4, i, none⟩ = false := frozen_of_row U (w.heap.size + 4) i _ _ x4
  have hrW : Rd U.drew ao key := (hr.on hB2 : Rd U ao key)
  have hn1 : w1.heap.size ≠ w.heap.size + 5 := by omega
  have hn2 : w.heap.size ≠ w.heap.size + 5 := by omega
  have X5 := Lib.hid x5
  clear x0 x1 x2 x3 x4 x5 xa hW hB
  go_region_held3 (fun w' => w'.cell? ⟨w1.heap.size, 0, none⟩ = some (.int .u64 0) ∧ w'.cell? ⟨w.heap.size, 0, none⟩ = some (.slice ao key.length cap) ∧ w'.cell? ⟨w.heap.size, 1, none⟩ = some (.int .i64 side) ∧ w'.cell? ⟨w.heap.size, 2, none⟩ = some (.int .i64 cur) ∧ w'.cell? ⟨w.heap.size, 3, none⟩ = some (.int .i64 next) ∧ w'.cell? ⟨w.heap.size, 4, none⟩ = some (.int .u64 send) ∧ w'.cell? ⟨w.heap.size, 5, none⟩ = some (.int .u64 ceil) ∧ w'.cell? ⟨w.heap.size, 6, none⟩ = some (.int .i64 sec) ∧ w'.cell? ⟨w.heap.size, 7, none⟩ = some (.int .i64 nano)) (((try simp only [cell_drew, cell_far _ _ _ _ _ _ hn1, cell_far _ _ _ _ _ _ hn2]); (refine ⟨?_, ?_, ?_, ?_, ?_, ?_, ?_, ?_, ?_⟩ <;> with_reducible assumption))) ((go_at_call 46; refine (laneChanged0 ⟨key, side, cur, next, send, ceil, sec, nano⟩ ao cap false _ U.drew hs (by simp)).mono ?_; rintro e V ⟨he, hb2⟩; obtain rfl : e = .returned (.agg #[.slice none 0 0, .int .i64 0, .int .i64 0, .int .i64 0, .int .u64 0, .int .u64 0, .int .i64 0, .int .i64 0]) := he; have dc0 : V.cell? ⟨w1.heap.size, 0, none⟩ = some (.int .u64 0) := (hb2.cell (by rw [hWs]; show w1.heap.size < _; omega)).trans c0; have dr0_0 : V.cell? ⟨w.heap.size, 0, none⟩ = some (.slice ao key.length cap) := (hb2.cell (by rw [hWs]; show w.heap.size < _; omega)).trans r0_0; have dr0_1 : V.cell? ⟨w.heap.size, 1, none⟩ = some (.int .i64 side) := (hb2.cell (by rw [hWs]; show w.heap.size < _; omega)).trans r0_1; have dr0_2 : V.cell? ⟨w.heap.size, 2, none⟩ = some (.int .i64 cur) := (hb2.cell (by rw [hWs]; show w.heap.size < _; omega)).trans r0_2; have dr0_3 : V.cell? ⟨w.heap.size, 3, none⟩ = some (.int .i64 next) := (hb2.cell (by rw [hWs]; show w.heap.size < _; omega)).trans r0_3; have dr0_4 : V.cell? ⟨w.heap.size, 4, none⟩ = some (.int .u64 send) := (hb2.cell (by rw [hWs]; show w.heap.size < _; omega)).trans r0_4; have dr0_5 : V.cell? ⟨w.heap.size, 5, none⟩ = some (.int .u64 ceil) := (hb2.cell (by rw [hWs]; show w.heap.size < _; omega)).trans r0_5; have dr0_6 : V.cell? ⟨w.heap.size, 6, none⟩ = some (.int .i64 sec) := (hb2.cell (by rw [hWs]; show w.heap.size < _; omega)).trans r0_6; have dr0_7 : V.cell? ⟨w.heap.size, 7, none⟩ = some (.int .i64 nano) := (hb2.cell (by rw [hWs]; show w.heap.size < _; omega)).trans r0_7; have y : V.heap[w.heap.size + 5]? = some (.cells #[.slice none 0 0, .int .i64 0, .int .i64 0, .int .i64 0, .int .u64 0, .int .u64 0, .int .i64 0, .int .i64 0] 27 (0, 0)) := (hb2.block (w.heap.size + 5) (by rw [hWs]; omega)).trans X5.out; have b0 : V.cell? ⟨w.heap.size + 5, 0, none⟩ = some (.slice none 0 0) := cell_of_row V (w.heap.size + 5) 0 _ _ _ y; have b1 : V.cell? ⟨w.heap.size + 5, 1, none⟩ = some (.int .i64 0) := cell_of_row V (w.heap.size + 5) 1 _ _ _ y; have b2 : V.cell? ⟨w.heap.size + 5, 2, none⟩ = some (.int .i64 0) := cell_of_row V (w.heap.size + 5) 2 _ _ _ y; have b3 : V.cell? ⟨w.heap.size + 5, 3, none⟩ = some (.int .i64 0) := cell_of_row V (w.heap.size + 5) 3 _ _ _ y; have b4 : V.cell? ⟨w.heap.size + 5, 4, none⟩ = some (.int .u64 0) := cell_of_row V (w.heap.size + 5) 4 _ _ _ y; have b5 : V.cell? ⟨w.heap.size + 5, 5, none⟩ = some (.int .u64 0) := cell_of_row V (w.heap.size + 5) 5 _ _ _ y; have b6 : V.cell? ⟨w.heap.size + 5, 6, none⟩ = some (.int .i64 0) := cell_of_row V (w.heap.size + 5) 6 _ _ _ y; have b7 : V.cell? ⟨w.heap.size + 5, 7, none⟩ = some (.int .i64 0) := cell_of_row V (w.heap.size + 5) 7 _ _ _ y; have bf (i : Nat) : V.frozen? ⟨w.heap.size + 5, i, none⟩ = false := frozen_of_row V (w.heap.size + 5) i _ _ y; clear y))
  go_wp2_with fail
  refine bodyPost_ret (v := .tuple #[.agg #[.slice none 0 0, .int .i64 0, .int .i64 0, .int .i64 0, .int .u64 0, .int .u64 0, .int .i64 0, .int .i64 0], .int .u64 0]) (by simp [results, Try.results34, go_sem, b0, b1, b2, b3, b4, b5, b6, b7]) rfl ⟨_, _, rfl, ?_, ?_⟩
  · exact Or.inl ⟨rfl, rfl, rfl⟩
  · iterate 8 (refine Below.set ?_ _ _ _ (by omega))
    exact hB2.drew.trans (hb2.mono (by rw [hWs]; omega))
set_option maxHeartbeats 4000000 in
theorem laneAnswered_n2 (L : Ln) (ao : Option Addr) (cap : Nat) (g c ss sn b : Int) (_hc0 : 0 ≤ c) (_hc1 : c ≤ 18446744073709551615) (_hss : ss ≤ 9223372036854775807) (w : World) (hf : L.fits) (hr : Rd w ao L.key) (hok : L.ok = true) (hbk : blkB b = true) (h1 : ¬ L.cur < g) :
   Calls Try.prog 34 #[L.val ao cap, .int .i64 g, .int .u64 c, .agg #[.int .i64 ss, .int .i64 sn], .int .i64 b] w fun e w' => ∃ ao' cap', e = .returned (.tuple #[(answeredL L g c ss sn b).val ao' cap', .int .u64 (atA L g c ss sn b)]) ∧ Mine w' w.heap.size 5 ao' cap' (answeredL L g c ss sn b).key ∧ Below w.heap.size w w' := by
  obtain ⟨hl, hcur0, hcur1, hnext0, hnext1, hsend0, hsend1, hceil0, hceil1, hs⟩ := hf
  obtain ⟨key, side, cur, next, send, ceil, sec, nano⟩ := L
  unfold Ln.val
  simp only at hl hcur0 hcur1 hnext0 hnext1 hsend0 hsend1 hceil0 hceil1 hs hr hok h1 ⊢
  have hma : mayA ⟨key, side, cur, next, send, ceil, sec, nano⟩ g c ss sn b = false := by simp [mayA, hok, hbk, h1]
  have hy : answeredL ⟨key, side, cur, next, send, ceil, sec, nano⟩ g c ss sn b = Ln.zero := by simp [answeredL, hma]
  have ha : atA ⟨key, side, cur, next, send, ceil, sec, nano⟩ g c ss sn b = 0 := by simp [atA, hma]
  rw [hy, ha]
  unfold Ln.zero
  have HOK := Lib.hid hok
  have HBK := Lib.hid hbk
  clear hok hy ha hma hbk
  go_enter Try.func34, Try.ntmps34
  go_wp2_with fail
  refine (laneValid ⟨key, side, cur, next, send, ceil, sec, nano⟩ ao cap hs _).mono ?_
  rintro e w1 ⟨rfl, hb⟩
  rw [HOK.out]
  have hz := hb.size
  simp only [alloc_size] at hz
  have hB := (((((((Below.refl _ w).alloc (Nat.le_refl _) _).alloc (by simp only [alloc_size]; omega) _).alloc (by simp only [alloc_size]; omega) _).alloc (by simp only [alloc_size]; omega) _).alloc (by simp only [alloc_size]; omega) _).alloc (by simp only [alloc_size]; omega) _).trans (hb.mono (by simp only [alloc_size]; omega))
  have x0 : w1.heap[w.heap.size]? = some (.cells #[.slice ao key.length cap, .int .i64 side, .int .i64 cur, .int .i64 next, .int .u64 send, .int .u64 ceil, .int .i64 sec, .int .i64 nano] 27 (0, 0)) := (hb_block hb (w.heap.size) (by simp only [alloc_size]; omega)).trans (by simp only [alloc_get, alloc_size]; repeat first | rw [if_pos trivial] | rw [if_neg (by omega)] | rw [if_pos (by omega)])
  have x1 : w1.heap[w.heap.size + 1]? = some (.cells #[.int .i64 g] 3 (0, 0)) := (hb_block hb (w.heap.size + 1) (by simp only [alloc_size]; omega)).trans (by simp only [alloc_get, alloc_size]; repeat first | rw [if_pos trivial] | rw [if_neg (by omega)] | rw [if_pos (by omega)])
  have x2 : w1.heap[w.heap.size + 2]? = some (.cells #[.int .u64 c] 23 (0, 0)) := (hb_block hb (w.heap.size + 2) (by simp only [alloc_size]; omega)).trans (by simp only [alloc_get, alloc_size]; repeat first | rw [if_pos trivial] | rw [if_neg (by omega)] | rw [if_pos (by omega)])
  have x3 : w1.heap[w.heap.size + 3]? = some (.cells #[.int .i64 ss, .int .i64 sn] 25 (0, 0)) := (hb_block hb (w.heap.size + 3) (by simp only [alloc_size]; omega)).trans (by simp only [alloc_get, alloc_size]; repeat first | rw [if_pos trivial] | rw [if_neg (by omega)] | rw [if_pos (by omega)])
  have x4 : w1.heap[w.heap.size + 4]? = some (.cells #[.int .i64 b] 3 (0, 0)) := (hb_block hb (w.heap.size + 4) (by simp only [alloc_size]; omega)).trans (by simp only [alloc_get, alloc_size]; repeat first | rw [if_pos trivial] | rw [if_neg (by omega)] | rw [if_pos (by omega)])
  have x5 : w1.heap[w.heap.size + 5]? = some (.cells #[.slice none 0 0, .int .i64 0, .int .i64 0, .int .i64 0, .int .u64 0, .int .u64 0, .int .i64 0, .int .i64 0] 27 (0, 0)) := (hb_block hb (w.heap.size + 5) (by simp only [alloc_size]; omega)).trans (by simp only [alloc_get, alloc_size]; repeat first | rw [if_pos trivial] | rw [if_neg (by omega)] | rw [if_pos (by omega)])
  clear hb
  have q0_0 : w1.cell? ⟨w.heap.size, 0, none⟩ = some (.slice ao key.length cap) := cell_of_row w1 (w.heap.size) 0 _ _ _ x0
  have q0_1 : w1.cell? ⟨w.heap.size, 1, none⟩ = some (.int .i64 side) := cell_of_row w1 (w.heap.size) 1 _ _ _ x0
  have q0_2 : w1.cell? ⟨w.heap.size, 2, none⟩ = some (.int .i64 cur) := cell_of_row w1 (w.heap.size) 2 _ _ _ x0
  have q0_3 : w1.cell? ⟨w.heap.size, 3, none⟩ = some (.int .i64 next) := cell_of_row w1 (w.heap.size) 3 _ _ _ x0
  have q0_4 : w1.cell? ⟨w.heap.size, 4, none⟩ = some (.int .u64 send) := cell_of_row w1 (w.heap.size) 4 _ _ _ x0
  have q0_5 : w1.cell? ⟨w.heap.size, 5, none⟩ = some (.int .u64 ceil) := cell_of_row w1 (w.heap.size) 5 _ _ _ x0
  have q0_6 : w1.cell? ⟨w.heap.size, 6, none⟩ = some (.int .i64 sec) := cell_of_row w1 (w.heap.size) 6 _ _ _ x0
  have q0_7 : w1.cell? ⟨w.heap.size, 7, none⟩ = some (.int .i64 nano) := cell_of_row w1 (w.heap.size) 7 _ _ _ x0
  have q0_f (i : Nat) : w1.frozen? ⟨w.heap.size, i, none⟩ = false := frozen_of_row w1 (w.heap.size) i _ _ x0
  have q1_0 : w1.cell? ⟨w.heap.size + 1, 0, none⟩ = some (.int .i64 g) := cell_of_row w1 (w.heap.size + 1) 0 _ _ _ x1
  have q1_f (i : Nat) : w1.frozen? ⟨w.heap.size + 1, i, none⟩ = false := frozen_of_row w1 (w.heap.size + 1) i _ _ x1
  have q2_0 : w1.cell? ⟨w.heap.size + 2, 0, none⟩ = some (.int .u64 c) := cell_of_row w1 (w.heap.size + 2) 0 _ _ _ x2
  have q2_f (i : Nat) : w1.frozen? ⟨w.heap.size + 2, i, none⟩ = false := frozen_of_row w1 (w.heap.size + 2) i _ _ x2
  have q3_0 : w1.cell? ⟨w.heap.size + 3, 0, none⟩ = some (.int .i64 ss) := cell_of_row w1 (w.heap.size + 3) 0 _ _ _ x3
  have q3_1 : w1.cell? ⟨w.heap.size + 3, 1, none⟩ = some (.int .i64 sn) := cell_of_row w1 (w.heap.size + 3) 1 _ _ _ x3
  have q3_f (i : Nat) : w1.frozen? ⟨w.heap.size + 3, i, none⟩ = false := frozen_of_row w1 (w.heap.size + 3) i _ _ x3
  have q4_0 : w1.cell? ⟨w.heap.size + 4, 0, none⟩ = some (.int .i64 b) := cell_of_row w1 (w.heap.size + 4) 0 _ _ _ x4
  have q4_f (i : Nat) : w1.frozen? ⟨w.heap.size + 4, i, none⟩ = false := frozen_of_row w1 (w.heap.size + 4) i _ _ x4
  have HX := Lib.hid (show w1.heap[w.heap.size + 5]? = some (.cells #[.slice none 0 0, .int .i64 0, .int .i64 0, .int .i64 0, .int .u64 0, .int .u64 0, .int .i64 0, .int .i64 0] 27 (0, 0)) from x5)
  have X0 := Lib.hid x0
  have X1 := Lib.hid x1
  have X2 := Lib.hid x2
  have X3 := Lib.hid x3
  have X4 := Lib.hid x4
  have X5 := Lib.hid x5
  clear x0 x1 x2 x3 x4 x5
  go_wp2_with fail
  refine (laneBlock b _).mono ?_
  rintro e w2 ⟨rfl, hw⟩
  obtain rfl := hw.symm
  rw [HBK.out]
  go_wp2_with fail
  generalize hW : w1.alloc (Obj.cells #[.int .u64 0] 23 (0, 0)) = U
  have hzW : w.heap.size + 6 ≤ w1.heap.size := by omega
  have hB2 := hB.alloc (B := w.heap.size) (by omega) (Obj.cells #[.int .u64 0] 23 (0, 0))
  rw [hW] at hB2
  have hWs : U.drew.heap.size = w1.heap.size + 1 := by rw [← hW]; exact alloc_size _ _
  have xa : U.heap[w1.heap.size]? = some (.cells #[.int .u64 0] 23 (0, 0)) := by rw [← hW]; exact heap_alloc_new _ _
  clear q0_0 q0_1 q0_2 q0_3 q0_4 q0_5 q0_6 q0_7 q0_f
  clear q1_0 q1_f
  clear q2_0 q2_f
  clear q3_0 q3_1 q3_f
  clear q4_0 q4_f
  have x0 := X0.out
  clear X0
  have x1 := X1.out
  clear X1
  have x2 := X2.out
  clear X2
  have x3 := X3.out
  clear X3
  have x4 := X4.out
  clear X4
  have x5 := X5.out
  clear X5
  have x0 : U.heap[w.heap.size]? = some (.cells #[.slice ao key.length cap, .int .i64 side, .int .i64 cur, .int .i64 next, .int .u64 send, .int .u64 ceil, .int .i64 sec, .int .i64 nano] 27 (0, 0)) := by rw [← hW]; exact (alloc_old _ _ _ (by omega)).trans x0
  have x1 : U.heap[w.heap.size + 1]? = some (.cells #[.int .i64 g] 3 (0, 0)) := by rw [← hW]; exact (alloc_old _ _ _ (by omega)).trans x1
  have x2 : U.heap[w.heap.size + 2]? = some (.cells #[.int .u64 c] 23 (0, 0)) := by rw [← hW]; exact (alloc_old _ _ _ (by omega)).trans x2
  have x3 : U.heap[w.heap.size + 3]? = some (.cells #[.int .i64 ss, .int .i64 sn] 25 (0, 0)) := by rw [← hW]; exact (alloc_old _ _ _ (by omega)).trans x3
  have x4 : U.heap[w.heap.size + 4]? = some (.cells #[.int .i64 b] 3 (0, 0)) := by rw [← hW]; exact (alloc_old _ _ _ (by omega)).trans x4
  have x5 : U.heap[w.heap.size + 5]? = some (.cells #[.slice none 0 0, .int .i64 0, .int .i64 0, .int .i64 0, .int .u64 0, .int .u64 0, .int .i64 0, .int .i64 0] 27 (0, 0)) := by rw [← hW]; exact (alloc_old _ _ _ (by omega)).trans x5
  have c0 : U.cell? ⟨w1.heap.size, 0, none⟩ = some (.int .u64 0) := cell_of_row U (w1.heap.size) 0 _ _ _ xa
  have r0_0 : U.cell? ⟨w.heap.size, 0, none⟩ = some (.slice ao key.length cap) := cell_of_row U (w.heap.size) 0 _ _ _ x0
  have r0_1 : U.cell? ⟨w.heap.size, 1, none⟩ = some (.int .i64 side) := cell_of_row U (w.heap.size) 1 _ _ _ x0
  have r0_2 : U.cell? ⟨w.heap.size, 2, none⟩ = some (.int .i64 cur) := cell_of_row U (w.heap.size) 2 _ _ _ x0
  have r0_3 : U.cell? ⟨w.heap.size, 3, none⟩ = some (.int .i64 next) := cell_of_row U (w.heap.size) 3 _ _ _ x0
  have r0_4 : U.cell? ⟨w.heap.size, 4, none⟩ = some (.int .u64 send) := cell_of_row U (w.heap.size) 4 _ _ _ x0
  have r0_5 : U.cell? ⟨w.heap.size, 5, none⟩ = some (.int .u64 ceil) := cell_of_row U (w.heap.size) 5 _ _ _ x0
  have r0_6 : U.cell? ⟨w.heap.size, 6, none⟩ = some (.int .i64 sec) := cell_of_row U (w.heap.size) 6 _ _ _ x0
  have r0_7 : U.cell? ⟨w.heap.size, 7, none⟩ = some (.int .i64 nano) := cell_of_row U (w.heap.size) 7 _ _ _ x0
  have r0_f (i : Nat) : U.frozen? ⟨w.heap.size, i, none⟩ = false := frozen_of_row U (w.heap.size) i _ _ x0
  have r1_0 : U.cell? ⟨w.heap.size + 1, 0, none⟩ = some (.int .i64 g) := cell_of_row U (w.heap.size + 1) 0 _ _ _ x1
  have r1_f (i : Nat) : U.frozen? ⟨w.heap.size + 1, i, none⟩ = false := frozen_of_row U (w.heap.size + 1) i _ _ x1
  have r2_0 : U.cell? ⟨w.heap.size + 2, 0, none⟩ = some (.int .u64 c) := cell_of_row U (w.heap.size + 2) 0 _ _ _ x2
  have r2_f (i : Nat) : U.frozen? ⟨w.heap.size + 2, i, none⟩ = false := frozen_of_row U (w.heap.size + 2) i _ _ x2
  have r3_0 : U.cell? ⟨w.heap.size + 3, 0, none⟩ = some (.int .i64 ss) := cell_of_row U (w.heap.size + 3) 0 _ _ _ x3
  have r3_1 : U.cell? ⟨w.heap.size + 3, 1, none⟩ = some (.int .i64 sn) := cell_of_row U (w.heap.size + 3) 1 _ _ _ x3
  have r3_f (i : Nat) : U.frozen? ⟨w.heap.size + 3, i, none⟩ = false := frozen_of_row U (w.heap.size + 3) i _ _ x3
  have r4_0 : U.cell? ⟨w.heap.size + 4, 0, none⟩ = some (.int .i64 b) := cell_of_row U (w.heap.size + 4) 0 _ _ _ x4
  have r4_f (i : Nat) : U.frozen? ⟨w.heap.size + 4, i, none⟩ = false := frozen_of_row U (w.heap.size + 4) i _ _ x4
  have hrW : Rd U.drew ao key := (hr.on hB2 : Rd U ao key)
  have hn1 : w1.heap.size ≠ w.heap.size + 5 := by omega
  have hn2 : w.heap.size ≠ w.heap.size + 5 := by omega
  have X5 := Lib.hid x5
  clear x0 x1 x2 x3 x4 x5 xa hW hB
  go_region_held3 (fun w' => w'.cell? ⟨w1.heap.size, 0, none⟩ = some (.int .u64 0) ∧ w'.cell? ⟨w.heap.size, 0, none⟩ = some (.slice ao key.length cap) ∧ w'.cell? ⟨w.heap.size, 1, none⟩ = some (.int .i64 side) ∧ w'.cell? ⟨w.heap.size, 2, none⟩ = some (.int .i64 cur) ∧ w'.cell? ⟨w.heap.size, 3, none⟩ = some (.int .i64 next) ∧ w'.cell? ⟨w.heap.size, 4, none⟩ = some (.int .u64 send) ∧ w'.cell? ⟨w.heap.size, 5, none⟩ = some (.int .u64 ceil) ∧ w'.cell? ⟨w.heap.size, 6, none⟩ = some (.int .i64 sec) ∧ w'.cell? ⟨w.heap.size, 7, none⟩ = some (.int .i64 nano)) (((try simp only [cell_drew, cell_far _ _ _ _ _ _ hn1, cell_far _ _ _ _ _ _ hn2]); (refine ⟨?_, ?_, ?_, ?_, ?_, ?_, ?_, ?_, ?_⟩ <;> with_reducible assumption))) ((go_at_call 46; refine (laneChanged0 ⟨key, side, cur, next, send, ceil, sec, nano⟩ ao cap false _ U.drew hs (by simp)).mono ?_; rintro e V ⟨he, hb2⟩; obtain rfl : e = .returned (.agg #[.slice none 0 0, .int .i64 0, .int .i64 0, .int .i64 0, .int .u64 0, .int .u64 0, .int .i64 0, .int .i64 0]) := he; have dc0 : V.cell? ⟨w1.heap.size, 0, none⟩ = some (.int .u64 0) := (hb2.cell (by rw [hWs]; show w1.heap.size < _; omega)).trans c0; have dr0_0 : V.cell? ⟨w.heap.size, 0, none⟩ = some (.slice ao key.length cap) := (hb2.cell (by rw [hWs]; show w.heap.size < _; omega)).trans r0_0; have dr0_1 : V.cell? ⟨w.heap.size, 1, none⟩ = some (.int .i64 side) := (hb2.cell (by rw [hWs]; show w.heap.size < _; omega)).trans r0_1; have dr0_2 : V.cell? ⟨w.heap.size, 2, none⟩ = some (.int .i64 cur) := (hb2.cell (by rw [hWs]; show w.heap.size < _; omega)).trans r0_2; have dr0_3 : V.cell? ⟨w.heap.size, 3, none⟩ = some (.int .i64 next) := (hb2.cell (by rw [hWs]; show w.heap.size < _; omega)).trans r0_3; have dr0_4 : V.cell? ⟨w.heap.size, 4, none⟩ = some (.int .u64 send) := (hb2.cell (by rw [hWs]; show w.heap.size < _; omega)).trans r0_4; have dr0_5 : V.cell? ⟨w.heap.size, 5, none⟩ = some (.int .u64 ceil) := (hb2.cell (by rw [hWs]; show w.heap.size < _; omega)).trans r0_5; have dr0_6 : V.cell? ⟨w.heap.size, 6, none⟩ = some (.int .i64 sec) := (hb2.cell (by rw [hWs]; show w.heap.size < _; omega)).trans r0_6; have dr0_7 : V.cell? ⟨w.heap.size, 7, none⟩ = some (.int .i64 nano) := (hb2.cell (by rw [hWs]; show w.heap.size < _; omega)).trans r0_7; have y : V.heap[w.heap.size + 5]? = some (.cells #[.slice none 0 0, .int .i64 0, .int .i64 0, .int .i64 0, .int .u64 0, .int .u64 0, .int .i64 0, .int .i64 0] 27 (0, 0)) := (hb2.block (w.heap.size + 5) (by rw [hWs]; omega)).trans X5.out; have b0 : V.cell? ⟨w.heap.size + 5, 0, none⟩ = some (.slice none 0 0) := cell_of_row V (w.heap.size + 5) 0 _ _ _ y; have b1 : V.cell? ⟨w.heap.size + 5, 1, none⟩ = some (.int .i64 0) := cell_of_row V (w.heap.size + 5) 1 _ _ _ y; have b2 : V.cell? ⟨w.heap.size + 5, 2, none⟩ = some (.int .i64 0) := cell_of_row V (w.heap.size + 5) 2 _ _ _ y; have b3 : V.cell? ⟨w.heap.size + 5, 3, none⟩ = some (.int .i64 0) := cell_of_row V (w.heap.size + 5) 3 _ _ _ y; have b4 : V.cell? ⟨w.heap.size + 5, 4, none⟩ = some (.int .u64 0) := cell_of_row V (w.heap.size + 5) 4 _ _ _ y; have b5 : V.cell? ⟨w.heap.size + 5, 5, none⟩ = some (.int .u64 0) := cell_of_row V (w.heap.size + 5) 5 _ _ _ y; have b6 : V.cell? ⟨w.heap.size + 5, 6, none⟩ = some (.int .i64 0) := cell_of_row V (w.heap.size + 5) 6 _ _ _ y; have b7 : V.cell? ⟨w.heap.size + 5, 7, none⟩ = some (.int .i64 0) := cell_of_row V (w.heap.size + 5) 7 _ _ _ y; have bf (i : Nat) : V.frozen? ⟨w.heap.size + 5, i, none⟩ = false := frozen_of_row V (w.heap.size + 5) i _ _ y; clear y))
  go_wp2_with fail
  refine bodyPost_ret (v := .tuple #[.agg #[.slice none 0 0, .int .i64 0, .int .i64 0, .int .i64 0, .int .u64 0, .int .u64 0, .int .i64 0, .int .i64 0], .int .u64 0]) (by simp [results, Try.results34, go_sem, b0, b1, b2, b3, b4, b5, b6, b7]) rfl ⟨_, _, rfl, ?_, ?_⟩
  · exact Or.inl ⟨rfl, rfl, rfl⟩
  · iterate 8 (refine Below.set ?_ _ _ _ (by omega))
    exact hB2.drew.trans (hb2.mono (by rw [hWs]; omega))
set_option maxHeartbeats 4000000 in
theorem laneAnswered_n3 (L : Ln) (ao : Option Addr) (cap : Nat) (g c ss sn b : Int) (_hc0 : 0 ≤ c) (_hc1 : c ≤ 18446744073709551615) (_hss : ss ≤ 9223372036854775807) (w : World) (hf : L.fits) (hr : Rd w ao L.key) (hok : L.ok = true) (hbk : blkB b = true) (h1 : L.cur < g) (h2 : ¬ g ≤ 2147483647) :
   Calls Try.prog 34 #[L.val ao cap, .int .i64 g, .int .u64 c, .agg #[.int .i64 ss, .int .i64 sn], .int .i64 b] w fun e w' => ∃ ao' cap', e = .returned (.tuple #[(answeredL L g c ss sn b).val ao' cap', .int .u64 (atA L g c ss sn b)]) ∧ Mine w' w.heap.size 5 ao' cap' (answeredL L g c ss sn b).key ∧ Below w.heap.size w w' := by
  obtain ⟨hl, hcur0, hcur1, hnext0, hnext1, hsend0, hsend1, hceil0, hceil1, hs⟩ := hf
  obtain ⟨key, side, cur, next, send, ceil, sec, nano⟩ := L
  unfold Ln.val
  simp only at hl hcur0 hcur1 hnext0 hnext1 hsend0 hsend1 hceil0 hceil1 hs hr hok h1 ⊢
  have hma : mayA ⟨key, side, cur, next, send, ceil, sec, nano⟩ g c ss sn b = false := by simp [mayA, hok, hbk, h1, h2]
  have hy : answeredL ⟨key, side, cur, next, send, ceil, sec, nano⟩ g c ss sn b = Ln.zero := by simp [answeredL, hma]
  have ha : atA ⟨key, side, cur, next, send, ceil, sec, nano⟩ g c ss sn b = 0 := by simp [atA, hma]
  rw [hy, ha]
  unfold Ln.zero
  have HOK := Lib.hid hok
  have HBK := Lib.hid hbk
  clear hok hy ha hma hbk
  go_enter Try.func34, Try.ntmps34
  go_wp2_with fail
  refine (laneValid ⟨key, side, cur, next, send, ceil, sec, nano⟩ ao cap hs _).mono ?_
  rintro e w1 ⟨rfl, hb⟩
  rw [HOK.out]
  have hz := hb.size
  simp only [alloc_size] at hz
  have hB := (((((((Below.refl _ w).alloc (Nat.le_refl _) _).alloc (by simp only [alloc_size]; omega) _).alloc (by simp only [alloc_size]; omega) _).alloc (by simp only [alloc_size]; omega) _).alloc (by simp only [alloc_size]; omega) _).alloc (by simp only [alloc_size]; omega) _).trans (hb.mono (by simp only [alloc_size]; omega))
  have x0 : w1.heap[w.heap.size]? = some (.cells #[.slice ao key.length cap, .int .i64 side, .int .i64 cur, .int .i64 next, .int .u64 send, .int .u64 ceil, .int .i64 sec, .int .i64 nano] 27 (0, 0)) := (hb_block hb (w.heap.size) (by simp only [alloc_size]; omega)).trans (by simp only [alloc_get, alloc_size]; repeat first | rw [if_pos trivial] | rw [if_neg (by omega)] | rw [if_pos (by omega)])
  have x1 : w1.heap[w.heap.size + 1]? = some (.cells #[.int .i64 g] 3 (0, 0)) := (hb_block hb (w.heap.size + 1) (by simp only [alloc_size]; omega)).trans (by simp only [alloc_get, alloc_size]; repeat first | rw [if_pos trivial] | rw [if_neg (by omega)] | rw [if_pos (by omega)])
  have x2 : w1.heap[w.heap.size + 2]? = some (.cells #[.int .u64 c] 23 (0, 0)) := (hb_block hb (w.heap.size + 2) (by simp only [alloc_size]; omega)).trans (by simp only [alloc_get, alloc_size]; repeat first | rw [if_pos trivial] | rw [if_neg (by omega)] | rw [if_pos (by omega)])
  have x3 : w1.heap[w.heap.size + 3]? = some (.cells #[.int .i64 ss, .int .i64 sn] 25 (0, 0)) := (hb_block hb (w.heap.size + 3) (by simp only [alloc_size]; omega)).trans (by simp only [alloc_get, alloc_size]; repeat first | rw [if_pos trivial] | rw [if_neg (by omega)] | rw [if_pos (by omega)])
  have x4 : w1.heap[w.heap.size + 4]? = some (.cells #[.int .i64 b] 3 (0, 0)) := (hb_block hb (w.heap.size + 4) (by simp only [alloc_size]; omega)).trans (by simp only [alloc_get, alloc_size]; repeat first | rw [if_pos trivial] | rw [if_neg (by omega)] | rw [if_pos (by omega)])
  have x5 : w1.heap[w.heap.size + 5]? = some (.cells #[.slice none 0 0, .int .i64 0, .int .i64 0, .int .i64 0, .int .u64 0, .int .u64 0, .int .i64 0, .int .i64 0] 27 (0, 0)) := (hb_block hb (w.heap.size + 5) (by simp only [alloc_size]; omega)).trans (by simp only [alloc_get, alloc_size]; repeat first | rw [if_pos trivial] | rw [if_neg (by omega)] | rw [if_pos (by omega)])
  clear hb
  have q0_0 : w1.cell? ⟨w.heap.size, 0, none⟩ = some (.slice ao key.length cap) := cell_of_row w1 (w.heap.size) 0 _ _ _ x0
  have q0_1 : w1.cell? ⟨w.heap.size, 1, none⟩ = some (.int .i64 side) := cell_of_row w1 (w.heap.size) 1 _ _ _ x0
  have q0_2 : w1.cell? ⟨w.heap.size, 2, none⟩ = some (.int .i64 cur) := cell_of_row w1 (w.heap.size) 2 _ _ _ x0
  have q0_3 : w1.cell? ⟨w.heap.size, 3, none⟩ = some (.int .i64 next) := cell_of_row w1 (w.heap.size) 3 _ _ _ x0
  have q0_4 : w1.cell? ⟨w.heap.size, 4, none⟩ = some (.int .u64 send) := cell_of_row w1 (w.heap.size) 4 _ _ _ x0
  have q0_5 : w1.cell? ⟨w.heap.size, 5, none⟩ = some (.int .u64 ceil) := cell_of_row w1 (w.heap.size) 5 _ _ _ x0
  have q0_6 : w1.cell? ⟨w.heap.size, 6, none⟩ = some (.int .i64 sec) := cell_of_row w1 (w.heap.size) 6 _ _ _ x0
  have q0_7 : w1.cell? ⟨w.heap.size, 7, none⟩ = some (.int .i64 nano) := cell_of_row w1 (w.heap.size) 7 _ _ _ x0
  have q0_f (i : Nat) : w1.frozen? ⟨w.heap.size, i, none⟩ = false := frozen_of_row w1 (w.heap.size) i _ _ x0
  have q1_0 : w1.cell? ⟨w.heap.size + 1, 0, none⟩ = some (.int .i64 g) := cell_of_row w1 (w.heap.size + 1) 0 _ _ _ x1
  have q1_f (i : Nat) : w1.frozen? ⟨w.heap.size + 1, i, none⟩ = false := frozen_of_row w1 (w.heap.size + 1) i _ _ x1
  have q2_0 : w1.cell? ⟨w.heap.size + 2, 0, none⟩ = some (.int .u64 c) := cell_of_row w1 (w.heap.size + 2) 0 _ _ _ x2
  have q2_f (i : Nat) : w1.frozen? ⟨w.heap.size + 2, i, none⟩ = false := frozen_of_row w1 (w.heap.size + 2) i _ _ x2
  have q3_0 : w1.cell? ⟨w.heap.size + 3, 0, none⟩ = some (.int .i64 ss) := cell_of_row w1 (w.heap.size + 3) 0 _ _ _ x3
  have q3_1 : w1.cell? ⟨w.heap.size + 3, 1, none⟩ = some (.int .i64 sn) := cell_of_row w1 (w.heap.size + 3) 1 _ _ _ x3
  have q3_f (i : Nat) : w1.frozen? ⟨w.heap.size + 3, i, none⟩ = false := frozen_of_row w1 (w.heap.size + 3) i _ _ x3
  have q4_0 : w1.cell? ⟨w.heap.size + 4, 0, none⟩ = some (.int .i64 b) := cell_of_row w1 (w.heap.size + 4) 0 _ _ _ x4
  have q4_f (i : Nat) : w1.frozen? ⟨w.heap.size + 4, i, none⟩ = false := frozen_of_row w1 (w.heap.size + 4) i _ _ x4
  have HX := Lib.hid (show w1.heap[w.heap.size + 5]? = some (.cells #[.slice none 0 0, .int .i64 0, .int .i64 0, .int .i64 0, .int .u64 0, .int .u64 0, .int .i64 0, .int .i64 0] 27 (0, 0)) from x5)
  have X0 := Lib.hid x0
  have X1 := Lib.hid x1
  have X2 := Lib.hid x2
  have X3 := Lib.hid x3
  have X4 := Lib.hid x4
  have X5 := Lib.hid x5
  clear x0 x1 x2 x3 x4 x5
  go_wp2_with fail
  refine (laneBlock b _).mono ?_
  rintro e w2 ⟨rfl, hw⟩
  obtain rfl := hw.symm
  rw [HBK.out]
  go_wp2_with fail
  generalize hW : w1.alloc (Obj.cells #[.int .u64 0] 23 (0, 0)) = U
  have hzW : w.heap.size + 6 ≤ w1.heap.size := by omega
  have hB2 := hB.alloc (B := w.heap.size) (by omega) (Obj.cells #[.int .u64 0] 23 (0, 0))
  rw [hW] at hB2
  have hWs : U.drew.heap.size = w1.heap.size + 1 := by rw [← hW]; exact alloc_size _ _
  have xa : U.heap[w1.heap.size]? = some (.cells #[.int .u64 0] 23 (0, 0)) := by rw [← hW]; exact heap_alloc_new _ _
  clear q0_0 q0_1 q0_2 q0_3 q0_4 q0_5 q0_6 q0_7 q0_f
  clear q1_0 q1_f
  clear q2_0 q2_f
  clear q3_0 q3_1 q3_f
  clear q4_0 q4_f
  have x0 := X0.out
  clear X0
  have x1 := X1.out
  clear X1
  have x2 := X2.out
  clear X2
  have x3 := X3.out
  clear X3
  have x4 := X4.out
  clear X4
  have x5 := X5.out
  clear X5
  have x0 : U.heap[w.heap.size]? = some (.cells #[.slice ao key.length cap, .int .i64 side, .int .i64 cur, .int .i64 next, .int .u64 send, .int .u64 ceil, .int .i64 sec, .int .i64 nano] 27 (0, 0)) := by rw [← hW]; exact (alloc_old _ _ _ (by omega)).trans x0
  have x1 : U.heap[w.heap.size + 1]? = some (.cells #[.int .i64 g] 3 (0, 0)) := by rw [← hW]; exact (alloc_old _ _ _ (by omega)).trans x1
  have x2 : U.heap[w.heap.size + 2]? = some (.cells #[.int .u64 c] 23 (0, 0)) := by rw [← hW]; exact (alloc_old _ _ _ (by omega)).trans x2
  have x3 : U.heap[w.heap.size + 3]? = some (.cells #[.int .i64 ss, .int .i64 sn] 25 (0, 0)) := by rw [← hW]; exact (alloc_old _ _ _ (by omega)).trans x3
  have x4 : U.heap[w.heap.size + 4]? = some (.cells #[.int .i64 b] 3 (0, 0)) := by rw [← hW]; exact (alloc_old _ _ _ (by omega)).trans x4
  have x5 : U.heap[w.heap.size + 5]? = some (.cells #[.slice none 0 0, .int .i64 0, .int .i64 0, .int .i64 0, .int .u64 0, .int .u64 0, .int .i64 0, .int .i64 0] 27 (0, 0)) := by rw [← hW]; exact (alloc_old _ _ _ (by omega)).trans x5
  have c0 : U.cell? ⟨w1.heap.size, 0, none⟩ = some (.int .u64 0) := cell_of_row U (w1.heap.size) 0 _ _ _ xa
  have r0_0 : U.cell? ⟨w.heap.size, 0, none⟩ = some (.slice ao key.length cap) := cell_of_row U (w.heap.size) 0 _ _ _ x0
  have r0_1 : U.cell? ⟨w.heap.size, 1, none⟩ = some (.int .i64 side) := cell_of_row U (w.heap.size) 1 _ _ _ x0
  have r0_2 : U.cell? ⟨w.heap.size, 2, none⟩ = some (.int .i64 cur) := cell_of_row U (w.heap.size) 2 _ _ _ x0
  have r0_3 : U.cell? ⟨w.heap.size, 3, none⟩ = some (.int .i64 next) := cell_of_row U (w.heap.size) 3 _ _ _ x0
  have r0_4 : U.cell? ⟨w.heap.size, 4, none⟩ = some (.int .u64 send) := cell_of_row U (w.heap.size) 4 _ _ _ x0
  have r0_5 : U.cell? ⟨w.heap.size, 5, none⟩ = some (.int .u64 ceil) := cell_of_row U (w.heap.size) 5 _ _ _ x0
  have r0_6 : U.cell? ⟨w.heap.size, 6, none⟩ = some (.int .i64 sec) := cell_of_row U (w.heap.size) 6 _ _ _ x0
  have r0_7 : U.cell? ⟨w.heap.size, 7, none⟩ = some (.int .i64 nano) := cell_of_row U (w.heap.size) 7 _ _ _ x0
  have r0_f (i : Nat) : U.frozen? ⟨w.heap.size, i, none⟩ = false := frozen_of_row U (w.heap.size) i _ _ x0
  have r1_0 : U.cell? ⟨w.heap.size + 1, 0, none⟩ = some (.int .i64 g) := cell_of_row U (w.heap.size + 1) 0 _ _ _ x1
  have r1_f (i : Nat) : U.frozen? ⟨w.heap.size + 1, i, none⟩ = false := frozen_of_row U (w.heap.size + 1) i _ _ x1
  have r2_0 : U.cell? ⟨w.heap.size + 2, 0, none⟩ = some (.int .u64 c) := cell_of_row U (w.heap.size + 2) 0 _ _ _ x2
  have r2_f (i : Nat) : U.frozen? ⟨w.heap.size + 2, i, none⟩ = false := frozen_of_row U (w.heap.size + 2) i _ _ x2
  have r3_0 : U.cell? ⟨w.heap.size + 3, 0, none⟩ = some (.int .i64 ss) := cell_of_row U (w.heap.size + 3) 0 _ _ _ x3
  have r3_1 : U.cell? ⟨w.heap.size + 3, 1, none⟩ = some (.int .i64 sn) := cell_of_row U (w.heap.size + 3) 1 _ _ _ x3
  have r3_f (i : Nat) : U.frozen? ⟨w.heap.size + 3, i, none⟩ = false := frozen_of_row U (w.heap.size + 3) i _ _ x3
  have r4_0 : U.cell? ⟨w.heap.size + 4, 0, none⟩ = some (.int .i64 b) := cell_of_row U (w.heap.size + 4) 0 _ _ _ x4
  have r4_f (i : Nat) : U.frozen? ⟨w.heap.size + 4, i, none⟩ = false := frozen_of_row U (w.heap.size + 4) i _ _ x4
  have hrW : Rd U.drew ao key := (hr.on hB2 : Rd U ao key)
  have hn1 : w1.heap.size ≠ w.heap.size + 5 := by omega
  have hn2 : w.heap.size ≠ w.heap.size + 5 := by omega
  have X5 := Lib.hid x5
  clear x0 x1 x2 x3 x4 x5 xa hW hB
  go_region_held3 (fun w' => w'.cell? ⟨w1.heap.size, 0, none⟩ = some (.int .u64 0) ∧ w'.cell? ⟨w.heap.size, 0, none⟩ = some (.slice ao key.length cap) ∧ w'.cell? ⟨w.heap.size, 1, none⟩ = some (.int .i64 side) ∧ w'.cell? ⟨w.heap.size, 2, none⟩ = some (.int .i64 cur) ∧ w'.cell? ⟨w.heap.size, 3, none⟩ = some (.int .i64 next) ∧ w'.cell? ⟨w.heap.size, 4, none⟩ = some (.int .u64 send) ∧ w'.cell? ⟨w.heap.size, 5, none⟩ = some (.int .u64 ceil) ∧ w'.cell? ⟨w.heap.size, 6, none⟩ = some (.int .i64 sec) ∧ w'.cell? ⟨w.heap.size, 7, none⟩ = some (.int .i64 nano)) (((try simp only [cell_drew, cell_far _ _ _ _ _ _ hn1, cell_far _ _ _ _ _ _ hn2]); (refine ⟨?_, ?_, ?_, ?_, ?_, ?_, ?_, ?_, ?_⟩ <;> with_reducible assumption))) ((go_at_call 46; refine (laneChanged0 ⟨key, side, cur, next, send, ceil, sec, nano⟩ ao cap false _ U.drew hs (by simp)).mono ?_; rintro e V ⟨he, hb2⟩; obtain rfl : e = .returned (.agg #[.slice none 0 0, .int .i64 0, .int .i64 0, .int .i64 0, .int .u64 0, .int .u64 0, .int .i64 0, .int .i64 0]) := he; have dc0 : V.cell? ⟨w1.heap.size, 0, none⟩ = some (.int .u64 0) := (hb2.cell (by rw [hWs]; show w1.heap.size < _; omega)).trans c0; have dr0_0 : V.cell? ⟨w.heap.size, 0, none⟩ = some (.slice ao key.length cap) := (hb2.cell (by rw [hWs]; show w.heap.size < _; omega)).trans r0_0; have dr0_1 : V.cell? ⟨w.heap.size, 1, none⟩ = some (.int .i64 side) := (hb2.cell (by rw [hWs]; show w.heap.size < _; omega)).trans r0_1; have dr0_2 : V.cell? ⟨w.heap.size, 2, none⟩ = some (.int .i64 cur) := (hb2.cell (by rw [hWs]; show w.heap.size < _; omega)).trans r0_2; have dr0_3 : V.cell? ⟨w.heap.size, 3, none⟩ = some (.int .i64 next) := (hb2.cell (by rw [hWs]; show w.heap.size < _; omega)).trans r0_3; have dr0_4 : V.cell? ⟨w.heap.size, 4, none⟩ = some (.int .u64 send) := (hb2.cell (by rw [hWs]; show w.heap.size < _; omega)).trans r0_4; have dr0_5 : V.cell? ⟨w.heap.size, 5, none⟩ = some (.int .u64 ceil) := (hb2.cell (by rw [hWs]; show w.heap.size < _; omega)).trans r0_5; have dr0_6 : V.cell? ⟨w.heap.size, 6, none⟩ = some (.int .i64 sec) := (hb2.cell (by rw [hWs]; show w.heap.size < _; omega)).trans r0_6; have dr0_7 : V.cell? ⟨w.heap.size, 7, none⟩ = some (.int .i64 nano) := (hb2.cell (by rw [hWs]; show w.heap.size < _; omega)).trans r0_7; have y : V.heap[w.heap.size + 5]? = some (.cells #[.slice none 0 0, .int .i64 0, .int .i64 0, .int .i64 0, .int .u64 0, .int .u64 0, .int .i64 0, .int .i64 0] 27 (0, 0)) := (hb2.block (w.heap.size + 5) (by rw [hWs]; omega)).trans X5.out; have b0 : V.cell? ⟨w.heap.size + 5, 0, none⟩ = some (.slice none 0 0) := cell_of_row V (w.heap.size + 5) 0 _ _ _ y; have b1 : V.cell? ⟨w.heap.size + 5, 1, none⟩ = some (.int .i64 0) := cell_of_row V (w.heap.size + 5) 1 _ _ _ y; have b2 : V.cell? ⟨w.heap.size + 5, 2, none⟩ = some (.int .i64 0) := cell_of_row V (w.heap.size + 5) 2 _ _ _ y; have b3 : V.cell? ⟨w.heap.size + 5, 3, none⟩ = some (.int .i64 0) := cell_of_row V (w.heap.size + 5) 3 _ _ _ y; have b4 : V.cell? ⟨w.heap.size + 5, 4, none⟩ = some (.int .u64 0) := cell_of_row V (w.heap.size + 5) 4 _ _ _ y; have b5 : V.cell? ⟨w.heap.size + 5, 5, none⟩ = some (.int .u64 0) := cell_of_row V (w.heap.size + 5) 5 _ _ _ y; have b6 : V.cell? ⟨w.heap.size + 5, 6, none⟩ = some (.int .i64 0) := cell_of_row V (w.heap.size + 5) 6 _ _ _ y; have b7 : V.cell? ⟨w.heap.size + 5, 7, none⟩ = some (.int .i64 0) := cell_of_row V (w.heap.size + 5) 7 _ _ _ y; have bf (i : Nat) : V.frozen? ⟨w.heap.size + 5, i, none⟩ = false := frozen_of_row V (w.heap.size + 5) i _ _ y; clear y))
  go_wp2_with fail
  refine bodyPost_ret (v := .tuple #[.agg #[.slice none 0 0, .int .i64 0, .int .i64 0, .int .i64 0, .int .u64 0, .int .u64 0, .int .i64 0, .int .i64 0], .int .u64 0]) (by simp [results, Try.results34, go_sem, b0, b1, b2, b3, b4, b5, b6, b7]) rfl ⟨_, _, rfl, ?_, ?_⟩
  · exact Or.inl ⟨rfl, rfl, rfl⟩
  · iterate 8 (refine Below.set ?_ _ _ _ (by omega))
    exact hB2.drew.trans (hb2.mono (by rw [hWs]; omega))
end Go.Proofs.Ytihndipgdogebaa
