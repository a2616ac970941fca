/- What the reference's Reserve and Raise make of a lane. -/
import Derived.Test.YtihndipgdogebaaLane9d
namespace Go.Proofs.Ytihndipgdogebaa
open Go.RowKit
set_option maxHeartbeats 800000 in
theorem refReserve_n0 (L : Ln) (ao : Option Addr) (cap : Nat) (at1 b : Int) (_ha0 : 0 ≤ at1) (_ha1 : at1 ≤ 18446744073709551615) (w : World) (hf : L.fits) (hr : Rd w ao L.key) (hok : L.ok = false) :
   Calls Try.prog 29 #[L.val ao cap, .int .u64 at1, .int .i64 b] w fun e w' => ∃ ao' cap', e = .returned ((reserveL L at1 b).val ao' cap') ∧ Mine w' w.heap.size 5 ao' cap' (reserveL L at1 b).key ∧ Below w.heap.size w w' := by
  obtain ⟨hl, hcur0, hcur1, hnext0, hnext1, hsend0, hsend1, hceil0, hceil1, hs⟩ := hf
  obtain ⟨key, side, cur, next, send, ceil, sec, nano⟩ := L
  unfold Ln.val
  simp only at hl hcur0 hcur1 hnext0 hnext1 hsend0 hsend1 hceil0 hceil1 hs hr hok ⊢
  have hma : mayR ⟨key, side, cur, next, send, ceil, sec, nano⟩ at1 b = false := by simp [mayR, hok]
  have hy : reserveL ⟨key, side, cur, next, send, ceil, sec, nano⟩ at1 b = Ln.zero := by simp [reserveL, hma]
  rw [hy]
  unfold Ln.zero
  have HOK := Lib.hid hok
  clear hy hma hok
  go_enter Try.func29, Try.ntmps29
  go_wp2_with fail
  refine (refLaneValid ⟨key, side, cur, next, send, ceil, sec, nano⟩ ao cap _).mono ?_
  rintro e w1 ⟨rfl, hb⟩
  rw [HOK.out]
  have hz := hb.size
  simp only [alloc_size] at hz
  have hB := (((Below.refl _ w).alloc (Nat.le_refl _) _).alloc (by simp only [alloc_size]; omega) _).trans (hb.mono (by simp only [alloc_size]; omega))
  have x0 : w1.heap[w.heap.size]? = some (.cells #[.slice ao key.length cap, .int .i64 side, .int .i64 cur, .int .i64 next, .int .u64 send, .int .u64 ceil, .int .i64 sec, .int .i64 nano] 27 (0, 0)) := (hb_block hb (w.heap.size) (by simp only [alloc_size]; omega)).trans (by simp only [alloc_get, alloc_size]; repeat first | rw [if_pos trivial] | rw [if_neg (by omega)] | rw [if_pos (by omega)])
  have x1 : w1.heap[w.heap.size + 1]? = some (.cells #[.slice none 0 0, .int .i64 0, .int .i64 0, .int .i64 0, .int .u64 0, .int .u64 0, .int .i64 0, .int .i64 0] 27 (0, 0)) := (hb_block hb (w.heap.size + 1) (by simp only [alloc_size]; omega)).trans (by simp only [alloc_get, alloc_size]; repeat first | rw [if_pos trivial] | rw [if_neg (by omega)] | rw [if_pos (by omega)])
  clear hb
  have a0 : w1.cell? ⟨w.heap.size, 0, none⟩ = some (.slice ao key.length cap) := cell_of_row w1 (w.heap.size) 0 _ _ _ x0
  have a1 : w1.cell? ⟨w.heap.size, 1, none⟩ = some (.int .i64 side) := cell_of_row w1 (w.heap.size) 1 _ _ _ x0
  have a2 : w1.cell? ⟨w.heap.size, 2, none⟩ = some (.int .i64 cur) := cell_of_row w1 (w.heap.size) 2 _ _ _ x0
  have a3 : w1.cell? ⟨w.heap.size, 3, none⟩ = some (.int .i64 next) := cell_of_row w1 (w.heap.size) 3 _ _ _ x0
  have a4 : w1.cell? ⟨w.heap.size, 4, none⟩ = some (.int .u64 send) := cell_of_row w1 (w.heap.size) 4 _ _ _ x0
  have a5 : w1.cell? ⟨w.heap.size, 5, none⟩ = some (.int .u64 ceil) := cell_of_row w1 (w.heap.size) 5 _ _ _ x0
  have a6 : w1.cell? ⟨w.heap.size, 6, none⟩ = some (.int .i64 sec) := cell_of_row w1 (w.heap.size) 6 _ _ _ x0
  have a7 : w1.cell? ⟨w.heap.size, 7, none⟩ = some (.int .i64 nano) := cell_of_row w1 (w.heap.size) 7 _ _ _ x0
  have af (i : Nat) : w1.frozen? ⟨w.heap.size, i, none⟩ = false := frozen_of_row w1 (w.heap.size) i _ _ x0
  have b0 : w1.cell? ⟨w.heap.size + 1, 0, none⟩ = some (.slice none 0 0) := cell_of_row w1 (w.heap.size + 1) 0 _ _ _ x1
  have b1 : w1.cell? ⟨w.heap.size + 1, 1, none⟩ = some (.int .i64 0) := cell_of_row w1 (w.heap.size + 1) 1 _ _ _ x1
  have b2 : w1.cell? ⟨w.heap.size + 1, 2, none⟩ = some (.int .i64 0) := cell_of_row w1 (w.heap.size + 1) 2 _ _ _ x1
  have b3 : w1.cell? ⟨w.heap.size + 1, 3, none⟩ = some (.int .i64 0) := cell_of_row w1 (w.heap.size + 1) 3 _ _ _ x1
  have b4 : w1.cell? ⟨w.heap.size + 1, 4, none⟩ = some (.int .u64 0) := cell_of_row w1 (w.heap.size + 1) 4 _ _ _ x1
  have b5 : w1.cell? ⟨w.heap.size + 1, 5, none⟩ = some (.int .u64 0) := cell_of_row w1 (w.heap.size + 1) 5 _ _ _ x1
  have b6 : w1.cell? ⟨w.heap.size + 1, 6, none⟩ = some (.int .i64 0) := cell_of_row w1 (w.heap.size + 1) 6 _ _ _ x1
  have b7 : w1.cell? ⟨w.heap.size + 1, 7, none⟩ = some (.int .i64 0) := cell_of_row w1 (w.heap.size + 1) 7 _ _ _ x1
  have bf (i : Nat) : w1.frozen? ⟨w.heap.size + 1, i, none⟩ = false := frozen_of_row w1 (w.heap.size + 1) i _ _ x1
  have X0 := Lib.hid x0
  have X1 := Lib.hid x1
  clear x0 x1 
  go_wp2_with fail
  refine (refBlocks b _).mono ?_
  rintro e w2 ⟨rfl, hw⟩
  obtain rfl := hw.symm
  go_wp2_with fail
  refine bodyPost_ret (v := .agg #[.slice none 0 0, .int .i64 0, .int .i64 0, .int .i64 0, .int .u64 0, .int .u64 0, .int .i64 0, .int .i64 0]) (by simp [results, Try.results29, go_sem, b0, b1, b2, b3, b4, b5, b6, b7]) rfl ⟨_, _, rfl, Or.inl ⟨rfl, rfl, rfl⟩, ?_⟩
  iterate 8 (refine Below.set ?_ _ _ _ (by omega))
  exact hB
set_option maxHeartbeats 800000 in
theorem refReserve_n1 (L : Ln) (ao : Option Addr) (cap : Nat) (at1 b : Int) (_ha0 : 0 ≤ at1) (_ha1 : at1 ≤ 18446744073709551615) (w : World) (hf : L.fits) (hr : Rd w ao L.key) (hok : L.ok = true) (hbk : blkB b = false) :
   Calls Try.prog 29 #[L.val ao cap, .int .u64 at1, .int .i64 b] w fun e w' => ∃ ao' cap', e = .returned ((reserveL L at1 b).val ao' cap') ∧ Mine w' w.heap.size 5 ao' cap' (reserveL L at1 b).key ∧ Below w.heap.size w w' := by
  obtain ⟨hl, hcur0, hcur1, hnext0, hnext1, hsend0, hsend1, hceil0, hceil1, hs⟩ := hf
  obtain ⟨key, side, cur, next, send, ceil, sec, nano⟩ := L
  unfold Ln.val
  simp only at hl hcur0 hcur1 hnext0 hnext1 hsend0 hsend1 hceil0 hceil1 hs hr hok ⊢
  have hma : mayR ⟨key, side, cur, next, send, ceil, sec, nano⟩ at1 b = false := by simp [mayR, hok, hbk]
  have hy : reserveL ⟨key, side, cur, next, send, ceil, sec, nano⟩ at1 b = Ln.zero := by simp [reserveL, hma]
  rw [hy]
  unfold Ln.zero
  have HOK := Lib.hid hok
  have HBK := Lib.hid hbk
  clear hy hma hok hbk
  go_enter Try.func29, Try.ntmps29
  go_wp2_with fail
  refine (refLaneValid ⟨key, side, cur, next, send, ceil, sec, nano⟩ ao cap _).mono ?_
  rintro e w1 ⟨rfl, hb⟩
  rw [HOK.out]
  have hz := hb.size
  simp only [alloc_size] at hz
  have hB := (((Below.refl _ w).alloc (Nat.le_refl _) _).alloc (by simp only [alloc_size]; omega) _).trans (hb.mono (by simp only [alloc_size]; omega))
  have x0 : w1.heap[w.heap.size]? = some (.cells #[.slice ao key.length cap, .int .i64 side, .int .i64 cur, .int .i64 next, .int .u64 send, .int .u64 ceil, .int .i64 sec, .int .i64 nano] 27 (0, 0)) := (hb_block hb (w.heap.size) (by simp only [alloc_size]; omega)).trans (by simp only [alloc_get, alloc_size]; repeat first | rw [if_pos trivial] | rw [if_neg (by omega)] | rw [if_pos (by omega)])
  have x1 : w1.heap[w.heap.size + 1]? = some (.cells #[.slice none 0 0, .int .i64 0, .int .i64 0, .int .i64 0, .int .u64 0, .int .u64 0, .int .i64 0, .int .i64 0] 27 (0, 0)) := (hb_block hb (w.heap.size + 1) (by simp only [alloc_size]; omega)).trans (by simp only [alloc_get, alloc_size]; repeat first | rw [if_pos trivial] | rw [if_neg (by omega)] | rw [if_pos (by omega)])
  clear hb
  have a0 : w1.cell? ⟨w.heap.size, 0, none⟩ = some (.slice ao key.length cap) := cell_of_row w1 (w.heap.size) 0 _ _ _ x0
  have a1 : w1.cell? ⟨w.heap.size, 1, none⟩ = some (.int .i64 side) := cell_of_row w1 (w.heap.size) 1 _ _ _ x0
  have a2 : w1.cell? ⟨w.heap.size, 2, none⟩ = some (.int .i64 cur) := cell_of_row w1 (w.heap.size) 2 _ _ _ x0
  have a3 : w1.cell? ⟨w.heap.size, 3, none⟩ = some (.int .i64 next) := cell_of_row w1 (w.heap.size) 3 _ _ _ x0
  have a4 : w1.cell? ⟨w.heap.size, 4, none⟩ = some (.int .u64 send) := cell_of_row w1 (w.heap.size) 4 _ _ _ x0
  have a5 : w1.cell? ⟨w.heap.size, 5, none⟩ = some (.int .u64 ceil) := cell_of_row w1 (w.heap.size) 5 _ _ _ x0
  have a6 : w1.cell? ⟨w.heap.size, 6, none⟩ = some (.int .i64 sec) := cell_of_row w1 (w.heap.size) 6 _ _ _ x0
  have a7 : w1.cell? ⟨w.heap.size, 7, none⟩ = some (.int .i64 nano) := cell_of_row w1 (w.heap.size) 7 _ _ _ x0
  have af (i : Nat) : w1.frozen? ⟨w.heap.size, i, none⟩ = false := frozen_of_row w1 (w.heap.size) i _ _ x0
  have b0 : w1.cell? ⟨w.heap.size + 1, 0, none⟩ = some (.slice none 0 0) := cell_of_row w1 (w.heap.size + 1) 0 _ _ _ x1
  have b1 : w1.cell? ⟨w.heap.size + 1, 1, none⟩ = some (.int .i64 0) := cell_of_row w1 (w.heap.size + 1) 1 _ _ _ x1
  have b2 : w1.cell? ⟨w.heap.size + 1, 2, none⟩ = some (.int .i64 0) := cell_of_row w1 (w.heap.size + 1) 2 _ _ _ x1
  have b3 : w1.cell? ⟨w.heap.size + 1, 3, none⟩ = some (.int .i64 0) := cell_of_row w1 (w.heap.size + 1) 3 _ _ _ x1
  have b4 : w1.cell? ⟨w.heap.size + 1, 4, none⟩ = some (.int .u64 0) := cell_of_row w1 (w.heap.size + 1) 4 _ _ _ x1
  have b5 : w1.cell? ⟨w.heap.size + 1, 5, none⟩ = some (.int .u64 0) := cell_of_row w1 (w.heap.size + 1) 5 _ _ _ x1
  have b6 : w1.cell? ⟨w.heap.size + 1, 6, none⟩ = some (.int .i64 0) := cell_of_row w1 (w.heap.size + 1) 6 _ _ _ x1
  have b7 : w1.cell? ⟨w.heap.size + 1, 7, none⟩ = some (.int .i64 0) := cell_of_row w1 (w.heap.size + 1) 7 _ _ _ x1
  have bf (i : Nat) : w1.frozen? ⟨w.heap.size + 1, i, none⟩ = false := frozen_of_row w1 (w.heap.size + 1) i _ _ x1
  have X0 := Lib.hid x0
  have X1 := Lib.hid x1
  clear x0 x1 
  go_wp2_with fail
  refine (refBlocks b _).mono ?_
  rintro e w2 ⟨rfl, hw⟩
  obtain rfl := hw.symm
  rw [HBK.out]
  go_wp2_with fail
  refine bodyPost_ret (v := .agg #[.slice none 0 0, .int .i64 0, .int .i64 0, .int .i64 0, .int .u64 0, .int .u64 0, .int .i64 0, .int .i64 0]) (by simp [results, Try.results29, go_sem, b0, b1, b2, b3, b4, b5, b6, b7]) rfl ⟨_, _, rfl, Or.inl ⟨rfl, rfl, rfl⟩, ?_⟩
  iterate 8 (refine Below.set ?_ _ _ _ (by omega))
  exact hB
set_option maxHeartbeats 800000 in
theorem refReserve_n2 (L : Ln) (ao : Option Addr) (cap : Nat) (at1 b : Int) (_ha0 : 0 ≤ at1) (_ha1 : at1 ≤ 18446744073709551615) (w : World) (hf : L.fits) (hr : Rd w ao L.key) (hok : L.ok = true) (hbk : blkB b = true) (h1 : ¬ L.send ≤ at1) :
   Calls Try.prog 29 #[L.val ao cap, .int .u64 at1, .int .i64 b] w fun e w' => ∃ ao' cap', e = .returned ((reserveL L at1 b).val ao' cap') ∧ Mine w' w.heap.size 5 ao' cap' (reserveL L at1 b).key ∧ Below w.heap.size w w' := by
  obtain ⟨hl, hcur0, hcur1, hnext0, hnext1, hsend0, hsend1, hceil0, hceil1, hs⟩ := hf
  obtain ⟨key, side, cur, next, send, ceil, sec, nano⟩ := L
  unfold Ln.val
  simp only at hl hcur0 hcur1 hnext0 hnext1 hsend0 hsend1 hceil0 hceil1 hs hr hok h1 ⊢
  have hma : mayR ⟨key, side, cur, next, send, ceil, sec, nano⟩ at1 b = false := by simp [mayR, hok, hbk, h1]
  have hy : reserveL ⟨key, side, cur, next, send, ceil, sec, nano⟩ at1 b = Ln.zero := by simp [reserveL, hma]
  rw [hy]
  unfold Ln.zero
  have HOK := Lib.hid hok
  have HBK := Lib.hid hbk
  clear hy hma hok hbk
  go_enter Try.func29, Try.ntmps29
  go_wp2_with fail
  refine (refLaneValid ⟨key, side, cur, next, send, ceil, sec, nano⟩ ao cap _).mono ?_
  rintro e w1 ⟨rfl, hb⟩
  rw [HOK.out]
  have hz := hb.size
  simp only [alloc_size] at hz
  have hB := (((Below.refl _ w).alloc (Nat.le_refl _) _).alloc (by simp only [alloc_size]; omega) _).trans (hb.mono (by simp only [alloc_size]; omega))
  have x0 : w1.heap[w.heap.size]? = some (.cells #[.slice ao key.length cap, .int .i64 side, .int .i64 cur, .int .i64 next, .int .u64 send, .int .u64 ceil, .int .i64 sec, .int .i64 nano] 27 (0, 0)) := (hb_block hb (w.heap.size) (by simp only [alloc_size]; omega)).trans (by simp only [alloc_get, alloc_size]; repeat first | rw [if_pos trivial] | rw [if_neg (by omega)] | rw [if_pos (by omega)])
  have x1 : w1.heap[w.heap.size + 1]? = some (.cells #[.slice none 0 0, .int .i64 0, .int .i64 0, .int .i64 0, .int .u64 0, .int .u64 0, .int .i64 0, .int .i64 0] 27 (0, 0)) := (hb_block hb (w.heap.size + 1) (by simp only [alloc_size]; omega)).trans (by simp only [alloc_get, alloc_size]; repeat first | rw [if_pos trivial] | rw [if_neg (by omega)] | rw [if_pos (by omega)])
  clear hb
  have a0 : w1.cell? ⟨w.heap.size, 0, none⟩ = some (.slice ao key.length cap) := cell_of_row w1 (w.heap.size) 0 _ _ _ x0
  have a1 : w1.cell? ⟨w.heap.size, 1, none⟩ = some (.int .i64 side) := cell_of_row w1 (w.heap.size) 1 _ _ _ x0
  have a2 : w1.cell? ⟨w.heap.size, 2, none⟩ = some (.int .i64 cur) := cell_of_row w1 (w.heap.size) 2 _ _ _ x0
  have a3 : w1.cell? ⟨w.heap.size, 3, none⟩ = some (.int .i64 next) := cell_of_row w1 (w.heap.size) 3 _ _ _ x0
  have a4 : w1.cell? ⟨w.heap.size, 4, none⟩ = some (.int .u64 send) := cell_of_row w1 (w.heap.size) 4 _ _ _ x0
  have a5 : w1.cell? ⟨w.heap.size, 5, none⟩ = some (.int .u64 ceil) := cell_of_row w1 (w.heap.size) 5 _ _ _ x0
  have a6 : w1.cell? ⟨w.heap.size, 6, none⟩ = some (.int .i64 sec) := cell_of_row w1 (w.heap.size) 6 _ _ _ x0
  have a7 : w1.cell? ⟨w.heap.size, 7, none⟩ = some (.int .i64 nano) := cell_of_row w1 (w.heap.size) 7 _ _ _ x0
  have af (i : Nat) : w1.frozen? ⟨w.heap.size, i, none⟩ = false := frozen_of_row w1 (w.heap.size) i _ _ x0
  have b0 : w1.cell? ⟨w.heap.size + 1, 0, none⟩ = some (.slice none 0 0) := cell_of_row w1 (w.heap.size + 1) 0 _ _ _ x1
  have b1 : w1.cell? ⟨w.heap.size + 1, 1, none⟩ = some (.int .i64 0) := cell_of_row w1 (w.heap.size + 1) 1 _ _ _ x1
  have b2 : w1.cell? ⟨w.heap.size + 1, 2, none⟩ = some (.int .i64 0) := cell_of_row w1 (w.heap.size + 1) 2 _ _ _ x1
  have b3 : w1.cell? ⟨w.heap.size + 1, 3, none⟩ = some (.int .i64 0) := cell_of_row w1 (w.heap.size + 1) 3 _ _ _ x1
  have b4 : w1.cell? ⟨w.heap.size + 1, 4, none⟩ = some (.int .u64 0) := cell_of_row w1 (w.heap.size + 1) 4 _ _ _ x1
  have b5 : w1.cell? ⟨w.heap.size + 1, 5, none⟩ = some (.int .u64 0) := cell_of_row w1 (w.heap.size + 1) 5 _ _ _ x1
  have b6 : w1.cell? ⟨w.heap.size + 1, 6, none⟩ = some (.int .i64 0) := cell_of_row w1 (w.heap.size + 1) 6 _ _ _ x1
  have b7 : w1.cell? ⟨w.heap.size + 1, 7, none⟩ = some (.int .i64 0) := cell_of_row w1 (w.heap.size + 1) 7 _ _ _ x1
  have bf (i : Nat) : w1.frozen? ⟨w.heap.size + 1, i, none⟩ = false := frozen_of_row w1 (w.heap.size + 1) i _ _ x1
  have X0 := Lib.hid x0
  have X1 := Lib.hid x1
  clear x0 x1 
  go_wp2_with fail
  refine (refBlocks b _).mono ?_
  rintro e w2 ⟨rfl, hw⟩
  obtain rfl := hw.symm
  rw [HBK.out]
  go_wp2_with fail
  refine bodyPost_ret (v := .agg #[.slice none 0 0, .int .i64 0, .int .i64 0, .int .i64 0, .int .u64 0, .int .u64 0, .int .i64 0, .int .i64 0]) (by simp [results, Try.results29, go_sem, b0, b1, b2, b3, b4, b5, b6, b7]) rfl ⟨_, _, rfl, Or.inl ⟨rfl, rfl, rfl⟩, ?_⟩
  iterate 8 (refine Below.set ?_ _ _ _ (by omega))
  exact hB
set_option maxHeartbeats 800000 in
theorem refReserve_n3 (L : Ln) (ao : Option Addr) (cap : Nat) (at1 b : Int) (ha0 : 0 ≤ at1) (ha1 : at1 ≤ 18446744073709551615) (w : World) (hf : L.fits) (hr : Rd w ao L.key) (hok : L.ok = true) (hbk : blkB b = true) (h1 : L.send ≤ at1) (h2 : ¬ at1 ≤ 18446744073709551614) :
   Calls Try.prog 29 #[L.val ao cap, .int .u64 at1, .int .i64 b] w fun e w' => ∃ ao' cap', e = .returned ((reserveL L at1 b).val ao' cap') ∧ Mine w' w.heap.size 5 ao' cap' (reserveL L at1 b).key ∧ Below w.heap.size w w' := by
  obtain ⟨hl, hcur0, hcur1, hnext0, hnext1, hsend0, hsend1, hceil0, hceil1, hs⟩ := hf
  obtain ⟨key, side, cur, next, send, ceil, sec, nano⟩ := L
  unfold Ln.val
  simp only at hl hcur0 hcur1 hnext0 hnext1 hsend0 hsend1 hceil0 hceil1 hs hr hok h1 ⊢
  obtain rfl : at1 = 18446744073709551615 := by omega
  clear h2 ha0 ha1
  have hma : mayR ⟨key, side, cur, next, send, ceil, sec, nano⟩ 18446744073709551615 b = false := by simp [mayR, hok, hbk, h1]
  have hy : reserveL ⟨key, side, cur, next, send, ceil, sec, nano⟩ 18446744073709551615 b = Ln.zero := by simp [reserveL, hma]
  rw [hy]
  unfold Ln.zero
  have HOK := Lib.hid hok
  have HBK := Lib.hid hbk
  clear hy hma hok hbk
  go_enter Try.func29, Try.ntmps29
  go_wp2_with fail
  refine (refLaneValid ⟨key, side, cur, next, send, ceil, sec, nano⟩ ao cap _).mono ?_
  rintro e w1 ⟨rfl, hb⟩
  rw [HOK.out]
  have hz := hb.size
  simp only [alloc_size] at hz
  have hB := (((Below.refl _ w).alloc (Nat.le_refl _) _).alloc (by simp only [alloc_size]; omega) _).trans (hb.mono (by simp only [alloc_size]; omega))
  have x0 : w1.heap[w.heap.size]? = some (.cells #[.slice ao key.length cap, .int .i64 side, .int .i64 cur, .int .i64 next, .int .u64 send, .int .u64 ceil, .int .i64 sec, .int .i64 nano] 27 (0, 0)) := (hb_block hb (w.heap.size) (by simp only [alloc_size]; omega)).trans (by simp only [alloc_get, alloc_size]; repeat first | rw [if_pos trivial] | rw [if_neg (by omega)] | rw [if_pos (by omega)])
  have x1 : w1.heap[w.heap.size + 1]? = some (.cells #[.slice none 0 0, .int .i64 0, .int .i64 0, .int .i64 0, .int .u64 0, .int .u64 0, .int .i64 0, .int .i64 0] 27 (0, 0)) := (hb_block hb (w.heap.size + 1) (by simp only [alloc_size]; omega)).trans (by simp only [alloc_get, alloc_size]; repeat first | rw [if_pos trivial] | rw [if_neg (by omega)] | rw [if_pos (by omega)])
  clear hb
  have a0 : w1.cell? ⟨w.heap.size, 0, none⟩ = some (.slice ao key.length cap) := cell_of_row w1 (w.heap.size) 0 _ _ _ x0
  have a1 : w1.cell? ⟨w.heap.size, 1, none⟩ = some (.int .i64 side) := cell_of_row w1 (w.heap.size) 1 _ _ _ x0
  have a2 : w1.cell? ⟨w.heap.size, 2, none⟩ = some (.int .i64 cur) := cell_of_row w1 (w.heap.size) 2 _ _ _ x0
  have a3 : w1.cell? ⟨w.heap.size, 3, none⟩ = some (.int .i64 next) := cell_of_row w1 (w.heap.size) 3 _ _ _ x0
  have a4 : w1.cell? ⟨w.heap.size, 4, none⟩ = some (.int .u64 send) := cell_of_row w1 (w.heap.size) 4 _ _ _ x0
  have a5 : w1.cell? ⟨w.heap.size, 5, none⟩ = some (.int .u64 ceil) := cell_of_row w1 (w.heap.size) 5 _ _ _ x0
  have a6 : w1.cell? ⟨w.heap.size, 6, none⟩ = some (.int .i64 sec) := cell_of_row w1 (w.heap.size) 6 _ _ _ x0
  have a7 : w1.cell? ⟨w.heap.size, 7, none⟩ = some (.int .i64 nano) := cell_of_row w1 (w.heap.size) 7 _ _ _ x0
  have af (i : Nat) : w1.frozen? ⟨w.heap.size, i, none⟩ = false := frozen_of_row w1 (w.heap.size) i _ _ x0
  have b0 : w1.cell? ⟨w.heap.size + 1, 0, none⟩ = some (.slice none 0 0) := cell_of_row w1 (w.heap.size + 1) 0 _ _ _ x1
  have b1 : w1.cell? ⟨w.heap.size + 1, 1, none⟩ = some (.int .i64 0) := cell_of_row w1 (w.heap.size + 1) 1 _ _ _ x1
  have b2 : w1.cell? ⟨w.heap.size + 1, 2, none⟩ = some (.int .i64 0) := cell_of_row w1 (w.heap.size + 1) 2 _ _ _ x1
  have b3 : w1.cell? ⟨w.heap.size + 1, 3, none⟩ = some (.int .i64 0) := cell_of_row w1 (w.heap.size + 1) 3 _ _ _ x1
  have b4 : w1.cell? ⟨w.heap.size + 1, 4, none⟩ = some (.int .u64 0) := cell_of_row w1 (w.heap.size + 1) 4 _ _ _ x1
  have b5 : w1.cell? ⟨w.heap.size + 1, 5, none⟩ = some (.int .u64 0) := cell_of_row w1 (w.heap.size + 1) 5 _ _ _ x1
  have b6 : w1.cell? ⟨w.heap.size + 1, 6, none⟩ = some (.int .i64 0) := cell_of_row w1 (w.heap.size + 1) 6 _ _ _ x1
  have b7 : w1.cell? ⟨w.heap.size + 1, 7, none⟩ = some (.int .i64 0) := cell_of_row w1 (w.heap.size + 1) 7 _ _ _ x1
  have bf (i : Nat) : w1.frozen? ⟨w.heap.size + 1, i, none⟩ = false := frozen_of_row w1 (w.heap.size + 1) i _ _ x1
  have X0 := Lib.hid x0
  have X1 := Lib.hid x1
  clear x0 x1 
  go_wp2_with fail
  refine (refBlocks b _).mono ?_
  rintro e w2 ⟨rfl, hw⟩
  obtain rfl := hw.symm
  rw [HBK.out]
  go_wp2_with fail
  refine bodyPost_ret (v := .agg #[.slice none 0 0, .int .i64 0, .int .i64 0, .int .i64 0, .int .u64 0, .int .u64 0, .int .i64 0, .int .i64 0]) (by simp [results, Try.results29, go_sem, b0, b1, b2, b3, b4, b5, b6, b7]) rfl ⟨_, _, rfl, Or.inl ⟨rfl, rfl, rfl⟩, ?_⟩
  iterate 8 (refine Below.set ?_ _ _ _ (by omega))
  exact hB
set_option maxHeartbeats 800000 in
theorem refReserve_y (L : Ln) (ao : Option Addr) (cap : Nat) (at1 b : Int) (ha0 : 0 ≤ at1) (ha1 : at1 ≤ 18446744073709551615) (w : World) (hf : L.fits) (hr : Rd w ao L.key) (hok : L.ok = true) (hbk : blkB b = true) (h1 : L.send ≤ at1) (h2 : at1 ≤ 18446744073709551614) :
   Calls Try.prog 29 #[L.val ao cap, .int .u64 at1, .int .i64 b] w fun e w' => ∃ ao' cap', e = .returned ((reserveL L at1 b).val ao' cap') ∧ Mine w' w.heap.size 5 ao' cap' (reserveL L at1 b).key ∧ Below w.heap.size w w' := by
  obtain ⟨hl, hcur0, hcur1, hnext0, hnext1, hsend0, hsend1, hceil0, hceil1, hs⟩ := hf
  obtain ⟨key, side, cur, next, send, ceil, sec, nano⟩ := L
  unfold Ln.val
  simp only at hl hcur0 hcur1 hnext0 hnext1 hsend0 hsend1 hceil0 hceil1 hs hr hok h1 ⊢
  have hma : mayR ⟨key, side, cur, next, send, ceil, sec, nano⟩ at1 b = true := by simp [mayR, hok, hbk, h1, h2]
  have hy : reserveL ⟨key, side, cur, next, send, ceil, sec, nano⟩ at1 b = Ln.keep ⟨key, side, cur, next, send, ceil, sec, nano⟩ cur next (upF at1 b) ceil sec nano := by simp [reserveL, hma]
  rw [hy]
  unfold Ln.keep
  have HOK := Lib.hid hok
  have HBK := Lib.hid hbk
  clear hy hma hok hbk
  go_enter Try.func29, Try.ntmps29
  go_wp2_with fail
  refine (refLaneValid ⟨key, side, cur, next, send, ceil, sec, nano⟩ ao cap _).mono ?_
  rintro e w1 ⟨rfl, hb⟩
  rw [HOK.out]
  have hz := hb.size
  simp only [alloc_size] at hz
  have hB := (((Below.refl _ w).alloc (Nat.le_refl _) _).alloc (by simp only [alloc_size]; omega) _).trans (hb.mono (by simp only [alloc_size]; omega))
  have x0 : w1.heap[w.heap.size]? = some (.cells #[.slice ao key.length cap, .int .i64 side, .int .i64 cur, .int .i64 next, .int .u64 send, .int .u64 ceil, .int .i64 sec, .int .i64 nano] 27 (0, 0)) := (hb_block hb (w.heap.size) (by simp only [alloc_size]; omega)).trans (by simp only [alloc_get, alloc_size]; repeat first | rw [if_pos trivial] | rw [if_neg (by omega)] | rw [if_pos (by omega)])
  have x1 : w1.heap[w.heap.size + 1]? = some (.cells #[.slice none 0 0, .int .i64 0, .int .i64 0, .int .i64 0, .int .u64 0, .int .u64 0, .int .i64 0, .int .i64 0] 27 (0, 0)) := (hb_block hb (w.heap.size + 1) (by simp only [alloc_size]; omega)).trans (by simp only [alloc_get, alloc_size]; repeat first | rw [if_pos trivial] | rw [if_neg (by omega)] | rw [if_pos (by omega)])
  clear hb
  have a0 : w1.cell? ⟨w.heap.size, 0, none⟩ = some (.slice ao key.length cap) := cell_of_row w1 (w.heap.size) 0 _ _ _ x0
  have a1 : w1.cell? ⟨w.heap.size, 1, none⟩ = some (.int .i64 side) := cell_of_row w1 (w.heap.size) 1 _ _ _ x0
  have a2 : w1.cell? ⟨w.heap.size, 2, none⟩ = some (.int .i64 cur) := cell_of_row w1 (w.heap.size) 2 _ _ _ x0
  have a3 : w1.cell? ⟨w.heap.size, 3, none⟩ = some (.int .i64 next) := cell_of_row w1 (w.heap.size) 3 _ _ _ x0
  have a4 : w1.cell? ⟨w.heap.size, 4, none⟩ = some (.int .u64 send) := cell_of_row w1 (w.heap.size) 4 _ _ _ x0
  have a5 : w1.cell? ⟨w.heap.size, 5, none⟩ = some (.int .u64 ceil) := cell_of_row w1 (w.heap.size) 5 _ _ _ x0
  have a6 : w1.cell? ⟨w.heap.size, 6, none⟩ = some (.int .i64 sec) := cell_of_row w1 (w.heap.size) 6 _ _ _ x0
  have a7 : w1.cell? ⟨w.heap.size, 7, none⟩ = some (.int .i64 nano) := cell_of_row w1 (w.heap.size) 7 _ _ _ x0
  have af (i : Nat) : w1.frozen? ⟨w.heap.size, i, none⟩ = false := frozen_of_row w1 (w.heap.size) i _ _ x0
  have b0 : w1.cell? ⟨w.heap.size + 1, 0, none⟩ = some (.slice none 0 0) := cell_of_row w1 (w.heap.size + 1) 0 _ _ _ x1
  have b1 : w1.cell? ⟨w.heap.size + 1, 1, none⟩ = some (.int .i64 0) := cell_of_row w1 (w.heap.size + 1) 1 _ _ _ x1
  have b2 : w1.cell? ⟨w.heap.size + 1, 2, none⟩ = some (.int .i64 0) := cell_of_row w1 (w.heap.size + 1) 2 _ _ _ x1
  have b3 : w1.cell? ⟨w.heap.size + 1, 3, none⟩ = some (.int .i64 0) := cell_of_row w1 (w.heap.size + 1) 3 _ _ _ x1
  have b4 : w1.cell? ⟨w.heap.size + 1, 4, none⟩ = some (.int .u64 0) := cell_of_row w1 (w.heap.size + 1) 4 _ _ _ x1
  have b5 : w1.cell? ⟨w.heap.size + 1, 5, none⟩ = some (.int .u64 0) := cell_of_row w1 (w.heap.size + 1) 5 _ _ _ x1
  have b6 : w1.cell? ⟨w.heap.size + 1, 6, none⟩ = some (.int .i64 0) := cell_of_row w1 (w.heap.size + 1) 6 _ _ _ x1
  have b7 : w1.cell? ⟨w.heap.size + 1, 7, none⟩ = some (.int .i64 0) := cell_of_row w1 (w.heap.size + 1) 7 _ _ _ x1
  have bf (i : Nat) : w1.frozen? ⟨w.heap.size + 1, i, none⟩ = false := frozen_of_row w1 (w.heap.size + 1) i _ _ x1
  have X0 := Lib.hid x0
  have X1 := Lib.hid x1
  clear x0 x1 
  go_wp2_with fail
  refine (refBlocks b _).mono ?_
  rintro e w2 ⟨rfl, hw⟩
  obtain rfl := hw.symm
  rw [HBK.out]
  go_wp2_with fail
  refine (refLane ⟨key, side, cur, next, send, ceil, sec, nano⟩ ao cap _ hl (hr.on hB)).mono ?_
  rintro e V ⟨ar, cr, he, hm, hb⟩
  obtain rfl : e = .returned (.agg #[.slice ar key.length cr, .int .i64 side, .int .i64 cur, .int .i64 next, .int .u64 send, .int .u64 ceil, .int .i64 sec, .int .i64 nano]) := he
  have x0 : V.heap[w.heap.size]? = some (.cells #[.slice ao key.length cap, .int .i64 side, .int .i64 cur, .int .i64 next, .int .u64 send, .int .u64 ceil, .int .i64 sec, .int .i64 nano] 27 (0, 0)) := (hb.block (w.heap.size) (by omega)).trans X0.out
  have x1 : V.heap[w.heap.size + 1]? = some (.cells #[.slice none 0 0, .int .i64 0, .int .i64 0, .int .i64 0, .int .u64 0, .int .u64 0, .int .i64 0, .int .i64 0] 27 (0, 0)) := (hb.block (w.heap.size + 1) (by omega)).trans X1.out
  have hzV := hb.size
  have hBV := hB.trans (hb.mono (by omega))
  have hlt0 : w.heap.size < V.heap.size := by omega
  have hlt1 : w.heap.size + 1 < V.heap.size := by omega
  clear hb hB X0 X1 
  clear a0 a1 a2 a3 a4 a5 a6 a7 af
  clear b0 b1 b2 b3 b4 b5 b6 b7 bf
  have a0 : V.cell? ⟨w.heap.size, 0, none⟩ = some (.slice ao key.length cap) := cell_of_row V (w.heap.size) 0 _ _ _ x0
  have a1 : V.cell? ⟨w.heap.size, 1, none⟩ = some (.int .i64 side) := cell_of_row V (w.heap.size) 1 _ _ _ x0
  have a2 : V.cell? ⟨w.heap.size, 2, none⟩ = some (.int .i64 cur) := cell_of_row V (w.heap.size) 2 _ _ _ x0
  have a3 : V.cell? ⟨w.heap.size, 3, none⟩ = some (.int .i64 next) := cell_of_row V (w.heap.size) 3 _ _ _ x0
  have a4 : V.cell? ⟨w.heap.size, 4, none⟩ = some (.int .u64 send) := cell_of_row V (w.heap.size) 4 _ _ _ x0
  have a5 : V.cell? ⟨w.heap.size, 5, none⟩ = some (.int .u64 ceil) := cell_of_row V (w.heap.size) 5 _ _ _ x0
  have a6 : V.cell? ⟨w.heap.size, 6, none⟩ = some (.int .i64 sec) := cell_of_row V (w.heap.size) 6 _ _ _ x0
  have a7 : V.cell? ⟨w.heap.size, 7, none⟩ = some (.int .i64 nano) := cell_of_row V (w.heap.size) 7 _ _ _ x0
  have af (i : Nat) : V.frozen? ⟨w.heap.size, i, none⟩ = false := frozen_of_row V (w.heap.size) i _ _ x0
  have b0 : V.cell? ⟨w.heap.size + 1, 0, none⟩ = some (.slice none 0 0) := cell_of_row V (w.heap.size + 1) 0 _ _ _ x1
  have b1 : V.cell? ⟨w.heap.size + 1, 1, none⟩ = some (.int .i64 0) := cell_of_row V (w.heap.size + 1) 1 _ _ _ x1
  have b2 : V.cell? ⟨w.heap.size + 1, 2, none⟩ = some (.int .i64 0) := cell_of_row V (w.heap.size + 1) 2 _ _ _ x1
  have b3 : V.cell? ⟨w.heap.size + 1, 3, none⟩ = some (.int .i64 0) := cell_of_row V (w.heap.size + 1) 3 _ _ _ x1
  have b4 : V.cell? ⟨w.heap.size + 1, 4, none⟩ = some (.int .u64 0) := cell_of_row V (w.heap.size + 1) 4 _ _ _ x1
  have b5 : V.cell? ⟨w.heap.size + 1, 5, none⟩ = some (.int .u64 0) := cell_of_row V (w.heap.size + 1) 5 _ _ _ x1
  have b6 : V.cell? ⟨w.heap.size + 1, 6, none⟩ = some (.int .i64 0) := cell_of_row V (w.heap.size + 1) 6 _ _ _ x1
  have b7 : V.cell? ⟨w.heap.size + 1, 7, none⟩ = some (.int .i64 0) := cell_of_row V (w.heap.size + 1) 7 _ _ _ x1
  have bf (i : Nat) : V.frozen? ⟨w.heap.size + 1, i, none⟩ = false := frozen_of_row V (w.heap.size + 1) i _ _ x1
  clear x0 x1 
  go_wp2_with fail
  refine (refUp at1 b ha0 ha1 _).mono ?_
  rintro e V2 ⟨rfl, rfl⟩
  go_wp2_with fail
  refine bodyPost_ret (v := .agg #[.slice ar key.length cr, .int .i64 side, .int .i64 cur, .int .i64 next, .int .u64 (upF at1 b), .int .u64 ceil, .int .i64 sec, .int .i64 nano]) (by simp [results, Try.results29, go_sem, hlt1, b0, b1, b2, b3, b4, b5, b6, b7]) rfl ⟨_, _, rfl, ?_, ?_⟩
  · refine Mine.from (B := w.heap.size + 2) ?_ (by omega)
    refine Mine.below ?_ (fresh1 _ _)
    iterate 8 (refine Mine.setCell ?_ _ _ _ (by omega))
    exact Mine.from hm (by omega)
  · refine below_push ?_
    iterate 8 (refine Below.set ?_ _ _ _ (by omega))
    exact hBV
set_option maxHeartbeats 800000 in
theorem refReserve (L : Ln) (ao : Option Addr) (cap : Nat) (at1 b : Int) (ha0 : 0 ≤ at1) (ha1 : at1 ≤ 18446744073709551615) (w : World) (hf : L.fits) (hr : Rd w ao L.key) :
   Calls Try.prog 29 #[L.val ao cap, .int .u64 at1, .int .i64 b] w fun e w' => ∃ ao' cap', e = .returned ((reserveL L at1 b).val ao' cap') ∧ Mine w' w.heap.size 5 ao' cap' (reserveL L at1 b).key ∧ Below w.heap.size w w' := by
  by_cases hok : L.ok = true
  · by_cases hbk : blkB b = true
    · by_cases h1 : L.send ≤ at1
      · by_cases h2 : at1 ≤ 18446744073709551614
        · exact refReserve_y L ao cap at1 b ha0 ha1 w hf hr hok hbk h1 h2
        · exact refReserve_n3 L ao cap at1 b ha0 ha1 w hf hr hok hbk h1 h2
      · exact refReserve_n2 L ao cap at1 b ha0 ha1 w hf hr hok hbk h1
    · exact refReserve_n1 L ao cap at1 b ha0 ha1 w hf hr hok (by simpa using hbk)
  · exact refReserve_n0 L ao cap at1 b ha0 ha1 w hf hr  (by simpa using hok)
set_option maxHeartbeats 800000 in
theorem refRaise_n0 (L : Ln) (ao : Option Addr) (cap : Nat) (c b : Int) (_hc0 : 0 ≤ c) (_hc1 : c ≤ 18446744073709551615) (w : World) (hf : L.fits) (hr : Rd w ao L.key) (hok : L.ok = false) :
   Calls Try.prog 33 #[L.val ao cap, .int .u64 c, .int .i64 b] w fun e w' => ∃ ao' cap', e = .returned ((raiseL L c b).val ao' cap') ∧ Mine w' w.heap.size 5 ao' cap' (raiseL L c b).key ∧ Below w.heap.size w w' := by
  obtain ⟨hl, hcur0, hcur1, hnext0, hnext1, hsend0, hsend1, hceil0, hceil1, hs⟩ := hf
  obtain ⟨key, side, cur, next, send, ceil, sec, nano⟩ := L
  unfold Ln.val
  simp only at hl hcur0 hcur1 hnext0 hnext1 hsend0 hsend1 hceil0 hceil1 hs hr hok ⊢
  have hma : mayS ⟨key, side, cur, next, send, ceil, sec, nano⟩ c b = false := by simp [mayS, hok]
  have hy : raiseL ⟨key, side, cur, next, send, ceil, sec, nano⟩ c b = Ln.zero := by simp [raiseL, hma]
  rw [hy]
  unfold Ln.zero
  have HOK := Lib.hid hok
  clear hy hma hok
  go_enter Try.func33, Try.ntmps33
  go_wp2_with fail
  refine (refLaneValid ⟨key, side, cur, next, send, ceil, sec, nano⟩ ao cap _).mono ?_
  rintro e w1 ⟨rfl, hb⟩
  rw [HOK.out]
  have hz := hb.size
  simp only [alloc_size] at hz
  have hB := (((Below.refl _ w).alloc (Nat.le_refl _) _).alloc (by simp only [alloc_size]; omega) _).trans (hb.mono (by simp only [alloc_size]; omega))
  have x0 : w1.heap[w.heap.size]? = some (.cells #[.slice ao key.length cap, .int .i64 side, .int .i64 cur, .int .i64 next, .int .u64 send, .int .u64 ceil, .int .i64 sec, .int .i64 nano] 27 (0, 0)) := (hb_block hb (w.heap.size) (by simp only [alloc_size]; omega)).trans (by simp only [alloc_get, alloc_size]; repeat first | rw [if_pos trivial] | rw [if_neg (by omega)] | rw [if_pos (by omega)])
  have x1 : w1.heap[w.heap.size + 1]? = some (.cells #[.slice none 0 0, .int .i64 0, .int .i64 0, .int .i64 0, .int .u64 0, .int .u64 0, .int .i64 0, .int .i64 0] 27 (0, 0)) := (hb_block hb (w.heap.size + 1) (by simp only [alloc_size]; omega)).trans (by simp only [alloc_get, alloc_size]; repeat first | rw [if_pos trivial] | rw [if_neg (by omega)] | rw [if_pos (by omega)])
  clear hb
  have a0 : w1.cell? ⟨w.heap.size, 0, none⟩ = some (.slice ao key.length cap) := cell_of_row w1 (w.heap.size) 0 _ _ _ x0
  have a1 : w1.cell? ⟨w.heap.size, 1, none⟩ = some (.int .i64 side) := cell_of_row w1 (w.heap.size) 1 _ _ _ x0
  have a2 : w1.cell? ⟨w.heap.size, 2, none⟩ = some (.int .i64 cur) := cell_of_row w1 (w.heap.size) 2 _ _ _ x0
  have a3 : w1.cell? ⟨w.heap.size, 3, none⟩ = some (.int .i64 next) := cell_of_row w1 (w.heap.size) 3 _ _ _ x0
  have a4 : w1.cell? ⟨w.heap.size, 4, none⟩ = some (.int .u64 send) := cell_of_row w1 (w.heap.size) 4 _ _ _ x0
  have a5 : w1.cell? ⟨w.heap.size, 5, none⟩ = some (.int .u64 ceil) := cell_of_row w1 (w.heap.size) 5 _ _ _ x0
  have a6 : w1.cell? ⟨w.heap.size, 6, none⟩ = some (.int .i64 sec) := cell_of_row w1 (w.heap.size) 6 _ _ _ x0
  have a7 : w1.cell? ⟨w.heap.size, 7, none⟩ = some (.int .i64 nano) := cell_of_row w1 (w.heap.size) 7 _ _ _ x0
  have af (i : Nat) : w1.frozen? ⟨w.heap.size, i, none⟩ = false := frozen_of_row w1 (w.heap.size) i _ _ x0
  have b0 : w1.cell? ⟨w.heap.size + 1, 0, none⟩ = some (.slice none 0 0) := cell_of_row w1 (w.heap.size + 1) 0 _ _ _ x1
  have b1 : w1.cell? ⟨w.heap.size + 1, 1, none⟩ = some (.int .i64 0) := cell_of_row w1 (w.heap.size + 1) 1 _ _ _ x1
  have b2 : w1.cell? ⟨w.heap.size + 1, 2, none⟩ = some (.int .i64 0) := cell_of_row w1 (w.heap.size + 1) 2 _ _ _ x1
  have b3 : w1.cell? ⟨w.heap.size + 1, 3, none⟩ = some (.int .i64 0) := cell_of_row w1 (w.heap.size + 1) 3 _ _ _ x1
  have b4 : w1.cell? ⟨w.heap.size + 1, 4, none⟩ = some (.int .u64 0) := cell_of_row w1 (w.heap.size + 1) 4 _ _ _ x1
  have b5 : w1.cell? ⟨w.heap.size + 1, 5, none⟩ = some (.int .u64 0) := cell_of_row w1 (w.heap.size + 1) 5 _ _ _ x1
  have b6 : w1.cell? ⟨w.heap.size + 1, 6, none⟩ = some (.int .i64 0) := cell_of_row w1 (w.heap.size + 1) 6 _ _ _ x1
  have b7 : w1.cell? ⟨w.heap.size + 1, 7, none⟩ = some (.int .i64 0) := cell_of_row w1 (w.heap.size + 1) 7 _ _ _ x1
  have bf (i : Nat) : w1.frozen? ⟨w.heap.size + 1, i, none⟩ = false := frozen_of_row w1 (w.heap.size + 1) i _ _ x1
  have X0 := Lib.hid x0
  have X1 := Lib.hid x1
  clear x0 x1 
  go_wp2_with fail
  refine (refBlocks b _).mono ?_
  rintro e w2 ⟨rfl, hw⟩
  obtain rfl := hw.symm
  go_wp2_with fail
  refine bodyPost_ret (v := .agg #[.slice none 0 0, .int .i64 0, .int .i64 0, .int .i64 0, .int .u64 0, .int .u64 0, .int .i64 0, .int .i64 0]) (by simp [results, Try.results33, go_sem, b0, b1, b2, b3, b4, b5, b6, b7]) rfl ⟨_, _, rfl, Or.inl ⟨rfl, rfl, rfl⟩, ?_⟩
  iterate 8 (refine Below.set ?_ _ _ _ (by omega))
  exact hB
set_option maxHeartbeats 800000 in
theorem refRaise_n1 (L : Ln) (ao : Option Addr) (cap : Nat) (c b : Int) (_hc0 : 0 ≤ c) (_hc1 : c ≤ 18446744073709551615) (w : World) (hf : L.fits) (hr : Rd w ao L.key) (hok : L.ok = true) (hbk : blkB b = false) :
   Calls Try.prog 33 #[L.val ao cap, .int .u64 c, .int .i64 b] w fun e w' => ∃ ao' cap', e = .returned ((raiseL L c b).val ao' cap') ∧ Mine w' w.heap.size 5 ao' cap' (raiseL L c b).key ∧ Below w.heap.size w w' := by
  obtain ⟨hl, hcur0, hcur1, hnext0, hnext1, hsend0, hsend1, hceil0, hceil1, hs⟩ := hf
  obtain ⟨key, side, cur, next, send, ceil, sec, nano⟩ := L
  unfold Ln.val
  simp only at hl hcur0 hcur1 hnext0 hnext1 hsend0 hsend1 hceil0 hceil1 hs hr hok ⊢
  have hma : mayS ⟨key, side, cur, next, send, ceil, sec, nano⟩ c b = false := by simp [mayS, hok, hbk]
  have hy : raiseL ⟨key, side, cur, next, send, ceil, sec, nano⟩ c b = Ln.zero := by simp [raiseL, hma]
  rw [hy]
  unfold Ln.zero
  have HOK := Lib.hid hok
  have HBK := Lib.hid hbk
  clear hy hma hok hbk
  go_enter Try.func33, Try.ntmps33
  go_wp2_with fail
  refine (refLaneValid ⟨key, side, cur, next, send, ceil, sec, nano⟩ ao cap _).mono ?_
  rintro e w1 ⟨rfl, hb⟩
  rw [HOK.out]
  have hz := hb.size
  simp only [alloc_size] at hz
  have hB := (((Below.refl _ w).alloc (Nat.le_refl _) _).alloc (by simp only [alloc_size]; omega) _).trans (hb.mono (by simp only [alloc_size]; omega))
  have x0 : w1.heap[w.heap.size]? = some (.cells #[.slice ao key.length cap, .int .i64 side, .int .i64 cur, .int .i64 next, .int .u64 send, .int .u64 ceil, .int .i64 sec, .int .i64 nano] 27 (0, 0)) := (hb_block hb (w.heap.size) (by simp only [alloc_size]; omega)).trans (by simp only [alloc_get, alloc_size]; repeat first | rw [if_pos trivial] | rw [if_neg (by omega)] | rw [if_pos (by omega)])
  have x1 : w1.heap[w.heap.size + 1]? = some (.cells #[.slice none 0 0, .int .i64 0, .int .i64 0, .int .i64 0, .int .u64 0, .int .u64 0, .int .i64 0, .int .i64 0] 27 (0, 0)) := (hb_block hb (w.heap.size + 1) (by simp only [alloc_size]; omega)).trans (by simp only [alloc_get, alloc_size]; repeat first | rw [if_pos trivial] | rw [if_neg (by omega)] | rw [if_pos (by omega)])
  clear hb
  have a0 : w1.cell? ⟨w.heap.size, 0, none⟩ = some (.slice ao key.length cap) := cell_of_row w1 (w.heap.size) 0 _ _ _ x0
  have a1 : w1.cell? ⟨w.heap.size, 1, none⟩ = some (.int .i64 side) := cell_of_row w1 (w.heap.size) 1 _ _ _ x0
  have a2 : w1.cell? ⟨w.heap.size, 2, none⟩ = some (.int .i64 cur) := cell_of_row w1 (w.heap.size) 2 _ _ _ x0
  have a3 : w1.cell? ⟨w.heap.size, 3, none⟩ = some (.int .i64 next) := cell_of_row w1 (w.heap.size) 3 _ _ _ x0
  have a4 : w1.cell? ⟨w.heap.size, 4, none⟩ = some (.int .u64 send) := cell_of_row w1 (w.heap.size) 4 _ _ _ x0
  have a5 : w1.cell? ⟨w.heap.size, 5, none⟩ = some (.int .u64 ceil) := cell_of_row w1 (w.heap.size) 5 _ _ _ x0
  have a6 : w1.cell? ⟨w.heap.size, 6, none⟩ = some (.int .i64 sec) := cell_of_row w1 (w.heap.size) 6 _ _ _ x0
  have a7 : w1.cell? ⟨w.heap.size, 7, none⟩ = some (.int .i64 nano) := cell_of_row w1 (w.heap.size) 7 _ _ _ x0
  have af (i : Nat) : w1.frozen? ⟨w.heap.size, i, none⟩ = false := frozen_of_row w1 (w.heap.size) i _ _ x0
  have b0 : w1.cell? ⟨w.heap.size + 1, 0, none⟩ = some (.slice none 0 0) := cell_of_row w1 (w.heap.size + 1) 0 _ _ _ x1
  have b1 : w1.cell? ⟨w.heap.size + 1, 1, none⟩ = some (.int .i64 0) := cell_of_row w1 (w.heap.size + 1) 1 _ _ _ x1
  have b2 : w1.cell? ⟨w.heap.size + 1, 2, none⟩ = some (.int .i64 0) := cell_of_row w1 (w.heap.size + 1) 2 _ _ _ x1
  have b3 : w1.cell? ⟨w.heap.size + 1, 3, none⟩ = some (.int .i64 0) := cell_of_row w1 (w.heap.size + 1) 3 _ _ _ x1
  have b4 : w1.cell? ⟨w.heap.size + 1, 4, none⟩ = some (.int .u64 0) := cell_of_row w1 (w.heap.size + 1) 4 _ _ _ x1
  have b5 : w1.cell? ⟨w.heap.size + 1, 5, none⟩ = some (.int .u64 0) := cell_of_row w1 (w.heap.size + 1) 5 _ _ _ x1
  have b6 : w1.cell? ⟨w.heap.size + 1, 6, none⟩ = some (.int .i64 0) := cell_of_row w1 (w.heap.size + 1) 6 _ _ _ x1
  have b7 : w1.cell? ⟨w.heap.size + 1, 7, none⟩ = some (.int .i64 0) := cell_of_row w1 (w.heap.size + 1) 7 _ _ _ x1
  have bf (i : Nat) : w1.frozen? ⟨w.heap.size + 1, i, none⟩ = false := frozen_of_row w1 (w.heap.size + 1) i _ _ x1
  have X0 := Lib.hid x0
  have X1 := Lib.hid x1
  clear x0 x1 
  go_wp2_with fail
  refine (refBlocks b _).mono ?_
  rintro e w2 ⟨rfl, hw⟩
  obtain rfl := hw.symm
  rw [HBK.out]
  go_wp2_with fail
  refine bodyPost_ret (v := .agg #[.slice none 0 0, .int .i64 0, .int .i64 0, .int .i64 0, .int .u64 0, .int .u64 0, .int .i64 0, .int .i64 0]) (by simp [results, Try.results33, go_sem, b0, b1, b2, b3, b4, b5, b6, b7]) rfl ⟨_, _, rfl, Or.inl ⟨rfl, rfl, rfl⟩, ?_⟩
  iterate 8 (refine Below.set ?_ _ _ _ (by omega))
  exact hB
set_option maxHeartbeats 800000 in
theorem refRaise_n2 (L : Ln) (ao : Option Addr) (cap : Nat) (c b : Int) (_hc0 : 0 ≤ c) (_hc1 : c ≤ 18446744073709551615) (w : World) (hf : L.fits) (hr : Rd w ao L.key) (hok : L.ok = true) (hbk : blkB b = true) (h1 : ¬ L.ceil ≤ c) :
   Calls Try.prog 33 #[L.val ao cap, .int .u64 c, .int .i64 b] w fun e w' => ∃ ao' cap', e = .returned ((raiseL L c b).val ao' cap') ∧ Mine w' w.heap.size 5 ao' cap' (raiseL L c b).key ∧ Below w.heap.size w w' := by
  obtain ⟨hl, hcur0, hcur1, hnext0, hnext1, hsend0, hsend1, hceil0, hceil1, hs⟩ := hf
  obtain ⟨key, side, cur, next, send, ceil, sec, nano⟩ := L
  unfold Ln.val
  simp only at hl hcur0 hcur1 hnext0 hnext1 hsend0 hsend1 hceil0 hceil1 hs hr hok h1 ⊢
  have hma : mayS ⟨key, side, cur, next, send, ceil, sec, nano⟩ c b = false := by simp [mayS, hok, hbk, h1]
  have hy : raiseL ⟨key, side, cur, next, send, ceil, sec, nano⟩ c b = Ln.zero := by simp [raiseL, hma]
  rw [hy]
  unfold Ln.zero
  have HOK := Lib.hid hok
  have HBK := Lib.hid hbk
  clear hy hma hok hbk
  go_enter Try.func33, Try.ntmps33
  go_wp2_with fail
  refine (refLaneValid ⟨key, side, cur, next, send, ceil, sec, nano⟩ ao cap _).mono ?_
  rintro e w1 ⟨rfl, hb⟩
  rw [HOK.out]
  have hz := hb.size
  simp only [alloc_size] at hz
  have hB := (((Below.refl _ w).alloc (Nat.le_refl _) _).alloc (by simp only [alloc_size]; omega) _).trans (hb.mono (by simp only [alloc_size]; omega))
  have x0 : w1.heap[w.heap.size]? = some (.cells #[.slice ao key.length cap, .int .i64 side, .int .i64 cur, .int .i64 next, .int .u64 send, .int .u64 ceil, .int .i64 sec, .int .i64 nano] 27 (0, 0)) := (hb_block hb (w.heap.size) (by simp only [alloc_size]; omega)).trans (by simp only [alloc_get, alloc_size]; repeat first | rw [if_pos trivial] | rw [if_neg (by omega)] | rw [if_pos (by omega)])
  have x1 : w1.heap[w.heap.size + 1]? = some (.cells #[.slice none 0 0, .int .i64 0, .int .i64 0, .int .i64 0, .int .u64 0, .int .u64 0, .int .i64 0, .int .i64 0] 27 (0, 0)) := (hb_block hb (w.heap.size + 1) (by simp only [alloc_size]; omega)).trans (by simp only [alloc_get, alloc_size]; repeat first | rw [if_pos trivial] | rw [if_neg (by omega)] | rw [if_pos (by omega)])
  clear hb
  have a0 : w1.cell? ⟨w.heap.size, 0, none⟩ = some (.slice ao key.length cap) := cell_of_row w1 (w.heap.size) 0 _ _ _ x0
  have a1 : w1.cell? ⟨w.heap.size, 1, none⟩ = some (.int .i64 side) := cell_of_row w1 (w.heap.size) 1 _ _ _ x0
  have a2 : w1.cell? ⟨w.heap.size, 2, none⟩ = some (.int .i64 cur) := cell_of_row w1 (w.heap.size) 2 _ _ _ x0
  have a3 : w1.cell? ⟨w.heap.size, 3, none⟩ = some (.int .i64 next) := cell_of_row w1 (w.heap.size) 3 _ _ _ x0
  have a4 : w1.cell? ⟨w.heap.size, 4, none⟩ = some (.int .u64 send) := cell_of_row w1 (w.heap.size) 4 _ _ _ x0
  have a5 : w1.cell? ⟨w.heap.size, 5, none⟩ = some (.int .u64 ceil) := cell_of_row w1 (w.heap.size) 5 _ _ _ x0
  have a6 : w1.cell? ⟨w.heap.size, 6, none⟩ = some (.int .i64 sec) := cell_of_row w1 (w.heap.size) 6 _ _ _ x0
  have a7 : w1.cell? ⟨w.heap.size, 7, none⟩ = some (.int .i64 nano) := cell_of_row w1 (w.heap.size) 7 _ _ _ x0
  have af (i : Nat) : w1.frozen? ⟨w.heap.size, i, none⟩ = false := frozen_of_row w1 (w.heap.size) i _ _ x0
  have b0 : w1.cell? ⟨w.heap.size + 1, 0, none⟩ = some (.slice none 0 0) := cell_of_row w1 (w.heap.size + 1) 0 _ _ _ x1
  have b1 : w1.cell? ⟨w.heap.size + 1, 1, none⟩ = some (.int .i64 0) := cell_of_row w1 (w.heap.size + 1) 1 _ _ _ x1
  have b2 : w1.cell? ⟨w.heap.size + 1, 2, none⟩ = some (.int .i64 0) := cell_of_row w1 (w.heap.size + 1) 2 _ _ _ x1
  have b3 : w1.cell? ⟨w.heap.size + 1, 3, none⟩ = some (.int .i64 0) := cell_of_row w1 (w.heap.size + 1) 3 _ _ _ x1
  have b4 : w1.cell? ⟨w.heap.size + 1, 4, none⟩ = some (.int .u64 0) := cell_of_row w1 (w.heap.size + 1) 4 _ _ _ x1
  have b5 : w1.cell? ⟨w.heap.size + 1, 5, none⟩ = some (.int .u64 0) := cell_of_row w1 (w.heap.size + 1) 5 _ _ _ x1
  have b6 : w1.cell? ⟨w.heap.size + 1, 6, none⟩ = some (.int .i64 0) := cell_of_row w1 (w.heap.size + 1) 6 _ _ _ x1
  have b7 : w1.cell? ⟨w.heap.size + 1, 7, none⟩ = some (.int .i64 0) := cell_of_row w1 (w.heap.size + 1) 7 _ _ _ x1
  have bf (i : Nat) : w1.frozen? ⟨w.heap.size + 1, i, none⟩ = false := frozen_of_row w1 (w.heap.size + 1) i _ _ x1
  have X0 := Lib.hid x0
  have X1 := Lib.hid x1
  clear x0 x1 
  go_wp2_with fail
  refine (refBlocks b _).mono ?_
  rintro e w2 ⟨rfl, hw⟩
  obtain rfl := hw.symm
  rw [HBK.out]
  go_wp2_with fail
  refine bodyPost_ret (v := .agg #[.slice none 0 0, .int .i64 0, .int .i64 0, .int .i64 0, .int .u64 0, .int .u64 0, .int .i64 0, .int .i64 0]) (by simp [results, Try.results33, go_sem, b0, b1, b2, b3, b4, b5, b6, b7]) rfl ⟨_, _, rfl, Or.inl ⟨rfl, rfl, rfl⟩, ?_⟩
  iterate 8 (refine Below.set ?_ _ _ _ (by omega))
  exact hB
set_option maxHeartbeats 800000 in
theorem refRaise_n3 (L : Ln) (ao : Option Addr) (cap : Nat) (c b : Int) (hc0 : 0 ≤ c) (hc1 : c ≤ 18446744073709551615) (w : World) (hf : L.fits) (hr : Rd w ao L.key) (hok : L.ok = true) (hbk : blkB b = true) (h1 : L.ceil ≤ c) (h2 : ¬ c ≤ 18446744073709551614) :
   Calls Try.prog 33 #[L.val ao cap, .int .u64 c, .int .i64 b] w fun e w' => ∃ ao' cap', e = .returned ((raiseL L c b).val ao' cap') ∧ Mine w' w.heap.size 5 ao' cap' (raiseL L c b).key ∧ Below w.heap.size w w' := by
  obtain ⟨hl, hcur0, hcur1, hnext0, hnext1, hsend0, hsend1, hceil0, hceil1, hs⟩ := hf
  obtain ⟨key, side, cur, next, send, ceil, sec, nano⟩ := L
  unfold Ln.val
  simp only at hl hcur0 hcur1 hnext0 hnext1 hsend0 hsend1 hceil0 hceil1 hs hr hok h1 ⊢
  obtain rfl : c = 18446744073709551615 := by omega
  clear h2 hc0 hc1
  have hma : mayS ⟨key, side, cur, next, send, ceil, sec, nano⟩ 18446744073709551615 b = false := by simp [mayS, hok, hbk, h1]
  have hy : raiseL ⟨key, side, cur, next, send, ceil, sec, nano⟩ 18446744073709551615 b = Ln.zero := by simp [raiseL, hma]
  rw [hy]
  unfold Ln.zero
  have HOK := Lib.hid hok
  have HBK := Lib.hid hbk
  clear hy hma hok hbk
  go_enter Try.func33, Try.ntmps33
  go_wp2_with fail
  refine (refLaneValid ⟨key, side, cur, next, send, ceil, sec, nano⟩ ao cap _).mono ?_
  rintro e w1 ⟨rfl, hb⟩
  rw [HOK.out]
  have hz := hb.size
  simp only [alloc_size] at hz
  have hB := (((Below.refl _ w).alloc (Nat.le_refl _) _).alloc (by simp only [alloc_size]; omega) _).trans (hb.mono (by simp only [alloc_size]; omega))
  have x0 : w1.heap[w.heap.size]? = some (.cells #[.slice ao key.length cap, .int .i64 side, .int .i64 cur, .int .i64 next, .int .u64 send, .int .u64 ceil, .int .i64 sec, .int .i64 nano] 27 (0, 0)) := (hb_block hb (w.heap.size) (by simp only [alloc_size]; omega)).trans (by simp only [alloc_get, alloc_size]; repeat first | rw [if_pos trivial] | rw [if_neg (by omega)] | rw [if_pos (by omega)])
  have x1 : w1.heap[w.heap.size + 1]? = some (.cells #[.slice none 0 0, .int .i64 0, .int .i64 0, .int .i64 0, .int .u64 0, .int .u64 0, .int .i64 0, .int .i64 0] 27 (0, 0)) := (hb_block hb (w.heap.size + 1) (by simp only [alloc_size]; omega)).trans (by simp only [alloc_get, alloc_size]; repeat first | rw [if_pos trivial] | rw [if_neg (by omega)] | rw [if_pos (by omega)])
  clear hb
  have a0 : w1.cell? ⟨w.heap.size, 0, none⟩ = some (.slice ao key.length cap) := cell_of_row w1 (w.heap.size) 0 _ _ _ x0
  have a1 : w1.cell? ⟨w.heap.size, 1, none⟩ = some (.int .i64 side) := cell_of_row w1 (w.heap.size) 1 _ _ _ x0
  have a2 : w1.cell? ⟨w.heap.size, 2, none⟩ = some (.int .i64 cur) := cell_of_row w1 (w.heap.size) 2 _ _ _ x0
  have a3 : w1.cell? ⟨w.heap.size, 3, none⟩ = some (.int .i64 next) := cell_of_row w1 (w.heap.size) 3 _ _ _ x0
  have a4 : w1.cell? ⟨w.heap.size, 4, none⟩ = some (.int .u64 send) := cell_of_row w1 (w.heap.size) 4 _ _ _ x0
  have a5 : w1.cell? ⟨w.heap.size, 5, none⟩ = some (.int .u64 ceil) := cell_of_row w1 (w.heap.size) 5 _ _ _ x0
  have a6 : w1.cell? ⟨w.heap.size, 6, none⟩ = some (.int .i64 sec) := cell_of_row w1 (w.heap.size) 6 _ _ _ x0
  have a7 : w1.cell? ⟨w.heap.size, 7, none⟩ = some (.int .i64 nano) := cell_of_row w1 (w.heap.size) 7 _ _ _ x0
  have af (i : Nat) : w1.frozen? ⟨w.heap.size, i, none⟩ = false := frozen_of_row w1 (w.heap.size) i _ _ x0
  have b0 : w1.cell? ⟨w.heap.size + 1, 0, none⟩ = some (.slice none 0 0) := cell_of_row w1 (w.heap.size + 1) 0 _ _ _ x1
  have b1 : w1.cell? ⟨w.heap.size + 1, 1, none⟩ = some (.int .i64 0) := cell_of_row w1 (w.heap.size + 1) 1 _ _ _ x1
  have b2 : w1.cell? ⟨w.heap.size + 1, 2, none⟩ = some (.int .i64 0) := cell_of_row w1 (w.heap.size + 1) 2 _ _ _ x1
  have b3 : w1.cell? ⟨w.heap.size + 1, 3, none⟩ = some (.int .i64 0) := cell_of_row w1 (w.heap.size + 1) 3 _ _ _ x1
  have b4 : w1.cell? ⟨w.heap.size + 1, 4, none⟩ = some (.int .u64 0) := cell_of_row w1 (w.heap.size + 1) 4 _ _ _ x1
  have b5 : w1.cell? ⟨w.heap.size + 1, 5, none⟩ = some (.int .u64 0) := cell_of_row w1 (w.heap.size + 1) 5 _ _ _ x1
  have b6 : w1.cell? ⟨w.heap.size + 1, 6, none⟩ = some (.int .i64 0) := cell_of_row w1 (w.heap.size + 1) 6 _ _ _ x1
  have b7 : w1.cell? ⟨w.heap.size + 1, 7, none⟩ = some (.int .i64 0) := cell_of_row w1 (w.heap.size + 1) 7 _ _ _ x1
  have bf (i : Nat) : w1.frozen? ⟨w.heap.size + 1, i, none⟩ = false := frozen_of_row w1 (w.heap.size + 1) i _ _ x1
  have X0 := Lib.hid x0
  have X1 := Lib.hid x1
  clear x0 x1 
  go_wp2_with fail
  refine (refBlocks b _).mono ?_
  rintro e w2 ⟨rfl, hw⟩
  obtain rfl := hw.symm
  rw [HBK.out]
  go_wp2_with fail
  refine bodyPost_ret (v := .agg #[.slice none 0 0, .int .i64 0, .int .i64 0, .int .i64 0, .int .u64 0, .int .u64 0, .int .i64 0, .int .i64 0]) (by simp [results, Try.results33, go_sem, b0, b1, b2, b3, b4, b5, b6, b7]) rfl ⟨_, _, rfl, Or.inl ⟨rfl, rfl, rfl⟩, ?_⟩
  iterate 8 (refine Below.set ?_ _ _ _ (by omega))
  exact hB
set_option maxHeartbeats 800000 in
theorem refRaise_y (L : Ln) (ao : Option Addr) (cap : Nat) (c b : Int) (hc0 : 0 ≤ c) (hc1 : c ≤ 18446744073709551615) (w : World) (hf : L.fits) (hr : Rd w ao L.key) (hok : L.ok = true) (hbk : blkB b = true) (h1 : L.ceil ≤ c) (h2 : c ≤ 18446744073709551614) :
   Calls Try.prog 33 #[L.val ao cap, .int .u64 c, .int .i64 b] w fun e w' => ∃ ao' cap', e = .returned ((raiseL L c b).val ao' cap') ∧ Mine w' w.heap.size 5 ao' cap' (raiseL L c b).key ∧ Below w.heap.size w w' := by
  obtain ⟨hl, hcur0, hcur1, hnext0, hnext1, hsend0, hsend1, hceil0, hceil1, hs⟩ := hf
  obtain ⟨key, side, cur, next, send, ceil, sec, nano⟩ := L
  unfold Ln.val
  simp only at hl hcur0 hcur1 hnext0 hnext1 hsend0 hsend1 hceil0 hceil1 hs hr hok h1 ⊢
  have hma : mayS ⟨key, side, cur, next, send, ceil, sec, nano⟩ c b = true := by simp [mayS, hok, hbk, h1, h2]
  have hy : raiseL ⟨key, side, cur, next, send, ceil, sec, nano⟩ c b = Ln.keep ⟨key, side, cur, next, send, ceil, sec, nano⟩ cur next send (upF c b) sec nano := by simp [raiseL, hma]
  rw [hy]
  unfold Ln.keep
  have HOK := Lib.hid hok
  have HBK := Lib.hid hbk
  clear hy hma hok hbk
  go_enter Try.func33, Try.ntmps33
  go_wp2_with fail
  refine (refLaneValid ⟨key, side, cur, next, send, ceil, sec, nano⟩ ao cap _).mono ?_
  rintro e w1 ⟨rfl, hb⟩
  rw [HOK.out]
  have hz := hb.size
  simp only [alloc_size] at hz
  have hB := (((Below.refl _ w).alloc (Nat.le_refl _) _).alloc (by simp only [alloc_size]; omega) _).trans (hb.mono (by simp only [alloc_size]; omega))
  have x0 : w1.heap[w.heap.size]? = some (.cells #[.slice ao key.length cap, .int .i64 side, .int .i64 cur, .int .i64 next, .int .u64 send, .int .u64 ceil, .int .i64 sec, .int .i64 nano] 27 (0, 0)) := (hb_block hb (w.heap.size) (by simp only [alloc_size]; omega)).trans (by simp only [alloc_get, alloc_size]; repeat first | rw [if_pos trivial] | rw [if_neg (by omega)] | rw [if_pos (by omega)])
  have x1 : w1.heap[w.heap.size + 1]? = some (.cells #[.slice none 0 0, .int .i64 0, .int .i64 0, .int .i64 0, .int .u64 0, .int .u64 0, .int .i64 0, .int .i64 0] 27 (0, 0)) := (hb_block hb (w.heap.size + 1) (by simp only [alloc_size]; omega)).trans (by simp only [alloc_get, alloc_size]; repeat first | rw [if_pos trivial] | rw [if_neg (by omega)] | rw [if_pos (by omega)])
  clear hb
  have a0 : w1.cell? ⟨w.heap.size, 0, none⟩ = some (.slice ao key.length cap) := cell_of_row w1 (w.heap.size) 0 _ _ _ x0
  have a1 : w1.cell? ⟨w.heap.size, 1, none⟩ = some (.int .i64 side) := cell_of_row w1 (w.heap.size) 1 _ _ _ x0
  have a2 : w1.cell? ⟨w.heap.size, 2, none⟩ = some (.int .i64 cur) := cell_of_row w1 (w.heap.size) 2 _ _ _ x0
  have a3 : w1.cell? ⟨w.heap.size, 3, none⟩ = some (.int .i64 next) := cell_of_row w1 (w.heap.size) 3 _ _ _ x0
  have a4 : w1.cell? ⟨w.heap.size, 4, none⟩ = some (.int .u64 send) := cell_of_row w1 (w.heap.size) 4 _ _ _ x0
  have a5 : w1.cell? ⟨w.heap.size, 5, none⟩ = some (.int .u64 ceil) := cell_of_row w1 (w.heap.size) 5 _ _ _ x0
  have a6 : w1.cell? ⟨w.heap.size, 6, none⟩ = some (.int .i64 sec) := cell_of_row w1 (w.heap.size) 6 _ _ _ x0
  have a7 : w1.cell? ⟨w.heap.size, 7, none⟩ = some (.int .i64 nano) := cell_of_row w1 (w.heap.size) 7 _ _ _ x0
  have af (i : Nat) : w1.frozen? ⟨w.heap.size, i, none⟩ = false := frozen_of_row w1 (w.heap.size) i _ _ x0
  have b0 : w1.cell? ⟨w.heap.size + 1, 0, none⟩ = some (.slice none 0 0) := cell_of_row w1 (w.heap.size + 1) 0 _ _ _ x1
  have b1 : w1.cell? ⟨w.heap.size + 1, 1, none⟩ = some (.int .i64 0) := cell_of_row w1 (w.heap.size + 1) 1 _ _ _ x1
  have b2 : w1.cell? ⟨w.heap.size + 1, 2, none⟩ = some (.int .i64 0) := cell_of_row w1 (w.heap.size + 1) 2 _ _ _ x1
  have b3 : w1.cell? ⟨w.heap.size + 1, 3, none⟩ = some (.int .i64 0) := cell_of_row w1 (w.heap.size + 1) 3 _ _ _ x1
  have b4 : w1.cell? ⟨w.heap.size + 1, 4, none⟩ = some (.int .u64 0) := cell_of_row w1 (w.heap.size + 1) 4 _ _ _ x1
  have b5 : w1.cell? ⟨w.heap.size + 1, 5, none⟩ = some (.int .u64 0) := cell_of_row w1 (w.heap.size + 1) 5 _ _ _ x1
  have b6 : w1.cell? ⟨w.heap.size + 1, 6, none⟩ = some (.int .i64 0) := cell_of_row w1 (w.heap.size + 1) 6 _ _ _ x1
  have b7 : w1.cell? ⟨w.heap.size + 1, 7, none⟩ = some (.int .i64 0) := cell_of_row w1 (w.heap.size + 1) 7 _ _ _ x1
  have bf (i : Nat) : w1.frozen? ⟨w.heap.size + 1, i, none⟩ = false := frozen_of_row w1 (w.heap.size + 1) i _ _ x1
  have X0 := Lib.hid x0
  have X1 := Lib.hid x1
  clear x0 x1 
  go_wp2_with fail
  refine (refBlocks b _).mono ?_
  rintro e w2 ⟨rfl, hw⟩
  obtain rfl := hw.symm
  rw [HBK.out]
  go_wp2_with fail
  refine (refLane ⟨key, side, cur, next, send, ceil, sec, nano⟩ ao cap _ hl (hr.on hB)).mono ?_
  rintro e V ⟨ar, cr, he, hm, hb⟩
  obtain rfl : e = .returned (.agg #[.slice ar key.length cr, .int .i64 side, .int .i64 cur, .int .i64 next, .int .u64 send, .int .u64 ceil, .int .i64 sec, .int .i64 nano]) := he
  have x0 : V.heap[w.heap.size]? = some (.cells #[.slice ao key.length cap, .int .i64 side, .int .i64 cur, .int .i64 next, .int .u64 send, .int .u64 ceil, .int .i64 sec, .int .i64 nano] 27 (0, 0)) := (hb.block (w.heap.size) (by omega)).trans X0.out
  have x1 : V.heap[w.heap.size + 1]? = some (.cells #[.slice none 0 0, .int .i64 0, .int .i64 0, .int .i64 0, .int .u64 0, .int .u64 0, .int .i64 0, .int .i64 0] 27 (0, 0)) := (hb.block (w.heap.size + 1) (by omega)).trans X1.out
  have hzV := hb.size
  have hBV := hB.trans (hb.mono (by omega))
  have hlt0 : w.heap.size < V.heap.size := by omega
  have hlt1 : w.heap.size + 1 < V.heap.size := by omega
  clear hb hB X0 X1 
  clear a0 a1 a2 a3 a4 a5 a6 a7 af
  clear b0 b1 b2 b3 b4 b5 b6 b7 bf
  have a0 : V.cell? ⟨w.heap.size, 0, none⟩ = some (.slice ao key.length cap) := cell_of_row V (w.heap.size) 0 _ _ _ x0
  have a1 : V.cell? ⟨w.heap.size, 1, none⟩ = some (.int .i64 side) := cell_of_row V (w.heap.size) 1 _ _ _ x0
  have a2 : V.cell? ⟨w.heap.size, 2, none⟩ = some (.int .i64 cur) := cell_of_row V (w.heap.size) 2 _ _ _ x0
  have a3 : V.cell? ⟨w.heap.size, 3, none⟩ = some (.int .i64 next) := cell_of_row V (w.heap.size) 3 _ _ _ x0
  have a4 : V.cell? ⟨w.heap.size, 4, none⟩ = some (.int .u64 send) := cell_of_row V (w.heap.size) 4 _ _ _ x0
  have a5 : V.cell? ⟨w.heap.size, 5, none⟩ = some (.int .u64 ceil) := cell_of_row V (w.heap.size) 5 _ _ _ x0
  have a6 : V.cell? ⟨w.heap.size, 6, none⟩ = some (.int .i64 sec) := cell_of_row V (w.heap.size) 6 _ _ _ x0
  have a7 : V.cell? ⟨w.heap.size, 7, none⟩ = some (.int .i64 nano) := cell_of_row V (w.heap.size) 7 _ _ _ x0
  have af (i : Nat) : V.frozen? ⟨w.heap.size, i, none⟩ = false := frozen_of_row V (w.heap.size) i _ _ x0
  have b0 : V.cell? ⟨w.heap.size + 1, 0, none⟩ = some (.slice none 0 0) := cell_of_row V (w.heap.size + 1) 0 _ _ _ x1
  have b1 : V.cell? ⟨w.heap.size + 1, 1, none⟩ = some (.int .i64 0) := cell_of_row V (w.heap.size + 1) 1 _ _ _ x1
  have b2 : V.cell? ⟨w.heap.size + 1, 2, none⟩ = some (.int .i64 0) := cell_of_row V (w.heap.size + 1) 2 _ _ _ x1
  have b3 : V.cell? ⟨w.heap.size + 1, 3, none⟩ = some (.int .i64 0) := cell_of_row V (w.heap.size + 1) 3 _ _ _ x1
  have b4 : V.cell? ⟨w.heap.size + 1, 4, none⟩ = some (.int .u64 0) := cell_of_row V (w.heap.size + 1) 4 _ _ _ x1
  have b5 : V.cell? ⟨w.heap.size + 1, 5, none⟩ = some (.int .u64 0) := cell_of_row V (w.heap.size + 1) 5 _ _ _ x1
  have b6 : V.cell? ⟨w.heap.size + 1, 6, none⟩ = some (.int .i64 0) := cell_of_row V (w.heap.size + 1) 6 _ _ _ x1
  have b7 : V.cell? ⟨w.heap.size + 1, 7, none⟩ = some (.int .i64 0) := cell_of_row V (w.heap.size + 1) 7 _ _ _ x1
  have bf (i : Nat) : V.frozen? ⟨w.heap.size + 1, i, none⟩ = false := frozen_of_row V (w.heap.size + 1) i _ _ x1
  clear x0 x1 
  go_wp2_with fail
  refine (refUp c b hc0 hc1 _).mono ?_
  rintro e V2 ⟨rfl, rfl⟩
  go_wp2_with fail
  refine bodyPost_ret (v := .agg #[.slice ar key.length cr, .int .i64 side, .int .i64 cur, .int .i64 next, .int .u64 send, .int .u64 (upF c b), .int .i64 sec, .int .i64 nano]) (by simp [results, Try.results33, go_sem, hlt1, b0, b1, b2, b3, b4, b5, b6, b7]) rfl ⟨_, _, rfl, ?_, ?_⟩
  · refine Mine.from (B := w.heap.size + 2) ?_ (by omega)
    refine Mine.below ?_ (fresh1 _ _)
    iterate 8 (refine Mine.setCell ?_ _ _ _ (by omega))
    exact Mine.from hm (by omega)
  · refine below_push ?_
    iterate 8 (refine Below.set ?_ _ _ _ (by omega))
    exact hBV
set_option maxHeartbeats 800000 in
theorem refRaise (L : Ln) (ao : Option Addr) (cap : Nat) (c b : Int) (hc0 : 0 ≤ c) (hc1 : c ≤ 18446744073709551615) (w : World) (hf : L.fits) (hr : Rd w ao L.key) :
   Calls Try.prog 33 #[L.val ao cap, .int .u64 c, .int .i64 b] w fun e w' => ∃ ao' cap', e = .returned ((raiseL L c b).val ao' cap') ∧ Mine w' w.heap.size 5 ao' cap' (raiseL L c b).key ∧ Below w.heap.size w w' := by
  by_cases hok : L.ok = true
  · by_cases hbk : blkB b = true
    · by_cases h1 : L.ceil ≤ c
      · by_cases h2 : c ≤ 18446744073709551614
        · exact refRaise_y L ao cap c b hc0 hc1 w hf hr hok hbk h1 h2
        · exact refRaise_n3 L ao cap c b hc0 hc1 w hf hr hok hbk h1 h2
      · exact refRaise_n2 L ao cap c b hc0 hc1 w hf hr hok hbk h1
    · exact refRaise_n1 L ao cap c b hc0 hc1 w hf hr hok (by simpa using hbk)
  · exact refRaise_n0 L ao cap c b hc0 hc1 w hf hr  (by simpa using hok)
end Go.Proofs.Ytihndipgdogebaa
