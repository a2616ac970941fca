/- What the program's calls make of a lane. -/
import Derived.Test.YtihndipgdogebaaLane7
namespace Go.Proofs.Ytihndipgdogebaa
open Go.RowKit
set_option maxHeartbeats 1600000 in
theorem laneOpened_n0 (L : Ln) (ao : Option Addr) (cap : Nat) (g c b : Int) (_hc0 : 0 ≤ c) (_hc1 : c ≤ 18446744073709551615) (w : World) (hf : L.fits) (hr : Rd w ao L.key) (hb : blkB b = false) :
   Calls Try.prog 30 #[L.val ao cap, .int .i64 g, .int .u64 c, .int .i64 b] w fun e w' => ∃ ao' cap', e = .returned ((openedL L g c b).val ao' cap') ∧ Mine w' w.heap.size 5 ao' cap' (openedL L g c b).key ∧ Below w.heap.size w w' := by
  obtain ⟨hl, hcur0, hcur1, hnext0, hnext1, hsend0, hsend1, hceil0, hceil1, hs⟩ := hf
  obtain ⟨key, side, cur, next, send, ceil, sec, nano⟩ := L
  unfold Ln.val
  simp only at hl hcur0 hcur1 hnext0 hnext1 hsend0 hsend1 hceil0 hceil1 hs hr ⊢
  have hz : openedL ⟨key, side, cur, next, send, ceil, sec, nano⟩ g c b = Ln.zero := by
    have : mayO ⟨key, side, cur, next, send, ceil, sec, nano⟩ g c b = false := by simp [mayO, hb]
    simp [openedL, this]
  rw [hz]
  unfold Ln.zero
  have HB := Lib.hid (show blkB b = false from hb)
  clear hb hz
  go_enter Try.func30, Try.ntmps30
  go_wp2_with fail
  refine (laneBlock b _).mono ?_
  rintro e w1 ⟨rfl, rfl⟩
  rw [HB.out]
  go_wp2_with fail
  refine (laneChanged0 ⟨key, side, cur, next, send, ceil, sec, nano⟩ ao cap false _ _ hs (by simp)).mono ?_
  rintro e w2 ⟨he, hb2⟩
  obtain rfl : e = .returned (.agg #[.slice none 0 0, .int .i64 0, .int .i64 0, .int .i64 0, .int .u64 0, .int .u64 0, .int .i64 0, .int .i64 0]) := he
  have y : w2.heap[w.heap.size + 4]? = some (.cells #[.slice none 0 0, .int .i64 0, .int .i64 0, .int .i64 0, .int .u64 0, .int .u64 0, .int .i64 0, .int .i64 0] 27 (0, 0)) := (hb_block hb2 (w.heap.size + 4) (by simp only [alloc_size]; omega)).trans (by simp only [alloc_get, alloc_size]; repeat first | rw [if_pos trivial] | rw [if_neg (by omega)] | rw [if_pos (by omega)])
  have b0 : w2.cell? ⟨w.heap.size + 4, 0, none⟩ = some (.slice none 0 0) := cell_of_row w2 (w.heap.size + 4) 0 _ _ _ y
  have b1 : w2.cell? ⟨w.heap.size + 4, 1, none⟩ = some (.int .i64 0) := cell_of_row w2 (w.heap.size + 4) 1 _ _ _ y
  have b2 : w2.cell? ⟨w.heap.size + 4, 2, none⟩ = some (.int .i64 0) := cell_of_row w2 (w.heap.size + 4) 2 _ _ _ y
  have b3 : w2.cell? ⟨w.heap.size + 4, 3, none⟩ = some (.int .i64 0) := cell_of_row w2 (w.heap.size + 4) 3 _ _ _ y
  have b4 : w2.cell? ⟨w.heap.size + 4, 4, none⟩ = some (.int .u64 0) := cell_of_row w2 (w.heap.size + 4) 4 _ _ _ y
  have b5 : w2.cell? ⟨w.heap.size + 4, 5, none⟩ = some (.int .u64 0) := cell_of_row w2 (w.heap.size + 4) 5 _ _ _ y
  have b6 : w2.cell? ⟨w.heap.size + 4, 6, none⟩ = some (.int .i64 0) := cell_of_row w2 (w.heap.size + 4) 6 _ _ _ y
  have b7 : w2.cell? ⟨w.heap.size + 4, 7, none⟩ = some (.int .i64 0) := cell_of_row w2 (w.heap.size + 4) 7 _ _ _ y
  have bf (i : Nat) : w2.frozen? ⟨w.heap.size + 4, i, none⟩ = false := frozen_of_row w2 (w.heap.size + 4) i _ _ y
  clear y
  go_wp2_with fail
  refine bodyPost_ret (v := .agg #[.slice none 0 0, .int .i64 0, .int .i64 0, .int .i64 0, .int .u64 0, .int .u64 0, .int .i64 0, .int .i64 0]) (by simp [results, Try.results30, go_sem, b0, b1, b2, b3, b4, b5, b6, b7]) rfl ⟨_, _, rfl, ?_, ?_⟩
  · exact Or.inl ⟨rfl, rfl, rfl⟩
  · iterate 8 (refine Below.set ?_ _ _ _ (by omega))
    exact ((((((Below.refl _ w).alloc (Nat.le_refl _) _).alloc (by simp only [alloc_size]; omega) _).alloc (by simp only [alloc_size]; omega) _).alloc (by simp only [alloc_size]; omega) _).alloc (by simp only [alloc_size]; omega) _).trans (hb2.mono (by simp only [alloc_size]; omega))
set_option maxHeartbeats 1600000 in
theorem laneOpened_n1 (L : Ln) (ao : Option Addr) (cap : Nat) (g c b : Int) (_hc0 : 0 ≤ c) (_hc1 : c ≤ 18446744073709551615) (w : World) (hf : L.fits) (hr : Rd w ao L.key) (hb : blkB b = true) (h1 : ¬ L.cur < g) :
   Calls Try.prog 30 #[L.val ao cap, .int .i64 g, .int .u64 c, .int .i64 b] w fun e w' => ∃ ao' cap', e = .returned ((openedL L g c b).val ao' cap') ∧ Mine w' w.heap.size 5 ao' cap' (openedL L g c b).key ∧ Below w.heap.size w w' := by
  obtain ⟨hl, hcur0, hcur1, hnext0, hnext1, hsend0, hsend1, hceil0, hceil1, hs⟩ := hf
  obtain ⟨key, side, cur, next, send, ceil, sec, nano⟩ := L
  unfold Ln.val
  simp only at hl hcur0 hcur1 hnext0 hnext1 hsend0 hsend1 hceil0 hceil1 hs hr h1 ⊢
  have hz : openedL ⟨key, side, cur, next, send, ceil, sec, nano⟩ g c b = Ln.zero := by
    have : mayO ⟨key, side, cur, next, send, ceil, sec, nano⟩ g c b = false := by simp [mayO, hb, h1]
    simp [openedL, this]
  rw [hz]
  unfold Ln.zero
  have HB := Lib.hid (show blkB b = true from hb)
  clear hb hz
  go_enter Try.func30, Try.ntmps30
  go_wp2_with fail
  refine (laneBlock b _).mono ?_
  rintro e w1 ⟨rfl, rfl⟩
  rw [HB.out]
  go_wp2_with fail
  refine (laneChanged0 ⟨key, side, cur, next, send, ceil, sec, nano⟩ ao cap false _ _ hs (by simp)).mono ?_
  rintro e w2 ⟨he, hb2⟩
  obtain rfl : e = .returned (.agg #[.slice none 0 0, .int .i64 0, .int .i64 0, .int .i64 0, .int .u64 0, .int .u64 0, .int .i64 0, .int .i64 0]) := he
  have y : w2.heap[w.heap.size + 4]? = some (.cells #[.slice none 0 0, .int .i64 0, .int .i64 0, .int .i64 0, .int .u64 0, .int .u64 0, .int .i64 0, .int .i64 0] 27 (0, 0)) := (hb_block hb2 (w.heap.size + 4) (by simp only [alloc_size]; omega)).trans (by simp only [alloc_get, alloc_size]; repeat first | rw [if_pos trivial] | rw [if_neg (by omega)] | rw [if_pos (by omega)])
  have b0 : w2.cell? ⟨w.heap.size + 4, 0, none⟩ = some (.slice none 0 0) := cell_of_row w2 (w.heap.size + 4) 0 _ _ _ y
  have b1 : w2.cell? ⟨w.heap.size + 4, 1, none⟩ = some (.int .i64 0) := cell_of_row w2 (w.heap.size + 4) 1 _ _ _ y
  have b2 : w2.cell? ⟨w.heap.size + 4, 2, none⟩ = some (.int .i64 0) := cell_of_row w2 (w.heap.size + 4) 2 _ _ _ y
  have b3 : w2.cell? ⟨w.heap.size + 4, 3, none⟩ = some (.int .i64 0) := cell_of_row w2 (w.heap.size + 4) 3 _ _ _ y
  have b4 : w2.cell? ⟨w.heap.size + 4, 4, none⟩ = some (.int .u64 0) := cell_of_row w2 (w.heap.size + 4) 4 _ _ _ y
  have b5 : w2.cell? ⟨w.heap.size + 4, 5, none⟩ = some (.int .u64 0) := cell_of_row w2 (w.heap.size + 4) 5 _ _ _ y
  have b6 : w2.cell? ⟨w.heap.size + 4, 6, none⟩ = some (.int .i64 0) := cell_of_row w2 (w.heap.size + 4) 6 _ _ _ y
  have b7 : w2.cell? ⟨w.heap.size + 4, 7, none⟩ = some (.int .i64 0) := cell_of_row w2 (w.heap.size + 4) 7 _ _ _ y
  have bf (i : Nat) : w2.frozen? ⟨w.heap.size + 4, i, none⟩ = false := frozen_of_row w2 (w.heap.size + 4) i _ _ y
  clear y
  go_wp2_with fail
  refine bodyPost_ret (v := .agg #[.slice none 0 0, .int .i64 0, .int .i64 0, .int .i64 0, .int .u64 0, .int .u64 0, .int .i64 0, .int .i64 0]) (by simp [results, Try.results30, go_sem, b0, b1, b2, b3, b4, b5, b6, b7]) rfl ⟨_, _, rfl, ?_, ?_⟩
  · exact Or.inl ⟨rfl, rfl, rfl⟩
  · iterate 8 (refine Below.set ?_ _ _ _ (by omega))
    exact ((((((Below.refl _ w).alloc (Nat.le_refl _) _).alloc (by simp only [alloc_size]; omega) _).alloc (by simp only [alloc_size]; omega) _).alloc (by simp only [alloc_size]; omega) _).alloc (by simp only [alloc_size]; omega) _).trans (hb2.mono (by simp only [alloc_size]; omega))
set_option maxHeartbeats 1600000 in
theorem laneOpened_n2 (L : Ln) (ao : Option Addr) (cap : Nat) (g c b : Int) (_hc0 : 0 ≤ c) (_hc1 : c ≤ 18446744073709551615) (w : World) (hf : L.fits) (hr : Rd w ao L.key) (hb : blkB b = true) (h1 : L.cur < g) (h2 : ¬ g ≤ L.next) :
   Calls Try.prog 30 #[L.val ao cap, .int .i64 g, .int .u64 c, .int .i64 b] w fun e w' => ∃ ao' cap', e = .returned ((openedL L g c b).val ao' cap') ∧ Mine w' w.heap.size 5 ao' cap' (openedL L g c b).key ∧ Below w.heap.size w w' := by
  obtain ⟨hl, hcur0, hcur1, hnext0, hnext1, hsend0, hsend1, hceil0, hceil1, hs⟩ := hf
  obtain ⟨key, side, cur, next, send, ceil, sec, nano⟩ := L
  unfold Ln.val
  simp only at hl hcur0 hcur1 hnext0 hnext1 hsend0 hsend1 hceil0 hceil1 hs hr h1 h2 ⊢
  have hz : openedL ⟨key, side, cur, next, send, ceil, sec, nano⟩ g c b = Ln.zero := by
    have : mayO ⟨key, side, cur, next, send, ceil, sec, nano⟩ g c b = false := by simp [mayO, hb, h1, h2]
    simp [openedL, this]
  rw [hz]
  unfold Ln.zero
  have HB := Lib.hid (show blkB b = true from hb)
  clear hb hz
  go_enter Try.func30, Try.ntmps30
  go_wp2_with fail
  refine (laneBlock b _).mono ?_
  rintro e w1 ⟨rfl, rfl⟩
  rw [HB.out]
  go_wp2_with fail
  refine (laneChanged0 ⟨key, side, cur, next, send, ceil, sec, nano⟩ ao cap false _ _ hs (by simp)).mono ?_
  rintro e w2 ⟨he, hb2⟩
  obtain rfl : e = .returned (.agg #[.slice none 0 0, .int .i64 0, .int .i64 0, .int .i64 0, .int .u64 0, .int .u64 0, .int .i64 0, .int .i64 0]) := he
  have y : w2.heap[w.heap.size + 4]? = some (.cells #[.slice none 0 0, .int .i64 0, .int .i64 0, .int .i64 0, .int .u64 0, .int .u64 0, .int .i64 0, .int .i64 0] 27 (0, 0)) := (hb_block hb2 (w.heap.size + 4) (by simp only [alloc_size]; omega)).trans (by simp only [alloc_get, alloc_size]; repeat first | rw [if_pos trivial] | rw [if_neg (by omega)] | rw [if_pos (by omega)])
  have b0 : w2.cell? ⟨w.heap.size + 4, 0, none⟩ = some (.slice none 0 0) := cell_of_row w2 (w.heap.size + 4) 0 _ _ _ y
  have b1 : w2.cell? ⟨w.heap.size + 4, 1, none⟩ = some (.int .i64 0) := cell_of_row w2 (w.heap.size + 4) 1 _ _ _ y
  have b2 : w2.cell? ⟨w.heap.size + 4, 2, none⟩ = some (.int .i64 0) := cell_of_row w2 (w.heap.size + 4) 2 _ _ _ y
  have b3 : w2.cell? ⟨w.heap.size + 4, 3, none⟩ = some (.int .i64 0) := cell_of_row w2 (w.heap.size + 4) 3 _ _ _ y
  have b4 : w2.cell? ⟨w.heap.size + 4, 4, none⟩ = some (.int .u64 0) := cell_of_row w2 (w.heap.size + 4) 4 _ _ _ y
  have b5 : w2.cell? ⟨w.heap.size + 4, 5, none⟩ = some (.int .u64 0) := cell_of_row w2 (w.heap.size + 4) 5 _ _ _ y
  have b6 : w2.cell? ⟨w.heap.size + 4, 6, none⟩ = some (.int .i64 0) := cell_of_row w2 (w.heap.size + 4) 6 _ _ _ y
  have b7 : w2.cell? ⟨w.heap.size + 4, 7, none⟩ = some (.int .i64 0) := cell_of_row w2 (w.heap.size + 4) 7 _ _ _ y
  have bf (i : Nat) : w2.frozen? ⟨w.heap.size + 4, i, none⟩ = false := frozen_of_row w2 (w.heap.size + 4) i _ _ y
  clear y
  go_wp2_with fail
  refine bodyPost_ret (v := .agg #[.slice none 0 0, .int .i64 0, .int .i64 0, .int .i64 0, .int .u64 0, .int .u64 0, .int .i64 0, .int .i64 0]) (by simp [results, Try.results30, go_sem, b0, b1, b2, b3, b4, b5, b6, b7]) rfl ⟨_, _, rfl, ?_, ?_⟩
  · exact Or.inl ⟨rfl, rfl, rfl⟩
  · iterate 8 (refine Below.set ?_ _ _ _ (by omega))
    exact ((((((Below.refl _ w).alloc (Nat.le_refl _) _).alloc (by simp only [alloc_size]; omega) _).alloc (by simp only [alloc_size]; omega) _).alloc (by simp only [alloc_size]; omega) _).alloc (by simp only [alloc_size]; omega) _).trans (hb2.mono (by simp only [alloc_size]; omega))
set_option maxHeartbeats 1600000 in
theorem laneOpened_n3 (L : Ln) (ao : Option Addr) (cap : Nat) (g c b : Int) (hc0 : 0 ≤ c) (hc1 : c ≤ 18446744073709551615) (w : World) (hf : L.fits) (hr : Rd w ao L.key) (hb : blkB b = true) (h1 : L.cur < g) (h2 : g ≤ L.next) (h3 : ¬ c ≤ 18446744073709551614) :
   Calls Try.prog 30 #[L.val ao cap, .int .i64 g, .int .u64 c, .int .i64 b] w fun e w' => ∃ ao' cap', e = .returned ((openedL L g c b).val ao' cap') ∧ Mine w' w.heap.size 5 ao' cap' (openedL L g c b).key ∧ Below w.heap.size w w' := by
  obtain ⟨hl, hcur0, hcur1, hnext0, hnext1, hsend0, hsend1, hceil0, hceil1, hs⟩ := hf
  obtain ⟨key, side, cur, next, send, ceil, sec, nano⟩ := L
  unfold Ln.val
  simp only at hl hcur0 hcur1 hnext0 hnext1 hsend0 hsend1 hceil0 hceil1 hs hr h1 h2 h3 ⊢
  obtain rfl : c = 18446744073709551615 := by omega
  clear h3 hc0 hc1
  have hz : openedL ⟨key, side, cur, next, send, ceil, sec, nano⟩ g 18446744073709551615 b = Ln.zero := by
    have : mayO ⟨key, side, cur, next, send, ceil, sec, nano⟩ g 18446744073709551615 b = false := by simp [mayO, hb, h1, h2]
    simp [openedL, this]
  rw [hz]
  unfold Ln.zero
  have HB := Lib.hid (show blkB b = true from hb)
  clear hb hz
  go_enter Try.func30, Try.ntmps30
  go_wp2_with fail
  refine (laneBlock b _).mono ?_
  rintro e w1 ⟨rfl, rfl⟩
  rw [HB.out]
  go_wp2_with fail
  refine (laneChanged0 ⟨key, side, cur, next, send, ceil, sec, nano⟩ ao cap false _ _ hs (by simp)).mono ?_
  rintro e w2 ⟨he, hb2⟩
  obtain rfl : e = .returned (.agg #[.slice none 0 0, .int .i64 0, .int .i64 0, .int .i64 0, .int .u64 0, .int .u64 0, .int .i64 0, .int .i64 0]) := he
  have y : w2.heap[w.heap.size + 4]? = some (.cells #[.slice none 0 0, .int .i64 0, .int .i64 0, .int .i64 0, .int .u64 0, .int .u64 0, .int .i64 0, .int .i64 0] 27 (0, 0)) := (hb_block hb2 (w.heap.size + 4) (by simp only [alloc_size]; omega)).trans (by simp only [alloc_get, alloc_size]; repeat first | rw [if_pos trivial] | rw [if_neg (by omega)] | rw [if_pos (by omega)])
  have b0 : w2.cell? ⟨w.heap.size + 4, 0, none⟩ = some (.slice none 0 0) := cell_of_row w2 (w.heap.size + 4) 0 _ _ _ y
  have b1 : w2.cell? ⟨w.heap.size + 4, 1, none⟩ = some (.int .i64 0) := cell_of_row w2 (w.heap.size + 4) 1 _ _ _ y
  have b2 : w2.cell? ⟨w.heap.size + 4, 2, none⟩ = some (.int .i64 0) := cell_of_row w2 (w.heap.size + 4) 2 _ _ _ y
  have b3 : w2.cell? ⟨w.heap.size + 4, 3, none⟩ = some (.int .i64 0) := cell_of_row w2 (w.heap.size + 4) 3 _ _ _ y
  have b4 : w2.cell? ⟨w.heap.size + 4, 4, none⟩ = some (.int .u64 0) := cell_of_row w2 (w.heap.size + 4) 4 _ _ _ y
  have b5 : w2.cell? ⟨w.heap.size + 4, 5, none⟩ = some (.int .u64 0) := cell_of_row w2 (w.heap.size + 4) 5 _ _ _ y
  have b6 : w2.cell? ⟨w.heap.size + 4, 6, none⟩ = some (.int .i64 0) := cell_of_row w2 (w.heap.size + 4) 6 _ _ _ y
  have b7 : w2.cell? ⟨w.heap.size + 4, 7, none⟩ = some (.int .i64 0) := cell_of_row w2 (w.heap.size + 4) 7 _ _ _ y
  have bf (i : Nat) : w2.frozen? ⟨w.heap.size + 4, i, none⟩ = false := frozen_of_row w2 (w.heap.size + 4) i _ _ y
  clear y
  go_wp2_with fail
  refine bodyPost_ret (v := .agg #[.slice none 0 0, .int .i64 0, .int .i64 0, .int .i64 0, .int .u64 0, .int .u64 0, .int .i64 0, .int .i64 0]) (by simp [results, Try.results30, go_sem, b0, b1, b2, b3, b4, b5, b6, b7]) rfl ⟨_, _, rfl, ?_, ?_⟩
  · exact Or.inl ⟨rfl, rfl, rfl⟩
  · iterate 8 (refine Below.set ?_ _ _ _ (by omega))
    exact ((((((Below.refl _ w).alloc (Nat.le_refl _) _).alloc (by simp only [alloc_size]; omega) _).alloc (by simp only [alloc_size]; omega) _).alloc (by simp only [alloc_size]; omega) _).alloc (by simp only [alloc_size]; omega) _).trans (hb2.mono (by simp only [alloc_size]; omega))
set_option maxHeartbeats 1600000 in
theorem laneOpened_no (L : Ln) (ao : Option Addr) (cap : Nat) (g c b : Int) (_hc0 : 0 ≤ c) (_hc1 : c ≤ 18446744073709551615) (w : World) (hf : L.fits) (hr : Rd w ao L.key) (hb : blkB b = true) (h1 : L.cur < g) (h2 : g ≤ L.next) (h3 : c ≤ 18446744073709551614) (hok' : L.ok = false) :
   Calls Try.prog 30 #[L.val ao cap, .int .i64 g, .int .u64 c, .int .i64 b] w fun e w' => ∃ ao' cap', e = .returned ((openedL L g c b).val ao' cap') ∧ Mine w' w.heap.size 5 ao' cap' (openedL L g c b).key ∧ Below w.heap.size w w' := by
  obtain ⟨hl, hcur0, hcur1, hnext0, hnext1, hsend0, hsend1, hceil0, hceil1, hs⟩ := hf
  obtain ⟨key, side, cur, next, send, ceil, sec, nano⟩ := L
  unfold Ln.val
  simp only at hl hcur0 hcur1 hnext0 hnext1 hsend0 hsend1 hceil0 hceil1 hs hr h1 h2 h3 hok' ⊢
  have hno : (true && Ln.ok ⟨key, side, cur, next, send, ceil, sec, nano⟩) = false := by simpa using hok'
  have hz : openedL ⟨key, side, cur, next, send, ceil, sec, nano⟩ g c b = Ln.zero := by
    have : mayO ⟨key, side, cur, next, send, ceil, sec, nano⟩ g c b = false := by simp [mayO, hb, h1, h2, h3, hok']
    simp [openedL, this]
  rw [hz]
  unfold Ln.zero
  have HB := Lib.hid (show blkB b = true from hb)
  clear hb hz
  go_enter Try.func30, Try.ntmps30
  go_wp2_with fail
  refine (laneBlock b _).mono ?_
  rintro e w1 ⟨rfl, rfl⟩
  rw [HB.out]
  go_wp2_with fail
  refine (laneChanged0 ⟨key, side, cur, next, send, ceil, sec, nano⟩ ao cap true _ _ hs hno).mono ?_
  rintro e w2 ⟨he, hb2⟩
  obtain rfl : e = .returned (.agg #[.slice none 0 0, .int .i64 0, .int .i64 0, .int .i64 0, .int .u64 0, .int .u64 0, .int .i64 0, .int .i64 0]) := he
  have y : w2.heap[w.heap.size + 4]? = some (.cells #[.slice none 0 0, .int .i64 0, .int .i64 0, .int .i64 0, .int .u64 0, .int .u64 0, .int .i64 0, .int .i64 0] 27 (0, 0)) := (hb_block hb2 (w.heap.size + 4) (by simp only [alloc_size]; omega)).trans (by simp only [alloc_get, alloc_size]; repeat first | rw [if_pos trivial] | rw [if_neg (by omega)] | rw [if_pos (by omega)])
  have b0 : w2.cell? ⟨w.heap.size + 4, 0, none⟩ = some (.slice none 0 0) := cell_of_row w2 (w.heap.size + 4) 0 _ _ _ y
  have b1 : w2.cell? ⟨w.heap.size + 4, 1, none⟩ = some (.int .i64 0) := cell_of_row w2 (w.heap.size + 4) 1 _ _ _ y
  have b2 : w2.cell? ⟨w.heap.size + 4, 2, none⟩ = some (.int .i64 0) := cell_of_row w2 (w.heap.size + 4) 2 _ _ _ y
  have b3 : w2.cell? ⟨w.heap.size + 4, 3, none⟩ = some (.int .i64 0) := cell_of_row w2 (w.heap.size + 4) 3 _ _ _ y
  have b4 : w2.cell? ⟨w.heap.size + 4, 4, none⟩ = some (.int .u64 0) := cell_of_row w2 (w.heap.size + 4) 4 _ _ _ y
  have b5 : w2.cell? ⟨w.heap.size + 4, 5, none⟩ = some (.int .u64 0) := cell_of_row w2 (w.heap.size + 4) 5 _ _ _ y
  have b6 : w2.cell? ⟨w.heap.size + 4, 6, none⟩ = some (.int .i64 0) := cell_of_row w2 (w.heap.size + 4) 6 _ _ _ y
  have b7 : w2.cell? ⟨w.heap.size + 4, 7, none⟩ = some (.int .i64 0) := cell_of_row w2 (w.heap.size + 4) 7 _ _ _ y
  have bf (i : Nat) : w2.frozen? ⟨w.heap.size + 4, i, none⟩ = false := frozen_of_row w2 (w.heap.size + 4) i _ _ y
  clear y
  go_wp2_with fail
  refine bodyPost_ret (v := .agg #[.slice none 0 0, .int .i64 0, .int .i64 0, .int .i64 0, .int .u64 0, .int .u64 0, .int .i64 0, .int .i64 0]) (by simp [results, Try.results30, go_sem, b0, b1, b2, b3, b4, b5, b6, b7]) rfl ⟨_, _, rfl, ?_, ?_⟩
  · exact Or.inl ⟨rfl, rfl, rfl⟩
  · iterate 8 (refine Below.set ?_ _ _ _ (by omega))
    exact ((((((Below.refl _ w).alloc (Nat.le_refl _) _).alloc (by simp only [alloc_size]; omega) _).alloc (by simp only [alloc_size]; omega) _).alloc (by simp only [alloc_size]; omega) _).alloc (by simp only [alloc_size]; omega) _).trans (hb2.mono (by simp only [alloc_size]; omega))
set_option maxHeartbeats 1600000 in
theorem laneOpened_yes (L : Ln) (ao : Option Addr) (cap : Nat) (g c b : Int) (hc0 : 0 ≤ c) (hc1 : c ≤ 18446744073709551615) (w : World) (hf : L.fits) (hr : Rd w ao L.key) (hb : blkB b = true) (h1 : L.cur < g) (h2 : g ≤ L.next) (h3 : c ≤ 18446744073709551614) (hok : L.ok = true) :
   Calls Try.prog 30 #[L.val ao cap, .int .i64 g, .int .u64 c, .int .i64 b] w fun e w' => ∃ ao' cap', e = .returned ((openedL L g c b).val ao' cap') ∧ Mine w' w.heap.size 5 ao' cap' (openedL L g c b).key ∧ Below w.heap.size w w' := by
  obtain ⟨hl, hcur0, hcur1, hnext0, hnext1, hsend0, hsend1, hceil0, hceil1, hs⟩ := hf
  obtain ⟨key, side, cur, next, send, ceil, sec, nano⟩ := L
  unfold Ln.val
  simp only at hl hcur0 hcur1 hnext0 hnext1 hsend0 hsend1 hceil0 hceil1 hs hr h1 h2 h3 hok ⊢
  have hy : openedL ⟨key, side, cur, next, send, ceil, sec, nano⟩ g c b = Ln.keep ⟨key, side, cur, next, send, ceil, sec, nano⟩ g next (upF 1 b) (upF c b) sec nano := by
    have : mayO ⟨key, side, cur, next, send, ceil, sec, nano⟩ g c b = true := by simp [mayO, hb, hok, h1, h2, h3]
    simp [openedL, this]
  rw [hy]
  have HB := Lib.hid (show blkB b = true from hb)
  have HK := Lib.hid hok
  clear hb hy hok
  unfold Ln.keep
  go_enter Try.func30, Try.ntmps30
  go_wp2_with fail
  refine (laneBlock b _).mono ?_
  rintro e w1 ⟨rfl, rfl⟩
  rw [HB.out]
  go_wp2_with fail
  refine (laneChanged1 ⟨key, side, cur, next, send, ceil, sec, nano⟩ g next (upF 1 b) (upF c b) sec nano ao cap 57 _ _ hs HK.out ?hrw (fun _ _ => rfl) ?hclo).mono ?_
  case hrw => exact hr.on ((((((Below.refl _ w).alloc (Nat.le_refl _) _).alloc (by simp only [alloc_size]; omega) _).alloc (by simp only [alloc_size]; omega) _).alloc (by simp only [alloc_size]; omega) _).alloc (by simp only [alloc_size]; omega) _)
  case hclo =>
    intro W gg ar cr hB hg hx
    exact cloOpened W gg ar cr key side cur next send ceil sec nano hx (w.heap.size + 1) g (w.heap.size + 3) b (w.heap.size + 2) c (by have h := hg; simp only [alloc_size] at h; omega) ((hB.cell (by simp only [alloc_size]; omega)).trans (by go_simp)) (by have h := hg; simp only [alloc_size] at h; omega) ((hB.cell (by simp only [alloc_size]; omega)).trans (by go_simp)) (by have h := hg; simp only [alloc_size] at h; omega) ((hB.cell (by simp only [alloc_size]; omega)).trans (by go_simp)) hc0 hc1
  rintro e w2 ⟨ar, cr, he, hm, hb2⟩
  obtain rfl : e = .returned (.agg #[.slice ar key.length cr, .int .i64 side, .int .i64 g, .int .i64 next, .int .u64 (upF 1 b), .int .u64 (upF c b), .int .i64 sec, .int .i64 nano]) := he
  have y : w2.heap[w.heap.size + 4]? = some (.cells #[.slice none 0 0, .int .i64 0, .int .i64 0, .int .i64 0, .int .u64 0, .int .u64 0, .int .i64 0, .int .i64 0] 27 (0, 0)) := (hb_block hb2 (w.heap.size + 4) (by simp only [alloc_size]; omega)).trans (by simp only [alloc_get, alloc_size]; repeat first | rw [if_pos trivial] | rw [if_neg (by omega)] | rw [if_pos (by omega)])
  have b0 : w2.cell? ⟨w.heap.size + 4, 0, none⟩ = some (.slice none 0 0) := cell_of_row w2 (w.heap.size + 4) 0 _ _ _ y
  have b1 : w2.cell? ⟨w.heap.size + 4, 1, none⟩ = some (.int .i64 0) := cell_of_row w2 (w.heap.size + 4) 1 _ _ _ y
  have b2 : w2.cell? ⟨w.heap.size + 4, 2, none⟩ = some (.int .i64 0) := cell_of_row w2 (w.heap.size + 4) 2 _ _ _ y
  have b3 : w2.cell? ⟨w.heap.size + 4, 3, none⟩ = some (.int .i64 0) := cell_of_row w2 (w.heap.size + 4) 3 _ _ _ y
  have b4 : w2.cell? ⟨w.heap.size + 4, 4, none⟩ = some (.int .u64 0) := cell_of_row w2 (w.heap.size + 4) 4 _ _ _ y
  have b5 : w2.cell? ⟨w.heap.size + 4, 5, none⟩ = some (.int .u64 0) := cell_of_row w2 (w.heap.size + 4) 5 _ _ _ y
  have b6 : w2.cell? ⟨w.heap.size + 4, 6, none⟩ = some (.int .i64 0) := cell_of_row w2 (w.heap.size + 4) 6 _ _ _ y
  have b7 : w2.cell? ⟨w.heap.size + 4, 7, none⟩ = some (.int .i64 0) := cell_of_row w2 (w.heap.size + 4) 7 _ _ _ y
  have bf (i : Nat) : w2.frozen? ⟨w.heap.size + 4, i, none⟩ = false := frozen_of_row w2 (w.heap.size + 4) i _ _ y
  clear y
  go_wp2_with fail
  refine bodyPost_ret (v := .agg #[.slice ar key.length cr, .int .i64 side, .int .i64 g, .int .i64 next, .int .u64 (upF 1 b), .int .u64 (upF c b), .int .i64 sec, .int .i64 nano]) (by simp [results, Try.results30, go_sem, b0, b1, b2, b3, b4, b5, b6, b7]) rfl ⟨_, _, rfl, ?_, ?_⟩
  · refine Mine.from (B := w.heap.size + 5) ?_ (by omega)
    iterate 8 (refine Mine.setCell ?_ _ _ _ (by omega))
    exact Mine.from hm (by simp only [alloc_size]; omega)
  · iterate 8 (refine Below.set ?_ _ _ _ (by omega))
    exact ((((((Below.refl _ w).alloc (Nat.le_refl _) _).alloc (by simp only [alloc_size]; omega) _).alloc (by simp only [alloc_size]; omega) _).alloc (by simp only [alloc_size]; omega) _).alloc (by simp only [alloc_size]; omega) _).trans (hb2.mono (by simp only [alloc_size]; omega))
set_option maxHeartbeats 1600000 in
theorem laneOpened (L : Ln) (ao : Option Addr) (cap : Nat) (g c b : Int) (hc0 : 0 ≤ c) (hc1 : c ≤ 18446744073709551615) (w : World) (hf : L.fits) (hr : Rd w ao L.key) :
   Calls Try.prog 30 #[L.val ao cap, .int .i64 g, .int .u64 c, .int .i64 b] w fun e w' => ∃ ao' cap', e = .returned ((openedL L g c b).val ao' cap') ∧ Mine w' w.heap.size 5 ao' cap' (openedL L g c b).key ∧ Below w.heap.size w w' := by
  by_cases hb : blkB b = true
  · by_cases h1 : L.cur < g
    · by_cases h2 : g ≤ L.next
      · by_cases h3 : c ≤ 18446744073709551614
        · by_cases hok : L.ok = true
          · exact laneOpened_yes L ao cap g c b hc0 hc1 w hf hr hb h1 h2 h3 hok
          · exact laneOpened_no L ao cap g c b hc0 hc1 w hf hr hb h1 h2 h3 (by simpa using hok)
        · exact laneOpened_n3 L ao cap g c b hc0 hc1 w hf hr hb h1 h2 h3
      · exact laneOpened_n2 L ao cap g c b hc0 hc1 w hf hr hb h1 h2
    · exact laneOpened_n1 L ao cap g c b hc0 hc1 w hf hr hb  h1
  · have hb : blkB b = false := by simpa using hb
    exact laneOpened_n0 L ao cap g c b hc0 hc1 w hf hr hb
end Go.Proofs.Ytihndipgdogebaa
