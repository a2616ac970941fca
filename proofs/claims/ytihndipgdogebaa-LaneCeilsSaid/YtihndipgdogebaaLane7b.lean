/- What the program's calls make of a lane. -/
import Derived.Test.YtihndipgdogebaaLane7
namespace Go.Proofs.Ytihndipgdogebaa
open Go.RowKit
set_option maxHeartbeats 1600000 in
theorem laneRaise_n0 (L : Ln) (ao : Option Addr) (cap : Nat) (c b : Int) (_hc0 : 0 ≤ c) (_hc1 : c ≤ 18446744073709551615) (w : World) (hf : L.fits) (hr : Rd w ao L.key) (hb : blkB b = false) :
   Calls Try.prog 32 #[L.val ao cap, .int .u64 c, .int .i64 b] w fun e w' => ∃ ao' cap', e = .returned ((raiseL L c b).val ao' cap') ∧ Mine w' w.heap.size 5 ao' cap' (raiseL L c b).key ∧ Below w.heap.size w w' := by
  obtain ⟨hl, hcur0, hcur1, hnext0, hnext1, hsend0, hsend1, hceil0, hceil1, hs⟩ := hf
  obtain ⟨key, side, cur, next, send, ceil, sec, nano⟩ := L
  unfold Ln.val
  simp only at hl hcur0 hcur1 hnext0 hnext1 hsend0 hsend1 hceil0 hceil1 hs hr ⊢
  have hz : raiseL ⟨key, side, cur, next, send, ceil, sec, nano⟩ c b = Ln.zero := by
    have : mayS ⟨key, side, cur, next, send, ceil, sec, nano⟩ c b = false := by simp [mayS, hb]
    simp [raiseL, this]
  rw [hz]
  unfold Ln.zero
  have HB := Lib.hid (show blkB b = false from hb)
  clear hb hz
  go_enter Try.func32, Try.ntmps32
  go_wp2_with fail
  refine (laneBlock b _).mono ?_
  rintro e w1 ⟨rfl, rfl⟩
  rw [HB.out]
  go_wp2_with fail
  refine (laneChanged0 ⟨key, side, cur, next, send, ceil, sec, nano⟩ ao cap false _ _ hs (by simp)).mono ?_
  rintro e w2 ⟨he, hb2⟩
  obtain rfl : e = .returned (.agg #[.slice none 0 0, .int .i64 0, .int .i64 0, .int .i64 0, .int .u64 0, .int .u64 0, .int .i64 0, .int .i64 0]) := he
  have y : w2.heap[w.heap.size + 3]? = some (.cells #[.slice none 0 0, .int .i64 0, .int .i64 0, .int .i64 0, .int .u64 0, .int .u64 0, .int .i64 0, .int .i64 0] 27 (0, 0)) := (hb_block hb2 (w.heap.size + 3) (by simp only [alloc_size]; omega)).trans (by simp only [alloc_get, alloc_size]; repeat first | rw [if_pos trivial] | rw [if_neg (by omega)] | rw [if_pos (by omega)])
  have b0 : w2.cell? ⟨w.heap.size + 3, 0, none⟩ = some (.slice none 0 0) := cell_of_row w2 (w.heap.size + 3) 0 _ _ _ y
  have b1 : w2.cell? ⟨w.heap.size + 3, 1, none⟩ = some (.int .i64 0) := cell_of_row w2 (w.heap.size + 3) 1 _ _ _ y
  have b2 : w2.cell? ⟨w.heap.size + 3, 2, none⟩ = some (.int .i64 0) := cell_of_row w2 (w.heap.size + 3) 2 _ _ _ y
  have b3 : w2.cell? ⟨w.heap.size + 3, 3, none⟩ = some (.int .i64 0) := cell_of_row w2 (w.heap.size + 3) 3 _ _ _ y
  have b4 : w2.cell? ⟨w.heap.size + 3, 4, none⟩ = some (.int .u64 0) := cell_of_row w2 (w.heap.size + 3) 4 _ _ _ y
  have b5 : w2.cell? ⟨w.heap.size + 3, 5, none⟩ = some (.int .u64 0) := cell_of_row w2 (w.heap.size + 3) 5 _ _ _ y
  have b6 : w2.cell? ⟨w.heap.size + 3, 6, none⟩ = some (.int .i64 0) := cell_of_row w2 (w.heap.size + 3) 6 _ _ _ y
  have b7 : w2.cell? ⟨w.heap.size + 3, 7, none⟩ = some (.int .i64 0) := cell_of_row w2 (w.heap.size + 3) 7 _ _ _ y
  have bf (i : Nat) : w2.frozen? ⟨w.heap.size + 3, i, none⟩ = false := frozen_of_row w2 (w.heap.size + 3) i _ _ y
  clear y
  go_wp2_with fail
  refine bodyPost_ret (v := .agg #[.slice none 0 0, .int .i64 0, .int .i64 0, .int .i64 0, .int .u64 0, .int .u64 0, .int .i64 0, .int .i64 0]) (by simp [results, Try.results32, go_sem, b0, b1, b2, b3, b4, b5, b6, b7]) rfl ⟨_, _, rfl, ?_, ?_⟩
  · exact Or.inl ⟨rfl, rfl, rfl⟩
  · iterate 8 (refine Below.set ?_ _ _ _ (by omega))
    exact (((((Below.refl _ w).alloc (Nat.le_refl _) _).alloc (by simp only [alloc_size]; omega) _).alloc (by simp only [alloc_size]; omega) _).alloc (by simp only [alloc_size]; omega) _).trans (hb2.mono (by simp only [alloc_size]; omega))
set_option maxHeartbeats 1600000 in
theorem laneRaise_n1 (L : Ln) (ao : Option Addr) (cap : Nat) (c b : Int) (_hc0 : 0 ≤ c) (_hc1 : c ≤ 18446744073709551615) (w : World) (hf : L.fits) (hr : Rd w ao L.key) (hb : blkB b = true) (h1 : ¬ L.ceil ≤ c) :
   Calls Try.prog 32 #[L.val ao cap, .int .u64 c, .int .i64 b] w fun e w' => ∃ ao' cap', e = .returned ((raiseL L c b).val ao' cap') ∧ Mine w' w.heap.size 5 ao' cap' (raiseL L c b).key ∧ Below w.heap.size w w' := by
  obtain ⟨hl, hcur0, hcur1, hnext0, hnext1, hsend0, hsend1, hceil0, hceil1, hs⟩ := hf
  obtain ⟨key, side, cur, next, send, ceil, sec, nano⟩ := L
  unfold Ln.val
  simp only at hl hcur0 hcur1 hnext0 hnext1 hsend0 hsend1 hceil0 hceil1 hs hr h1 ⊢
  have hz : raiseL ⟨key, side, cur, next, send, ceil, sec, nano⟩ c b = Ln.zero := by
    have : mayS ⟨key, side, cur, next, send, ceil, sec, nano⟩ c b = false := by simp [mayS, hb, h1]
    simp [raiseL, this]
  rw [hz]
  unfold Ln.zero
  have HB := Lib.hid (show blkB b = true from hb)
  clear hb hz
  go_enter Try.func32, Try.ntmps32
  go_wp2_with fail
  refine (laneBlock b _).mono ?_
  rintro e w1 ⟨rfl, rfl⟩
  rw [HB.out]
  go_wp2_with fail
  refine (laneChanged0 ⟨key, side, cur, next, send, ceil, sec, nano⟩ ao cap false _ _ hs (by simp)).mono ?_
  rintro e w2 ⟨he, hb2⟩
  obtain rfl : e = .returned (.agg #[.slice none 0 0, .int .i64 0, .int .i64 0, .int .i64 0, .int .u64 0, .int .u64 0, .int .i64 0, .int .i64 0]) := he
  have y : w2.heap[w.heap.size + 3]? = some (.cells #[.slice none 0 0, .int .i64 0, .int .i64 0, .int .i64 0, .int .u64 0, .int .u64 0, .int .i64 0, .int .i64 0] 27 (0, 0)) := (hb_block hb2 (w.heap.size + 3) (by simp only [alloc_size]; omega)).trans (by simp only [alloc_get, alloc_size]; repeat first | rw [if_pos trivial] | rw [if_neg (by omega)] | rw [if_pos (by omega)])
  have b0 : w2.cell? ⟨w.heap.size + 3, 0, none⟩ = some (.slice none 0 0) := cell_of_row w2 (w.heap.size + 3) 0 _ _ _ y
  have b1 : w2.cell? ⟨w.heap.size + 3, 1, none⟩ = some (.int .i64 0) := cell_of_row w2 (w.heap.size + 3) 1 _ _ _ y
  have b2 : w2.cell? ⟨w.heap.size + 3, 2, none⟩ = some (.int .i64 0) := cell_of_row w2 (w.heap.size + 3) 2 _ _ _ y
  have b3 : w2.cell? ⟨w.heap.size + 3, 3, none⟩ = some (.int .i64 0) := cell_of_row w2 (w.heap.size + 3) 3 _ _ _ y
  have b4 : w2.cell? ⟨w.heap.size + 3, 4, none⟩ = some (.int .u64 0) := cell_of_row w2 (w.heap.size + 3) 4 _ _ _ y
  have b5 : w2.cell? ⟨w.heap.size + 3, 5, none⟩ = some (.int .u64 0) := cell_of_row w2 (w.heap.size + 3) 5 _ _ _ y
  have b6 : w2.cell? ⟨w.heap.size + 3, 6, none⟩ = some (.int .i64 0) := cell_of_row w2 (w.heap.size + 3) 6 _ _ _ y
  have b7 : w2.cell? ⟨w.heap.size + 3, 7, none⟩ = some (.int .i64 0) := cell_of_row w2 (w.heap.size + 3) 7 _ _ _ y
  have bf (i : Nat) : w2.frozen? ⟨w.heap.size + 3, i, none⟩ = false := frozen_of_row w2 (w.heap.size + 3) i _ _ y
  clear y
  go_wp2_with fail
  refine bodyPost_ret (v := .agg #[.slice none 0 0, .int .i64 0, .int .i64 0, .int .i64 0, .int .u64 0, .int .u64 0, .int .i64 0, .int .i64 0]) (by simp [results, Try.results32, go_sem, b0, b1, b2, b3, b4, b5, b6, b7]) rfl ⟨_, _, rfl, ?_, ?_⟩
  · exact Or.inl ⟨rfl, rfl, rfl⟩
  · iterate 8 (refine Below.set ?_ _ _ _ (by omega))
    exact (((((Below.refl _ w).alloc (Nat.le_refl _) _).alloc (by simp only [alloc_size]; omega) _).alloc (by simp only [alloc_size]; omega) _).alloc (by simp only [alloc_size]; omega) _).trans (hb2.mono (by simp only [alloc_size]; omega))
set_option maxHeartbeats 1600000 in
theorem laneRaise_n2 (L : Ln) (ao : Option Addr) (cap : Nat) (c b : Int) (hc0 : 0 ≤ c) (hc1 : c ≤ 18446744073709551615) (w : World) (hf : L.fits) (hr : Rd w ao L.key) (hb : blkB b = true) (h1 : L.ceil ≤ c) (h2 : ¬ c ≤ 18446744073709551614) :
   Calls Try.prog 32 #[L.val ao cap, .int .u64 c, .int .i64 b] w fun e w' => ∃ ao' cap', e = .returned ((raiseL L c b).val ao' cap') ∧ Mine w' w.heap.size 5 ao' cap' (raiseL L c b).key ∧ Below w.heap.size w w' := by
  obtain ⟨hl, hcur0, hcur1, hnext0, hnext1, hsend0, hsend1, hceil0, hceil1, hs⟩ := hf
  obtain ⟨key, side, cur, next, send, ceil, sec, nano⟩ := L
  unfold Ln.val
  simp only at hl hcur0 hcur1 hnext0 hnext1 hsend0 hsend1 hceil0 hceil1 hs hr h1 h2 ⊢
  obtain rfl : c = 18446744073709551615 := by omega
  clear h2 hc0 hc1
  have hz : raiseL ⟨key, side, cur, next, send, ceil, sec, nano⟩ 18446744073709551615 b = Ln.zero := by
    have : mayS ⟨key, side, cur, next, send, ceil, sec, nano⟩ 18446744073709551615 b = false := by simp [mayS, hb, h1]
    simp [raiseL, this]
  rw [hz]
  unfold Ln.zero
  have HB := Lib.hid (show blkB b = true from hb)
  clear hb hz
  go_enter Try.func32, Try.ntmps32
  go_wp2_with fail
  refine (laneBlock b _).mono ?_
  rintro e w1 ⟨rfl, rfl⟩
  rw [HB.out]
  go_wp2_with fail
  refine (laneChanged0 ⟨key, side, cur, next, send, ceil, sec, nano⟩ ao cap false _ _ hs (by simp)).mono ?_
  rintro e w2 ⟨he, hb2⟩
  obtain rfl : e = .returned (.agg #[.slice none 0 0, .int .i64 0, .int .i64 0, .int .i64 0, .int .u64 0, .int .u64 0, .int .i64 0, .int .i64 0]) := he
  have y : w2.heap[w.heap.size + 3]? = some (.cells #[.slice none 0 0, .int .i64 0, .int .i64 0, .int .i64 0, .int .u64 0, .int .u64 0, .int .i64 0, .int .i64 0] 27 (0, 0)) := (hb_block hb2 (w.heap.size + 3) (by simp only [alloc_size]; omega)).trans (by simp only [alloc_get, alloc_size]; repeat first | rw [if_pos trivial] | rw [if_neg (by omega)] | rw [if_pos (by omega)])
  have b0 : w2.cell? ⟨w.heap.size + 3, 0, none⟩ = some (.slice none 0 0) := cell_of_row w2 (w.heap.size + 3) 0 _ _ _ y
  have b1 : w2.cell? ⟨w.heap.size + 3, 1, none⟩ = some (.int .i64 0) := cell_of_row w2 (w.heap.size + 3) 1 _ _ _ y
  have b2 : w2.cell? ⟨w.heap.size + 3, 2, none⟩ = some (.int .i64 0) := cell_of_row w2 (w.heap.size + 3) 2 _ _ _ y
  have b3 : w2.cell? ⟨w.heap.size + 3, 3, none⟩ = some (.int .i64 0) := cell_of_row w2 (w.heap.size + 3) 3 _ _ _ y
  have b4 : w2.cell? ⟨w.heap.size + 3, 4, none⟩ = some (.int .u64 0) := cell_of_row w2 (w.heap.size + 3) 4 _ _ _ y
  have b5 : w2.cell? ⟨w.heap.size + 3, 5, none⟩ = some (.int .u64 0) := cell_of_row w2 (w.heap.size + 3) 5 _ _ _ y
  have b6 : w2.cell? ⟨w.heap.size + 3, 6, none⟩ = some (.int .i64 0) := cell_of_row w2 (w.heap.size + 3) 6 _ _ _ y
  have b7 : w2.cell? ⟨w.heap.size + 3, 7, none⟩ = some (.int .i64 0) := cell_of_row w2 (w.heap.size + 3) 7 _ _ _ y
  have bf (i : Nat) : w2.frozen? ⟨w.heap.size + 3, i, none⟩ = false := frozen_of_row w2 (w.heap.size + 3) i _ _ y
  clear y
  go_wp2_with fail
  refine bodyPost_ret (v := .agg #[.slice none 0 0, .int .i64 0, .int .i64 0, .int .i64 0, .int .u64 0, .int .u64 0, .int .i64 0, .int .i64 0]) (by simp [results, Try.results32, go_sem, b0, b1, b2, b3, b4, b5, b6, b7]) rfl ⟨_, _, rfl, ?_, ?_⟩
  · exact Or.inl ⟨rfl, rfl, rfl⟩
  · iterate 8 (refine Below.set ?_ _ _ _ (by omega))
    exact (((((Below.refl _ w).alloc (Nat.le_refl _) _).alloc (by simp only [alloc_size]; omega) _).alloc (by simp only [alloc_size]; omega) _).alloc (by simp only [alloc_size]; omega) _).trans (hb2.mono (by simp only [alloc_size]; omega))
set_option maxHeartbeats 1600000 in
theorem laneRaise_no (L : Ln) (ao : Option Addr) (cap : Nat) (c b : Int) (_hc0 : 0 ≤ c) (_hc1 : c ≤ 18446744073709551615) (w : World) (hf : L.fits) (hr : Rd w ao L.key) (hb : blkB b = true) (h1 : L.ceil ≤ c) (h2 : c ≤ 18446744073709551614) (hok' : L.ok = false) :
   Calls Try.prog 32 #[L.val ao cap, .int .u64 c, .int .i64 b] w fun e w' => ∃ ao' cap', e = .returned ((raiseL L c b).val ao' cap') ∧ Mine w' w.heap.size 5 ao' cap' (raiseL L c b).key ∧ Below w.heap.size w w' := by
  obtain ⟨hl, hcur0, hcur1, hnext0, hnext1, hsend0, hsend1, hceil0, hceil1, hs⟩ := hf
  obtain ⟨key, side, cur, next, send, ceil, sec, nano⟩ := L
  unfold Ln.val
  simp only at hl hcur0 hcur1 hnext0 hnext1 hsend0 hsend1 hceil0 hceil1 hs hr h1 h2 hok' ⊢
  have hno : (true && Ln.ok ⟨key, side, cur, next, send, ceil, sec, nano⟩) = false := by simpa using hok'
  have hz : raiseL ⟨key, side, cur, next, send, ceil, sec, nano⟩ c b = Ln.zero := by
    have : mayS ⟨key, side, cur, next, send, ceil, sec, nano⟩ c b = false := by simp [mayS, hb, h1, h2, hok']
    simp [raiseL, this]
  rw [hz]
  unfold Ln.zero
  have HB := Lib.hid (show blkB b = true from hb)
  clear hb hz
  go_enter Try.func32, Try.ntmps32
  go_wp2_with fail
  refine (laneBlock b _).mono ?_
  rintro e w1 ⟨rfl, rfl⟩
  rw [HB.out]
  go_wp2_with fail
  refine (laneChanged0 ⟨key, side, cur, next, send, ceil, sec, nano⟩ ao cap true _ _ hs hno).mono ?_
  rintro e w2 ⟨he, hb2⟩
  obtain rfl : e = .returned (.agg #[.slice none 0 0, .int .i64 0, .int .i64 0, .int .i64 0, .int .u64 0, .int .u64 0, .int .i64 0, .int .i64 0]) := he
  have y : w2.heap[w.heap.size + 3]? = some (.cells #[.slice none 0 0, .int .i64 0, .int .i64 0, .int .i64 0, .int .u64 0, .int .u64 0, .int .i64 0, .int .i64 0] 27 (0, 0)) := (hb_block hb2 (w.heap.size + 3) (by simp only [alloc_size]; omega)).trans (by simp only [alloc_get, alloc_size]; repeat first | rw [if_pos trivial] | rw [if_neg (by omega)] | rw [if_pos (by omega)])
  have b0 : w2.cell? ⟨w.heap.size + 3, 0, none⟩ = some (.slice none 0 0) := cell_of_row w2 (w.heap.size + 3) 0 _ _ _ y
  have b1 : w2.cell? ⟨w.heap.size + 3, 1, none⟩ = some (.int .i64 0) := cell_of_row w2 (w.heap.size + 3) 1 _ _ _ y
  have b2 : w2.cell? ⟨w.heap.size + 3, 2, none⟩ = some (.int .i64 0) := cell_of_row w2 (w.heap.size + 3) 2 _ _ _ y
  have b3 : w2.cell? ⟨w.heap.size + 3, 3, none⟩ = some (.int .i64 0) := cell_of_row w2 (w.heap.size + 3) 3 _ _ _ y
  have b4 : w2.cell? ⟨w.heap.size + 3, 4, none⟩ = some (.int .u64 0) := cell_of_row w2 (w.heap.size + 3) 4 _ _ _ y
  have b5 : w2.cell? ⟨w.heap.size + 3, 5, none⟩ = some (.int .u64 0) := cell_of_row w2 (w.heap.size + 3) 5 _ _ _ y
  have b6 : w2.cell? ⟨w.heap.size + 3, 6, none⟩ = some (.int .i64 0) := cell_of_row w2 (w.heap.size + 3) 6 _ _ _ y
  have b7 : w2.cell? ⟨w.heap.size + 3, 7, none⟩ = some (.int .i64 0) := cell_of_row w2 (w.heap.size + 3) 7 _ _ _ y
  have bf (i : Nat) : w2.frozen? ⟨w.heap.size + 3, i, none⟩ = false := frozen_of_row w2 (w.heap.size + 3) i _ _ y
  clear y
  go_wp2_with fail
  refine bodyPost_ret (v := .agg #[.slice none 0 0, .int .i64 0, .int .i64 0, .int .i64 0, .int .u64 0, .int .u64 0, .int .i64 0, .int .i64 0]) (by simp [results, Try.results32, go_sem, b0, b1, b2, b3, b4, b5, b6, b7]) rfl ⟨_, _, rfl, ?_, ?_⟩
  · exact Or.inl ⟨rfl, rfl, rfl⟩
  · iterate 8 (refine Below.set ?_ _ _ _ (by omega))
    exact (((((Below.refl _ w).alloc (Nat.le_refl _) _).alloc (by simp only [alloc_size]; omega) _).alloc (by simp only [alloc_size]; omega) _).alloc (by simp only [alloc_size]; omega) _).trans (hb2.mono (by simp only [alloc_size]; omega))
set_option maxHeartbeats 1600000 in
theorem laneRaise_yes (L : Ln) (ao : Option Addr) (cap : Nat) (c b : Int) (hc0 : 0 ≤ c) (hc1 : c ≤ 18446744073709551615) (w : World) (hf : L.fits) (hr : Rd w ao L.key) (hb : blkB b = true) (h1 : L.ceil ≤ c) (h2 : c ≤ 18446744073709551614) (hok : L.ok = true) :
   Calls Try.prog 32 #[L.val ao cap, .int .u64 c, .int .i64 b] w fun e w' => ∃ ao' cap', e = .returned ((raiseL L c b).val ao' cap') ∧ Mine w' w.heap.size 5 ao' cap' (raiseL L c b).key ∧ Below w.heap.size w w' := by
  obtain ⟨hl, hcur0, hcur1, hnext0, hnext1, hsend0, hsend1, hceil0, hceil1, hs⟩ := hf
  obtain ⟨key, side, cur, next, send, ceil, sec, nano⟩ := L
  unfold Ln.val
  simp only at hl hcur0 hcur1 hnext0 hnext1 hsend0 hsend1 hceil0 hceil1 hs hr h1 h2 hok ⊢
  have hy : raiseL ⟨key, side, cur, next, send, ceil, sec, nano⟩ c b = Ln.keep ⟨key, side, cur, next, send, ceil, sec, nano⟩ cur next send (upF c b) sec nano := by
    have : mayS ⟨key, side, cur, next, send, ceil, sec, nano⟩ c b = true := by simp [mayS, hb, hok, h1, h2]
    simp [raiseL, this]
  rw [hy]
  have HB := Lib.hid (show blkB b = true from hb)
  have HK := Lib.hid hok
  clear hb hy hok
  unfold Ln.keep
  go_enter Try.func32, Try.ntmps32
  go_wp2_with fail
  refine (laneBlock b _).mono ?_
  rintro e w1 ⟨rfl, rfl⟩
  rw [HB.out]
  go_wp2_with fail
  refine (laneChanged1 ⟨key, side, cur, next, send, ceil, sec, nano⟩ cur next send (upF c b) sec nano ao cap 58 _ _ hs HK.out ?hrw (fun _ _ => rfl) ?hclo).mono ?_
  case hrw => exact hr.on (((((Below.refl _ w).alloc (Nat.le_refl _) _).alloc (by simp only [alloc_size]; omega) _).alloc (by simp only [alloc_size]; omega) _).alloc (by simp only [alloc_size]; omega) _)
  case hclo =>
    intro W g ar cr hB hg hx
    exact cloRaise W g ar cr key side cur next send ceil sec nano hx (w.heap.size + 1) c (w.heap.size + 2) b (by have h := hg; simp only [alloc_size] at h; omega) ((hB.cell (by simp only [alloc_size]; omega)).trans (by go_simp)) hc0 hc1 (by have h := hg; simp only [alloc_size] at h; omega) ((hB.cell (by simp only [alloc_size]; omega)).trans (by go_simp))
  rintro e w2 ⟨ar, cr, he, hm, hb2⟩
  obtain rfl : e = .returned (.agg #[.slice ar key.length cr, .int .i64 side, .int .i64 cur, .int .i64 next, .int .u64 send, .int .u64 (upF c b), .int .i64 sec, .int .i64 nano]) := he
  have y : w2.heap[w.heap.size + 3]? = some (.cells #[.slice none 0 0, .int .i64 0, .int .i64 0, .int .i64 0, .int .u64 0, .int .u64 0, .int .i64 0, .int .i64 0] 27 (0, 0)) := (hb_block hb2 (w.heap.size + 3) (by simp only [alloc_size]; omega)).trans (by simp only [alloc_get, alloc_size]; repeat first | rw [if_pos trivial] | rw [if_neg (by omega)] | rw [if_pos (by omega)])
  have b0 : w2.cell? ⟨w.heap.size + 3, 0, none⟩ = some (.slice none 0 0) := cell_of_row w2 (w.heap.size + 3) 0 _ _ _ y
  have b1 : w2.cell? ⟨w.heap.size + 3, 1, none⟩ = some (.int .i64 0) := cell_of_row w2 (w.heap.size + 3) 1 _ _ _ y
  have b2 : w2.cell? ⟨w.heap.size + 3, 2, none⟩ = some (.int .i64 0) := cell_of_row w2 (w.heap.size + 3) 2 _ _ _ y
  have b3 : w2.cell? ⟨w.heap.size + 3, 3, none⟩ = some (.int .i64 0) := cell_of_row w2 (w.heap.size + 3) 3 _ _ _ y
  have b4 : w2.cell? ⟨w.heap.size + 3, 4, none⟩ = some (.int .u64 0) := cell_of_row w2 (w.heap.size + 3) 4 _ _ _ y
  have b5 : w2.cell? ⟨w.heap.size + 3, 5, none⟩ = some (.int .u64 0) := cell_of_row w2 (w.heap.size + 3) 5 _ _ _ y
  have b6 : w2.cell? ⟨w.heap.size + 3, 6, none⟩ = some (.int .i64 0) := cell_of_row w2 (w.heap.size + 3) 6 _ _ _ y
  have b7 : w2.cell? ⟨w.heap.size + 3, 7, none⟩ = some (.int .i64 0) := cell_of_row w2 (w.heap.size + 3) 7 _ _ _ y
  have bf (i : Nat) : w2.frozen? ⟨w.heap.size + 3, i, none⟩ = false := frozen_of_row w2 (w.heap.size + 3) i _ _ y
  clear y
  go_wp2_with fail
  refine bodyPost_ret (v := .agg #[.slice ar key.length cr, .int .i64 side, .int .i64 cur, .int .i64 next, .int .u64 send, .int .u64 (upF c b), .int .i64 sec, .int .i64 nano]) (by simp [results, Try.results32, go_sem, b0, b1, b2, b3, b4, b5, b6, b7]) rfl ⟨_, _, rfl, ?_, ?_⟩
  · refine Mine.from (B := w.heap.size + 4) ?_ (by omega)
    iterate 8 (refine Mine.setCell ?_ _ _ _ (by omega))
    exact Mine.from hm (by simp only [alloc_size]; omega)
  · iterate 8 (refine Below.set ?_ _ _ _ (by omega))
    exact (((((Below.refl _ w).alloc (Nat.le_refl _) _).alloc (by simp only [alloc_size]; omega) _).alloc (by simp only [alloc_size]; omega) _).alloc (by simp only [alloc_size]; omega) _).trans (hb2.mono (by simp only [alloc_size]; omega))
set_option maxHeartbeats 1600000 in
theorem laneRaise (L : Ln) (ao : Option Addr) (cap : Nat) (c b : Int) (hc0 : 0 ≤ c) (hc1 : c ≤ 18446744073709551615) (w : World) (hf : L.fits) (hr : Rd w ao L.key) :
   Calls Try.prog 32 #[L.val ao cap, .int .u64 c, .int .i64 b] w fun e w' => ∃ ao' cap', e = .returned ((raiseL L c b).val ao' cap') ∧ Mine w' w.heap.size 5 ao' cap' (raiseL L c b).key ∧ Below w.heap.size w w' := by
  by_cases hb : blkB b = true
  · by_cases h1 : L.ceil ≤ c
    · by_cases h2 : c ≤ 18446744073709551614
      · by_cases hok : L.ok = true
        · exact laneRaise_yes L ao cap c b hc0 hc1 w hf hr hb h1 h2 hok
        · exact laneRaise_no L ao cap c b hc0 hc1 w hf hr hb h1 h2 (by simpa using hok)
      · exact laneRaise_n2 L ao cap c b hc0 hc1 w hf hr hb h1 h2
    · exact laneRaise_n1 L ao cap c b hc0 hc1 w hf hr hb  h1
  · have hb : blkB b = false := by simpa using hb
    exact laneRaise_n0 L ao cap c b hc0 hc1 w hf hr hb
end Go.Proofs.Ytihndipgdogebaa
