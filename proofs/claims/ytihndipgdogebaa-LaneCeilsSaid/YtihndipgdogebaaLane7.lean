/- What the program's calls make of a lane. -/
import Derived.Test.YtihndipgdogebaaLane6
namespace Go.Proofs.Ytihndipgdogebaa
open Go.RowKit
def maxC : Int := 18446744073709551614
def mayR (L : Ln) (at1 b : Int) : Bool := blkB b && (decide (L.send ≤ at1) && (decide (at1 ≤ 18446744073709551614) && L.ok))
def reserveL (L : Ln) (at1 b : Int) : Ln := if mayR L at1 b = true then L.keep L.cur L.next (upF at1 b) L.ceil L.sec L.nano else Ln.zero
def mayS (L : Ln) (c b : Int) : Bool := blkB b && (decide (L.ceil ≤ c) && (decide (c ≤ 18446744073709551614) && L.ok))
def raiseL (L : Ln) (c b : Int) : Ln := if mayS L c b = true then L.keep L.cur L.next L.send (upF c b) L.sec L.nano else Ln.zero
def mayO (L : Ln) (g c b : Int) : Bool := blkB b && (decide (L.cur < g) && (decide (g ≤ L.next) && (decide (c ≤ 18446744073709551614) && L.ok)))
def openedL (L : Ln) (g c b : Int) : Ln := if mayO L g c b = true then L.keep g L.next (upF 1 b) (upF c b) L.sec L.nano else Ln.zero
/-- What may stand in a lane's fields, by their types. -/
structure Ln.fits (L : Ln) : Prop where
  len : L.key.length ≤ 140737488351232
  cur0 : -9223372036854775808 ≤ L.cur
  cur1 : L.cur ≤ 9223372036854775807
  next0 : -9223372036854775808 ≤ L.next
  next1 : L.next ≤ 9223372036854775807
  send0 : 0 ≤ L.send
  send1 : L.send ≤ 18446744073709551615
  ceil0 : 0 ≤ L.ceil
  ceil1 : L.ceil ≤ 18446744073709551615
  sec1 : L.sec ≤ 9223372036854775807
set_option maxHeartbeats 1600000 in
theorem laneReserve_n0 (L : Ln) (ao : Option Addr) (cap : Nat) (at1 b : Int) (_ha0 : 0 ≤ at1) (_ha1 : at1 ≤ 18446744073709551615) (w : World) (hf : L.fits) (hr : Rd w ao L.key) (hb : blkB b = false) :
   Calls Try.prog 28 #[L.val ao cap, .int .u64 at1, .int .i64 b] w fun e w' => ∃ ao' cap', e = .returned ((reserveL L at1 b).val ao' cap') ∧ Mine w' w.heap.size 5 ao' cap' (reserveL L at1 b).key ∧ Below w.heap.size w w' := by
  obtain ⟨hl, hcur0, hcur1, hnext0, hnext1, hsend0, hsend1, hceil0, hceil1, hs⟩ := hf
  obtain ⟨key, side, cur, next, send, ceil, sec, nano⟩ := L
  unfold Ln.val
  simp only at hl hcur0 hcur1 hnext0 hnext1 hsend0 hsend1 hceil0 hceil1 hs hr ⊢
  have hz : reserveL ⟨key, side, cur, next, send, ceil, sec, nano⟩ at1 b = Ln.zero := by
    have : mayR ⟨key, side, cur, next, send, ceil, sec, nano⟩ at1 b = false := by simp [mayR, hb]
    simp [reserveL, this]
  rw [hz]
  unfold Ln.zero
  have HB := Lib.hid (show blkB b = false from hb)
  clear hb hz
  go_enter Try.func28, Try.ntmps28
  go_wp2_with fail
  refine (laneBlock b _).mono ?_
  rintro e w1 ⟨rfl, rfl⟩
  rw [HB.out]
  go_wp2_with fail
  refine (laneChanged0 ⟨key, side, cur, next, send, ceil, sec, nano⟩ ao cap false _ _ hs (by simp)).mono ?_
  rintro e w2 ⟨he, hb2⟩
  obtain rfl : e = .returned (.agg #[.slice none 0 0, .int .i64 0, .int .i64 0, .int .i64 0, .int .u64 0, .int .u64 0, .int .i64 0, .int .i64 0]) := he
  have y : w2.heap[w.heap.size + 3]? = some (.cells #[.slice none 0 0, .int .i64 0, .int .i64 0, .int .i64 0, .int .u64 0, .int .u64 0, .int .i64 0, .int .i64 0] 27 (0, 0)) := (hb_block hb2 (w.heap.size + 3) (by simp only [alloc_size]; omega)).trans (by simp only [alloc_get, alloc_size]; repeat first | rw [if_pos trivial] | rw [if_neg (by omega)] | rw [if_pos (by omega)])
  have b0 : w2.cell? ⟨w.heap.size + 3, 0, none⟩ = some (.slice none 0 0) := cell_of_row w2 (w.heap.size + 3) 0 _ _ _ y
  have b1 : w2.cell? ⟨w.heap.size + 3, 1, none⟩ = some (.int .i64 0) := cell_of_row w2 (w.heap.size + 3) 1 _ _ _ y
  have b2 : w2.cell? ⟨w.heap.size + 3, 2, none⟩ = some (.int .i64 0) := cell_of_row w2 (w.heap.size + 3) 2 _ _ _ y
  have b3 : w2.cell? ⟨w.heap.size + 3, 3, none⟩ = some (.int .i64 0) := cell_of_row w2 (w.heap.size + 3) 3 _ _ _ y
  have b4 : w2.cell? ⟨w.heap.size + 3, 4, none⟩ = some (.int .u64 0) := cell_of_row w2 (w.heap.size + 3) 4 _ _ _ y
  have b5 : w2.cell? ⟨w.heap.size + 3, 5, none⟩ = some (.int .u64 0) := cell_of_row w2 (w.heap.size + 3) 5 _ _ _ y
  have b6 : w2.cell? ⟨w.heap.size + 3, 6, none⟩ = some (.int .i64 0) := cell_of_row w2 (w.heap.size + 3) 6 _ _ _ y
  have b7 : w2.cell? ⟨w.heap.size + 3, 7, none⟩ = some (.int .i64 0) := cell_of_row w2 (w.heap.size + 3) 7 _ _ _ y
  have bf (i : Nat) : w2.frozen? ⟨w.heap.size + 3, i, none⟩ = false := frozen_of_row w2 (w.heap.size + 3) i _ _ y
  clear y
  go_wp2_with fail
  refine bodyPost_ret (v := .agg #[.slice none 0 0, .int .i64 0, .int .i64 0, .int .i64 0, .int .u64 0, .int .u64 0, .int .i64 0, .int .i64 0]) (by simp [results, Try.results28, go_sem, b0, b1, b2, b3, b4, b5, b6, b7]) rfl ⟨_, _, rfl, ?_, ?_⟩
  · exact Or.inl ⟨rfl, rfl, rfl⟩
  · iterate 8 (refine Below.set ?_ _ _ _ (by omega))
    exact (((((Below.refl _ w).alloc (Nat.le_refl _) _).alloc (by simp only [alloc_size]; omega) _).alloc (by simp only [alloc_size]; omega) _).alloc (by simp only [alloc_size]; omega) _).trans (hb2.mono (by simp only [alloc_size]; omega))
set_option maxHeartbeats 1600000 in
theorem laneReserve_n1 (L : Ln) (ao : Option Addr) (cap : Nat) (at1 b : Int) (_ha0 : 0 ≤ at1) (_ha1 : at1 ≤ 18446744073709551615) (w : World) (hf : L.fits) (hr : Rd w ao L.key) (hb : blkB b = true) (h1 : ¬ L.send ≤ at1) :
   Calls Try.prog 28 #[L.val ao cap, .int .u64 at1, .int .i64 b] w fun e w' => ∃ ao' cap', e = .returned ((reserveL L at1 b).val ao' cap') ∧ Mine w' w.heap.size 5 ao' cap' (reserveL L at1 b).key ∧ Below w.heap.size w w' := by
  obtain ⟨hl, hcur0, hcur1, hnext0, hnext1, hsend0, hsend1, hceil0, hceil1, hs⟩ := hf
  obtain ⟨key, side, cur, next, send, ceil, sec, nano⟩ := L
  unfold Ln.val
  simp only at hl hcur0 hcur1 hnext0 hnext1 hsend0 hsend1 hceil0 hceil1 hs hr h1 ⊢
  have hz : reserveL ⟨key, side, cur, next, send, ceil, sec, nano⟩ at1 b = Ln.zero := by
    have : mayR ⟨key, side, cur, next, send, ceil, sec, nano⟩ at1 b = false := by simp [mayR, hb, h1]
    simp [reserveL, this]
  rw [hz]
  unfold Ln.zero
  have HB := Lib.hid (show blkB b = true from hb)
  clear hb hz
  go_enter Try.func28, Try.ntmps28
  go_wp2_with fail
  refine (laneBlock b _).mono ?_
  rintro e w1 ⟨rfl, rfl⟩
  rw [HB.out]
  go_wp2_with fail
  refine (laneChanged0 ⟨key, side, cur, next, send, ceil, sec, nano⟩ ao cap false _ _ hs (by simp)).mono ?_
  rintro e w2 ⟨he, hb2⟩
  obtain rfl : e = .returned (.agg #[.slice none 0 0, .int .i64 0, .int .i64 0, .int .i64 0, .int .u64 0, .int .u64 0, .int .i64 0, .int .i64 0]) := he
  have y : w2.heap[w.heap.size + 3]? = some (.cells #[.slice none 0 0, .int .i64 0, .int .i64 0, .int .i64 0, .int .u64 0, .int .u64 0, .int .i64 0, .int .i64 0] 27 (0, 0)) := (hb_block hb2 (w.heap.size + 3) (by simp only [alloc_size]; omega)).trans (by simp only [alloc_get, alloc_size]; repeat first | rw [if_pos trivial] | rw [if_neg (by omega)] | rw [if_pos (by omega)])
  have b0 : w2.cell? ⟨w.heap.size + 3, 0, none⟩ = some (.slice none 0 0) := cell_of_row w2 (w.heap.size + 3) 0 _ _ _ y
  have b1 : w2.cell? ⟨w.heap.size + 3, 1, none⟩ = some (.int .i64 0) := cell_of_row w2 (w.heap.size + 3) 1 _ _ _ y
  have b2 : w2.cell? ⟨w.heap.size + 3, 2, none⟩ = some (.int .i64 0) := cell_of_row w2 (w.heap.size + 3) 2 _ _ _ y
  have b3 : w2.cell? ⟨w.heap.size + 3, 3, none⟩ = some (.int .i64 0) := cell_of_row w2 (w.heap.size + 3) 3 _ _ _ y
  have b4 : w2.cell? ⟨w.heap.size + 3, 4, none⟩ = some (.int .u64 0) := cell_of_row w2 (w.heap.size + 3) 4 _ _ _ y
  have b5 : w2.cell? ⟨w.heap.size + 3, 5, none⟩ = some (.int .u64 0) := cell_of_row w2 (w.heap.size + 3) 5 _ _ _ y
  have b6 : w2.cell? ⟨w.heap.size + 3, 6, none⟩ = some (.int .i64 0) := cell_of_row w2 (w.heap.size + 3) 6 _ _ _ y
  have b7 : w2.cell? ⟨w.heap.size + 3, 7, none⟩ = some (.int .i64 0) := cell_of_row w2 (w.heap.size + 3) 7 _ _ _ y
  have bf (i : Nat) : w2.frozen? ⟨w.heap.size + 3, i, none⟩ = false := frozen_of_row w2 (w.heap.size + 3) i _ _ y
  clear y
  go_wp2_with fail
  refine bodyPost_ret (v := .agg #[.slice none 0 0, .int .i64 0, .int .i64 0, .int .i64 0, .int .u64 0, .int .u64 0, .int .i64 0, .int .i64 0]) (by simp [results, Try.results28, go_sem, b0, b1, b2, b3, b4, b5, b6, b7]) rfl ⟨_, _, rfl, ?_, ?_⟩
  · exact Or.inl ⟨rfl, rfl, rfl⟩
  · iterate 8 (refine Below.set ?_ _ _ _ (by omega))
    exact (((((Below.refl _ w).alloc (Nat.le_refl _) _).alloc (by simp only [alloc_size]; omega) _).alloc (by simp only [alloc_size]; omega) _).alloc (by simp only [alloc_size]; omega) _).trans (hb2.mono (by simp only [alloc_size]; omega))
set_option maxHeartbeats 1600000 in
theorem laneReserve_n2 (L : Ln) (ao : Option Addr) (cap : Nat) (at1 b : Int) (ha0 : 0 ≤ at1) (ha1 : at1 ≤ 18446744073709551615) (w : World) (hf : L.fits) (hr : Rd w ao L.key) (hb : blkB b = true) (h1 : L.send ≤ at1) (h2 : ¬ at1 ≤ 18446744073709551614) :
   Calls Try.prog 28 #[L.val ao cap, .int .u64 at1, .int .i64 b] w fun e w' => ∃ ao' cap', e = .returned ((reserveL L at1 b).val ao' cap') ∧ Mine w' w.heap.size 5 ao' cap' (reserveL L at1 b).key ∧ Below w.heap.size w w' := by
  obtain ⟨hl, hcur0, hcur1, hnext0, hnext1, hsend0, hsend1, hceil0, hceil1, hs⟩ := hf
  obtain ⟨key, side, cur, next, send, ceil, sec, nano⟩ := L
  unfold Ln.val
  simp only at hl hcur0 hcur1 hnext0 hnext1 hsend0 hsend1 hceil0 hceil1 hs hr h1 h2 ⊢
  obtain rfl : at1 = 18446744073709551615 := by omega
  clear h2 ha0 ha1
  have hz : reserveL ⟨key, side, cur, next, send, ceil, sec, nano⟩ 18446744073709551615 b = Ln.zero := by
    have : mayR ⟨key, side, cur, next, send, ceil, sec, nano⟩ 18446744073709551615 b = false := by simp [mayR, hb, h1]
    simp [reserveL, this]
  rw [hz]
  unfold Ln.zero
  have HB := Lib.hid (show blkB b = true from hb)
  clear hb hz
  go_enter Try.func28, Try.ntmps28
  go_wp2_with fail
  refine (laneBlock b _).mono ?_
  rintro e w1 ⟨rfl, rfl⟩
  rw [HB.out]
  go_wp2_with fail
  refine (laneChanged0 ⟨key, side, cur, next, send, ceil, sec, nano⟩ ao cap false _ _ hs (by simp)).mono ?_
  rintro e w2 ⟨he, hb2⟩
  obtain rfl : e = .returned (.agg #[.slice none 0 0, .int .i64 0, .int .i64 0, .int .i64 0, .int .u64 0, .int .u64 0, .int .i64 0, .int .i64 0]) := he
  have y : w2.heap[w.heap.size + 3]? = some (.cells #[.slice none 0 0, .int .i64 0, .int .i64 0, .int .i64 0, .int .u64 0, .int .u64 0, .int .i64 0, .int .i64 0] 27 (0, 0)) := (hb_block hb2 (w.heap.size + 3) (by simp only [alloc_size]; omega)).trans (by simp only [alloc_get, alloc_size]; repeat first | rw [if_pos trivial] | rw [if_neg (by omega)] | rw [if_pos (by omega)])
  have b0 : w2.cell? ⟨w.heap.size + 3, 0, none⟩ = some (.slice none 0 0) := cell_of_row w2 (w.heap.size + 3) 0 _ _ _ y
  have b1 : w2.cell? ⟨w.heap.size + 3, 1, none⟩ = some (.int .i64 0) := cell_of_row w2 (w.heap.size + 3) 1 _ _ _ y
  have b2 : w2.cell? ⟨w.heap.size + 3, 2, none⟩ = some (.int .i64 0) := cell_of_row w2 (w.heap.size + 3) 2 _ _ _ y
  have b3 : w2.cell? ⟨w.heap.size + 3, 3, none⟩ = some (.int .i64 0) := cell_of_row w2 (w.heap.size + 3) 3 _ _ _ y
  have b4 : w2.cell? ⟨w.heap.size + 3, 4, none⟩ = some (.int .u64 0) := cell_of_row w2 (w.heap.size + 3) 4 _ _ _ y
  have b5 : w2.cell? ⟨w.heap.size + 3, 5, none⟩ = some (.int .u64 0) := cell_of_row w2 (w.heap.size + 3) 5 _ _ _ y
  have b6 : w2.cell? ⟨w.heap.size + 3, 6, none⟩ = some (.int .i64 0) := cell_of_row w2 (w.heap.size + 3) 6 _ _ _ y
  have b7 : w2.cell? ⟨w.heap.size + 3, 7, none⟩ = some (.int .i64 0) := cell_of_row w2 (w.heap.size + 3) 7 _ _ _ y
  have bf (i : Nat) : w2.frozen? ⟨w.heap.size + 3, i, none⟩ = false := frozen_of_row w2 (w.heap.size + 3) i _ _ y
  clear y
  go_wp2_with fail
  refine bodyPost_ret (v := .agg #[.slice none 0 0, .int .i64 0, .int .i64 0, .int .i64 0, .int .u64 0, .int .u64 0, .int .i64 0, .int .i64 0]) (by simp [results, Try.results28, go_sem, b0, b1, b2, b3, b4, b5, b6, b7]) rfl ⟨_, _, rfl, ?_, ?_⟩
  · exact Or.inl ⟨rfl, rfl, rfl⟩
  · iterate 8 (refine Below.set ?_ _ _ _ (by omega))
    exact (((((Below.refl _ w).alloc (Nat.le_refl _) _).alloc (by simp only [alloc_size]; omega) _).alloc (by simp only [alloc_size]; omega) _).alloc (by simp only [alloc_size]; omega) _).trans (hb2.mono (by simp only [alloc_size]; omega))
set_option maxHeartbeats 1600000 in
theorem laneReserve_no (L : Ln) (ao : Option Addr) (cap : Nat) (at1 b : Int) (_ha0 : 0 ≤ at1) (_ha1 : at1 ≤ 18446744073709551615) (w : World) (hf : L.fits) (hr : Rd w ao L.key) (hb : blkB b = true) (h1 : L.send ≤ at1) (h2 : at1 ≤ 18446744073709551614) (hok' : L.ok = false) :
   Calls Try.prog 28 #[L.val ao cap, .int .u64 at1, .int .i64 b] w fun e w' => ∃ ao' cap', e = .returned ((reserveL L at1 b).val ao' cap') ∧ Mine w' w.heap.size 5 ao' cap' (reserveL L at1 b).key ∧ Below w.heap.size w w' := by
  obtain ⟨hl, hcur0, hcur1, hnext0, hnext1, hsend0, hsend1, hceil0, hceil1, hs⟩ := hf
  obtain ⟨key, side, cur, next, send, ceil, sec, nano⟩ := L
  unfold Ln.val
  simp only at hl hcur0 hcur1 hnext0 hnext1 hsend0 hsend1 hceil0 hceil1 hs hr h1 h2 hok' ⊢
  have hno : (true && Ln.ok ⟨key, side, cur, next, send, ceil, sec, nano⟩) = false := by simpa using hok'
  have hz : reserveL ⟨key, side, cur, next, send, ceil, sec, nano⟩ at1 b = Ln.zero := by
    have : mayR ⟨key, side, cur, next, send, ceil, sec, nano⟩ at1 b = false := by simp [mayR, hb, h1, h2, hok']
    simp [reserveL, this]
  rw [hz]
  unfold Ln.zero
  have HB := Lib.hid (show blkB b = true from hb)
  clear hb hz
  go_enter Try.func28, Try.ntmps28
  go_wp2_with fail
  refine (laneBlock b _).mono ?_
  rintro e w1 ⟨rfl, rfl⟩
  rw [HB.out]
  go_wp2_with fail
  refine (laneChanged0 ⟨key, side, cur, next, send, ceil, sec, nano⟩ ao cap true _ _ hs hno).mono ?_
  rintro e w2 ⟨he, hb2⟩
  obtain rfl : e = .returned (.agg #[.slice none 0 0, .int .i64 0, .int .i64 0, .int .i64 0, .int .u64 0, .int .u64 0, .int .i64 0, .int .i64 0]) := he
  have y : w2.heap[w.heap.size + 3]? = some (.cells #[.slice none 0 0, .int .i64 0, .int .i64 0, .int .i64 0, .int .u64 0, .int .u64 0, .int .i64 0, .int .i64 0] 27 (0, 0)) := (hb_block hb2 (w.heap.size + 3) (by simp only [alloc_size]; omega)).trans (by simp only [alloc_get, alloc_size]; repeat first | rw [if_pos trivial] | rw [if_neg (by omega)] | rw [if_pos (by omega)])
  have b0 : w2.cell? ⟨w.heap.size + 3, 0, none⟩ = some (.slice none 0 0) := cell_of_row w2 (w.heap.size + 3) 0 _ _ _ y
  have b1 : w2.cell? ⟨w.heap.size + 3, 1, none⟩ = some (.int .i64 0) := cell_of_row w2 (w.heap.size + 3) 1 _ _ _ y
  have b2 : w2.cell? ⟨w.heap.size + 3, 2, none⟩ = some (.int .i64 0) := cell_of_row w2 (w.heap.size + 3) 2 _ _ _ y
  have b3 : w2.cell? ⟨w.heap.size + 3, 3, none⟩ = some (.int .i64 0) := cell_of_row w2 (w.heap.size + 3) 3 _ _ _ y
  have b4 : w2.cell? ⟨w.heap.size + 3, 4, none⟩ = some (.int .u64 0) := cell_of_row w2 (w.heap.size + 3) 4 _ _ _ y
  have b5 : w2.cell? ⟨w.heap.size + 3, 5, none⟩ = some (.int .u64 0) := cell_of_row w2 (w.heap.size + 3) 5 _ _ _ y
  have b6 : w2.cell? ⟨w.heap.size + 3, 6, none⟩ = some (.int .i64 0) := cell_of_row w2 (w.heap.size + 3) 6 _ _ _ y
  have b7 : w2.cell? ⟨w.heap.size + 3, 7, none⟩ = some (.int .i64 0) := cell_of_row w2 (w.heap.size + 3) 7 _ _ _ y
  have bf (i : Nat) : w2.frozen? ⟨w.heap.size + 3, i, none⟩ = false := frozen_of_row w2 (w.heap.size + 3) i _ _ y
  clear y
  go_wp2_with fail
  refine bodyPost_ret (v := .agg #[.slice none 0 0, .int .i64 0, .int .i64 0, .int .i64 0, .int .u64 0, .int .u64 0, .int .i64 0, .int .i64 0]) (by simp [results, Try.results28, go_sem, b0, b1, b2, b3, b4, b5, b6, b7]) rfl ⟨_, _, rfl, ?_, ?_⟩
  · exact Or.inl ⟨rfl, rfl, rfl⟩
  · iterate 8 (refine Below.set ?_ _ _ _ (by omega))
    exact (((((Below.refl _ w).alloc (Nat.le_refl _) _).alloc (by simp only [alloc_size]; omega) _).alloc (by simp only [alloc_size]; omega) _).alloc (by simp only [alloc_size]; omega) _).trans (hb2.mono (by simp only [alloc_size]; omega))
set_option maxHeartbeats 1600000 in
theorem laneReserve_yes (L : Ln) (ao : Option Addr) (cap : Nat) (at1 b : Int) (ha0 : 0 ≤ at1) (ha1 : at1 ≤ 18446744073709551615) (w : World) (hf : L.fits) (hr : Rd w ao L.key) (hb : blkB b = true) (h1 : L.send ≤ at1) (h2 : at1 ≤ 18446744073709551614) (hok : L.ok = true) :
   Calls Try.prog 28 #[L.val ao cap, .int .u64 at1, .int .i64 b] w fun e w' => ∃ ao' cap', e = .returned ((reserveL L at1 b).val ao' cap') ∧ Mine w' w.heap.size 5 ao' cap' (reserveL L at1 b).key ∧ Below w.heap.size w w' := by
  obtain ⟨hl, hcur0, hcur1, hnext0, hnext1, hsend0, hsend1, hceil0, hceil1, hs⟩ := hf
  obtain ⟨key, side, cur, next, send, ceil, sec, nano⟩ := L
  unfold Ln.val
  simp only at hl hcur0 hcur1 hnext0 hnext1 hsend0 hsend1 hceil0 hceil1 hs hr h1 h2 hok ⊢
  have hy : reserveL ⟨key, side, cur, next, send, ceil, sec, nano⟩ at1 b = Ln.keep ⟨key, side, cur, next, send, ceil, sec, nano⟩ cur next (upF at1 b) ceil sec nano := by
    have : mayR ⟨key, side, cur, next, send, ceil, sec, nano⟩ at1 b = true := by simp [mayR, hb, hok, h1, h2]
    simp [reserveL, this]
  rw [hy]
  have HB := Lib.hid (show blkB b = true from hb)
  have HK := Lib.hid hok
  clear hb hy hok
  unfold Ln.keep
  go_enter Try.func28, Try.ntmps28
  go_wp2_with fail
  refine (laneBlock b _).mono ?_
  rintro e w1 ⟨rfl, rfl⟩
  rw [HB.out]
  go_wp2_with fail
  refine (laneChanged1 ⟨key, side, cur, next, send, ceil, sec, nano⟩ cur next (upF at1 b) ceil sec nano ao cap 56 _ _ hs HK.out ?hrw (fun _ _ => rfl) ?hclo).mono ?_
  case hrw => exact hr.on (((((Below.refl _ w).alloc (Nat.le_refl _) _).alloc (by simp only [alloc_size]; omega) _).alloc (by simp only [alloc_size]; omega) _).alloc (by simp only [alloc_size]; omega) _)
  case hclo =>
    intro W g ar cr hB hg hx
    exact cloReserve W g ar cr key side cur next send ceil sec nano hx (w.heap.size + 1) at1 (w.heap.size + 2) b (by have h := hg; simp only [alloc_size] at h; omega) ((hB.cell (by simp only [alloc_size]; omega)).trans (by go_simp)) ha0 ha1 (by have h := hg; simp only [alloc_size] at h; omega) ((hB.cell (by simp only [alloc_size]; omega)).trans (by go_simp))
  rintro e w2 ⟨ar, cr, he, hm, hb2⟩
  obtain rfl : e = .returned (.agg #[.slice ar key.length cr, .int .i64 side, .int .i64 cur, .int .i64 next, .int .u64 (upF at1 b), .int .u64 ceil, .int .i64 sec, .int .i64 nano]) := he
  have y : w2.heap[w.heap.size + 3]? = some (.cells #[.slice none 0 0, .int .i64 0, .int .i64 0, .int .i64 0, .int .u64 0, .int .u64 0, .int .i64 0, .int .i64 0] 27 (0, 0)) := (hb_block hb2 (w.heap.size + 3) (by simp only [alloc_size]; omega)).trans (by simp only [alloc_get, alloc_size]; repeat first | rw [if_pos trivial] | rw [if_neg (by omega)] | rw [if_pos (by omega)])
  have b0 : w2.cell? ⟨w.heap.size + 3, 0, none⟩ = some (.slice none 0 0) := cell_of_row w2 (w.heap.size + 3) 0 _ _ _ y
  have b1 : w2.cell? ⟨w.heap.size + 3, 1, none⟩ = some (.int .i64 0) := cell_of_row w2 (w.heap.size + 3) 1 _ _ _ y
  have b2 : w2.cell? ⟨w.heap.size + 3, 2, none⟩ = some (.int .i64 0) := cell_of_row w2 (w.heap.size + 3) 2 _ _ _ y
  have b3 : w2.cell? ⟨w.heap.size + 3, 3, none⟩ = some (.int .i64 0) := cell_of_row w2 (w.heap.size + 3) 3 _ _ _ y
  have b4 : w2.cell? ⟨w.heap.size + 3, 4, none⟩ = some (.int .u64 0) := cell_of_row w2 (w.heap.size + 3) 4 _ _ _ y
  have b5 : w2.cell? ⟨w.heap.size + 3, 5, none⟩ = some (.int .u64 0) := cell_of_row w2 (w.heap.size + 3) 5 _ _ _ y
  have b6 : w2.cell? ⟨w.heap.size + 3, 6, none⟩ = some (.int .i64 0) := cell_of_row w2 (w.heap.size + 3) 6 _ _ _ y
  have b7 : w2.cell? ⟨w.heap.size + 3, 7, none⟩ = some (.int .i64 0) := cell_of_row w2 (w.heap.size + 3) 7 _ _ _ y
  have bf (i : Nat) : w2.frozen? ⟨w.heap.size + 3, i, none⟩ = false := frozen_of_row w2 (w.heap.size + 3) i _ _ y
  clear y
  go_wp2_with fail
  refine bodyPost_ret (v := .agg #[.slice ar key.length cr, .int .i64 side, .int .i64 cur, .int .i64 next, .int .u64 (upF at1 b), .int .u64 ceil, .int .i64 sec, .int .i64 nano]) (by simp [results, Try.results28, go_sem, b0, b1, b2, b3, b4, b5, b6, b7]) rfl ⟨_, _, rfl, ?_, ?_⟩
  · refine Mine.from (B := w.heap.size + 4) ?_ (by omega)
    iterate 8 (refine Mine.setCell ?_ _ _ _ (by omega))
    exact Mine.from hm (by simp only [alloc_size]; omega)
  · iterate 8 (refine Below.set ?_ _ _ _ (by omega))
    exact (((((Below.refl _ w).alloc (Nat.le_refl _) _).alloc (by simp only [alloc_size]; omega) _).alloc (by simp only [alloc_size]; omega) _).alloc (by simp only [alloc_size]; omega) _).trans (hb2.mono (by simp only [alloc_size]; omega))
set_option maxHeartbeats 1600000 in
theorem laneReserve (L : Ln) (ao : Option Addr) (cap : Nat) (at1 b : Int) (ha0 : 0 ≤ at1) (ha1 : at1 ≤ 18446744073709551615) (w : World) (hf : L.fits) (hr : Rd w ao L.key) :
   Calls Try.prog 28 #[L.val ao cap, .int .u64 at1, .int .i64 b] w fun e w' => ∃ ao' cap', e = .returned ((reserveL L at1 b).val ao' cap') ∧ Mine w' w.heap.size 5 ao' cap' (reserveL L at1 b).key ∧ Below w.heap.size w w' := by
  by_cases hb : blkB b = true
  · by_cases h1 : L.send ≤ at1
    · by_cases h2 : at1 ≤ 18446744073709551614
      · by_cases hok : L.ok = true
        · exact laneReserve_yes L ao cap at1 b ha0 ha1 w hf hr hb h1 h2 hok
        · exact laneReserve_no L ao cap at1 b ha0 ha1 w hf hr hb h1 h2 (by simpa using hok)
      · exact laneReserve_n2 L ao cap at1 b ha0 ha1 w hf hr hb h1 h2
    · exact laneReserve_n1 L ao cap at1 b ha0 ha1 w hf hr hb  h1
  · have hb : blkB b = false := by simpa using hb
    exact laneReserve_n0 L ao cap at1 b ha0 ha1 w hf hr hb
end Go.Proofs.Ytihndipgdogebaa
