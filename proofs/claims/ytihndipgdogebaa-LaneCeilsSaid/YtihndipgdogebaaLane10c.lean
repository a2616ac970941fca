/- What the reference's Answered makes of a lane. -/
import Derived.Test.YtihndipgdogebaaLane9d
namespace Go.Proofs.Ytihndipgdogebaa
open Go.RowKit
theorem refStampLess (a b c d : Int) (w : World) : Calls Try.prog 61 #[.agg #[.int .i64 a, .int .i64 b], .agg #[.int .i64 c, .int .i64 d]] w fun e w' => e = .returned (.bool (lessB a b c d)) ∧ Below w.heap.size w w' := by
  by_cases h2 : a = c
  · subst h2
    have hb : lessB a b a d = decide (b < d) := by simp [lessB]
    rw [hb]
    have h3 : (a == a) = true := by simp
    have h4 : (a != a) = false := by simp
    go_enter Try.func61, Try.ntmps61
    go_wp2
    all_goals go_ret
    all_goals exact ⟨rfl, fresh2 _ _ _⟩
  · have hb : lessB a b c d = decide (a < c) := by simp [lessB, h2]
    rw [hb]
    have h3 : (a == c) = false := beq_eq_false_iff_ne.2 h2
    have h4 : (a != c) = true := by simp [h2]
    clear h2
    go_enter Try.func61, Try.ntmps61
    go_wp2
    all_goals go_ret
    all_goals exact ⟨rfl, fresh2 _ _ _⟩
set_option maxHeartbeats 800000 in
theorem refAnswered_n0 (L : Ln) (ao : Option Addr) (cap : Nat) (g c ss sn b : Int) (_hc0 : 0 ≤ c) (_hc1 : c ≤ 18446744073709551615) (w : World) (hf : L.fits) (hr : Rd w ao L.key) (hok : L.ok = false) :
   Calls Try.prog 35 #[L.val ao cap, .int .i64 g, .int .u64 c, .agg #[.int .i64 ss, .int .i64 sn], .int .i64 b] w fun e w' => ∃ ao' cap', e = .returned (.tuple #[(answeredL L g c ss sn b).val ao' cap', .int .u64 (atA L g c ss sn b)]) ∧ Mine w' w.heap.size 5 ao' cap' (answeredL L g c ss sn b).key ∧ Below w.heap.size w w' := by
  obtain ⟨hl, hcur0, hcur1, hnext0, hnext1, hsend0, hsend1, hceil0, hceil1, hs⟩ := hf
  obtain ⟨key, side, cur, next, send, ceil, sec, nano⟩ := L
  unfold Ln.val
  simp only at hl hcur0 hcur1 hnext0 hnext1 hsend0 hsend1 hceil0 hceil1 hs hr hok ⊢
  have hma : mayA ⟨key, side, cur, next, send, ceil, sec, nano⟩ g c ss sn b = false := by simp [mayA, hok]
  have hy : answeredL ⟨key, side, cur, next, send, ceil, sec, nano⟩ g c ss sn b = Ln.zero := by simp [answeredL, hma]
  have ha : atA ⟨key, side, cur, next, send, ceil, sec, nano⟩ g c ss sn b = 0 := by simp [atA, hma]
  rw [ha]
  rw [hy]
  unfold Ln.zero
  have HOK := Lib.hid hok
  clear hy hma hok ha
  go_enter Try.func35, Try.ntmps35
  go_wp2_with fail
  refine (refLaneValid ⟨key, side, cur, next, send, ceil, sec, nano⟩ ao cap _).mono ?_
  rintro e w1 ⟨rfl, hb⟩
  rw [HOK.out]
  have hz := hb.size
  simp only [alloc_size] at hz
  have hB := ((((Below.refl _ w).alloc (Nat.le_refl _) _).alloc (by simp only [alloc_size]; omega) _).alloc (by simp only [alloc_size]; omega) _).trans (hb.mono (by simp only [alloc_size]; omega))
  have x0 : w1.heap[w.heap.size]? = some (.cells #[.slice ao key.length cap, .int .i64 side, .int .i64 cur, .int .i64 next, .int .u64 send, .int .u64 ceil, .int .i64 sec, .int .i64 nano] 27 (0, 0)) := (hb_block hb (w.heap.size) (by simp only [alloc_size]; omega)).trans (by simp only [alloc_get, alloc_size]; repeat first | rw [if_pos trivial] | rw [if_neg (by omega)] | rw [if_pos (by omega)])
  have x1 : w1.heap[w.heap.size + 2]? = some (.cells #[.slice none 0 0, .int .i64 0, .int .i64 0, .int .i64 0, .int .u64 0, .int .u64 0, .int .i64 0, .int .i64 0] 27 (0, 0)) := (hb_block hb (w.heap.size + 2) (by simp only [alloc_size]; omega)).trans (by simp only [alloc_get, alloc_size]; repeat first | rw [if_pos trivial] | rw [if_neg (by omega)] | rw [if_pos (by omega)])
  have x2 : w1.heap[w.heap.size + 1]? = some (.cells #[.int .i64 ss, .int .i64 sn] 25 (0, 0)) := (hb_block hb (w.heap.size + 1) (by simp only [alloc_size]; omega)).trans (by simp only [alloc_get, alloc_size]; repeat first | rw [if_pos trivial] | rw [if_neg (by omega)] | rw [if_pos (by omega)])
  clear hb
  have a0 : w1.cell? ⟨w.heap.size, 0, none⟩ = some (.slice ao key.length cap) := cell_of_row w1 (w.heap.size) 0 _ _ _ x0
  have a1 : w1.cell? ⟨w.heap.size, 1, none⟩ = some (.int .i64 side) := cell_of_row w1 (w.heap.size) 1 _ _ _ x0
  have a2 : w1.cell? ⟨w.heap.size, 2, none⟩ = some (.int .i64 cur) := cell_of_row w1 (w.heap.size) 2 _ _ _ x0
  have a3 : w1.cell? ⟨w.heap.size, 3, none⟩ = some (.int .i64 next) := cell_of_row w1 (w.heap.size) 3 _ _ _ x0
  have a4 : w1.cell? ⟨w.heap.size, 4, none⟩ = some (.int .u64 send) := cell_of_row w1 (w.heap.size) 4 _ _ _ x0
  have a5 : w1.cell? ⟨w.heap.size, 5, none⟩ = some (.int .u64 ceil) := cell_of_row w1 (w.heap.size) 5 _ _ _ x0
  have a6 : w1.cell? ⟨w.heap.size, 6, none⟩ = some (.int .i64 sec) := cell_of_row w1 (w.heap.size) 6 _ _ _ x0
  have a7 : w1.cell? ⟨w.heap.size, 7, none⟩ = some (.int .i64 nano) := cell_of_row w1 (w.heap.size) 7 _ _ _ x0
  have af (i : Nat) : w1.frozen? ⟨w.heap.size, i, none⟩ = false := frozen_of_row w1 (w.heap.size) i _ _ x0
  have b0 : w1.cell? ⟨w.heap.size + 2, 0, none⟩ = some (.slice none 0 0) := cell_of_row w1 (w.heap.size + 2) 0 _ _ _ x1
  have b1 : w1.cell? ⟨w.heap.size + 2, 1, none⟩ = some (.int .i64 0) := cell_of_row w1 (w.heap.size + 2) 1 _ _ _ x1
  have b2 : w1.cell? ⟨w.heap.size + 2, 2, none⟩ = some (.int .i64 0) := cell_of_row w1 (w.heap.size + 2) 2 _ _ _ x1
  have b3 : w1.cell? ⟨w.heap.size + 2, 3, none⟩ = some (.int .i64 0) := cell_of_row w1 (w.heap.size + 2) 3 _ _ _ x1
  have b4 : w1.cell? ⟨w.heap.size + 2, 4, none⟩ = some (.int .u64 0) := cell_of_row w1 (w.heap.size + 2) 4 _ _ _ x1
  have b5 : w1.cell? ⟨w.heap.size + 2, 5, none⟩ = some (.int .u64 0) := cell_of_row w1 (w.heap.size + 2) 5 _ _ _ x1
  have b6 : w1.cell? ⟨w.heap.size + 2, 6, none⟩ = some (.int .i64 0) := cell_of_row w1 (w.heap.size + 2) 6 _ _ _ x1
  have b7 : w1.cell? ⟨w.heap.size + 2, 7, none⟩ = some (.int .i64 0) := cell_of_row w1 (w.heap.size + 2) 7 _ _ _ x1
  have bf (i : Nat) : w1.frozen? ⟨w.heap.size + 2, i, none⟩ = false := frozen_of_row w1 (w.heap.size + 2) i _ _ x1
  have s0 : w1.cell? ⟨w.heap.size + 1, 0, none⟩ = some (.int .i64 ss) := cell_of_row w1 (w.heap.size + 1) 0 _ _ _ x2
  have s1 : w1.cell? ⟨w.heap.size + 1, 1, none⟩ = some (.int .i64 sn) := cell_of_row w1 (w.heap.size + 1) 1 _ _ _ x2
  have sf (i : Nat) : w1.frozen? ⟨w.heap.size + 1, i, none⟩ = false := frozen_of_row w1 (w.heap.size + 1) i _ _ x2
  have X0 := Lib.hid x0
  have X1 := Lib.hid x1
  have X2 := Lib.hid x2
  clear x0 x1 x2
  go_wp2_with fail
  refine (refBlocks b _).mono ?_
  rintro e w2 ⟨rfl, hw⟩
  obtain rfl := hw.symm
  go_wp2_with fail
  refine (refStampValid ss sn _).mono ?_
  rintro e w2 ⟨rfl, hb⟩
  have x0 : w2.heap[w.heap.size]? = some (.cells #[.slice ao key.length cap, .int .i64 side, .int .i64 cur, .int .i64 next, .int .u64 send, .int .u64 ceil, .int .i64 sec, .int .i64 nano] 27 (0, 0)) := (hb.block (w.heap.size) (by omega)).trans X0.out
  have x1 : w2.heap[w.heap.size + 2]? = some (.cells #[.slice none 0 0, .int .i64 0, .int .i64 0, .int .i64 0, .int .u64 0, .int .u64 0, .int .i64 0, .int .i64 0] 27 (0, 0)) := (hb.block (w.heap.size + 2) (by omega)).trans X1.out
  have x2 : w2.heap[w.heap.size + 1]? = some (.cells #[.int .i64 ss, .int .i64 sn] 25 (0, 0)) := (hb.block (w.heap.size + 1) (by omega)).trans X2.out
  have hzw2 := hb.size
  have hB := hB.trans (hb.mono (by omega))
  clear hb X0 X1 X2
  clear a0 a1 a2 a3 a4 a5 a6 a7 af
  clear b0 b1 b2 b3 b4 b5 b6 b7 bf
  clear s0 s1 sf
  have a0 : w2.cell? ⟨w.heap.size, 0, none⟩ = some (.slice ao key.length cap) := cell_of_row w2 (w.heap.size) 0 _ _ _ x0
  have a1 : w2.cell? ⟨w.heap.size, 1, none⟩ = some (.int .i64 side) := cell_of_row w2 (w.heap.size) 1 _ _ _ x0
  have a2 : w2.cell? ⟨w.heap.size, 2, none⟩ = some (.int .i64 cur) := cell_of_row w2 (w.heap.size) 2 _ _ _ x0
  have a3 : w2.cell? ⟨w.heap.size, 3, none⟩ = some (.int .i64 next) := cell_of_row w2 (w.heap.size) 3 _ _ _ x0
  have a4 : w2.cell? ⟨w.heap.size, 4, none⟩ = some (.int .u64 send) := cell_of_row w2 (w.heap.size) 4 _ _ _ x0
  have a5 : w2.cell? ⟨w.heap.size, 5, none⟩ = some (.int .u64 ceil) := cell_of_row w2 (w.heap.size) 5 _ _ _ x0
  have a6 : w2.cell? ⟨w.heap.size, 6, none⟩ = some (.int .i64 sec) := cell_of_row w2 (w.heap.size) 6 _ _ _ x0
  have a7 : w2.cell? ⟨w.heap.size, 7, none⟩ = some (.int .i64 nano) := cell_of_row w2 (w.heap.size) 7 _ _ _ x0
  have af (i : Nat) : w2.frozen? ⟨w.heap.size, i, none⟩ = false := frozen_of_row w2 (w.heap.size) i _ _ x0
  have b0 : w2.cell? ⟨w.heap.size + 2, 0, none⟩ = some (.slice none 0 0) := cell_of_row w2 (w.heap.size + 2) 0 _ _ _ x1
  have b1 : w2.cell? ⟨w.heap.size + 2, 1, none⟩ = some (.int .i64 0) := cell_of_row w2 (w.heap.size + 2) 1 _ _ _ x1
  have b2 : w2.cell? ⟨w.heap.size + 2, 2, none⟩ = some (.int .i64 0) := cell_of_row w2 (w.heap.size + 2) 2 _ _ _ x1
  have b3 : w2.cell? ⟨w.heap.size + 2, 3, none⟩ = some (.int .i64 0) := cell_of_row w2 (w.heap.size + 2) 3 _ _ _ x1
  have b4 : w2.cell? ⟨w.heap.size + 2, 4, none⟩ = some (.int .u64 0) := cell_of_row w2 (w.heap.size + 2) 4 _ _ _ x1
  have b5 : w2.cell? ⟨w.heap.size + 2, 5, none⟩ = some (.int .u64 0) := cell_of_row w2 (w.heap.size + 2) 5 _ _ _ x1
  have b6 : w2.cell? ⟨w.heap.size + 2, 6, none⟩ = some (.int .i64 0) := cell_of_row w2 (w.heap.size + 2) 6 _ _ _ x1
  have b7 : w2.cell? ⟨w.heap.size + 2, 7, none⟩ = some (.int .i64 0) := cell_of_row w2 (w.heap.size + 2) 7 _ _ _ x1
  have bf (i : Nat) : w2.frozen? ⟨w.heap.size + 2, i, none⟩ = false := frozen_of_row w2 (w.heap.size + 2) i _ _ x1
  have s0 : w2.cell? ⟨w.heap.size + 1, 0, none⟩ = some (.int .i64 ss) := cell_of_row w2 (w.heap.size + 1) 0 _ _ _ x2
  have s1 : w2.cell? ⟨w.heap.size + 1, 1, none⟩ = some (.int .i64 sn) := cell_of_row w2 (w.heap.size + 1) 1 _ _ _ x2
  have sf (i : Nat) : w2.frozen? ⟨w.heap.size + 1, i, none⟩ = false := frozen_of_row w2 (w.heap.size + 1) i _ _ x2
  have X0 := Lib.hid x0
  have X1 := Lib.hid x1
  have X2 := Lib.hid x2
  clear x0 x1 x2
  go_wp2_with fail
  refine (refStampLess sec nano ss sn _).mono ?_
  rintro e w3 ⟨rfl, hb⟩
  have x0 : w3.heap[w.heap.size]? = some (.cells #[.slice ao key.length cap, .int .i64 side, .int .i64 cur, .int .i64 next, .int .u64 send, .int .u64 ceil, .int .i64 sec, .int .i64 nano] 27 (0, 0)) := (hb.block (w.heap.size) (by omega)).trans X0.out
  have x1 : w3.heap[w.heap.size + 2]? = some (.cells #[.slice none 0 0, .int .i64 0, .int .i64 0, .int .i64 0, .int .u64 0, .int .u64 0, .int .i64 0, .int .i64 0] 27 (0, 0)) := (hb.block (w.heap.size + 2) (by omega)).trans X1.out
  have x2 : w3.heap[w.heap.size + 1]? = some (.cells #[.int .i64 ss, .int .i64 sn] 25 (0, 0)) := (hb.block (w.heap.size + 1) (by omega)).trans X2.out
  have hzw3 := hb.size
  have hB := hB.trans (hb.mono (by omega))
  clear hb X0 X1 X2
  clear a0 a1 a2 a3 a4 a5 a6 a7 af
  clear b0 b1 b2 b3 b4 b5 b6 b7 bf
  clear s0 s1 sf
  have a0 : w3.cell? ⟨w.heap.size, 0, none⟩ = some (.slice ao key.length cap) := cell_of_row w3 (w.heap.size) 0 _ _ _ x0
  have a1 : w3.cell? ⟨w.heap.size, 1, none⟩ = some (.int .i64 side) := cell_of_row w3 (w.heap.size) 1 _ _ _ x0
  have a2 : w3.cell? ⟨w.heap.size, 2, none⟩ = some (.int .i64 cur) := cell_of_row w3 (w.heap.size) 2 _ _ _ x0
  have a3 : w3.cell? ⟨w.heap.size, 3, none⟩ = some (.int .i64 next) := cell_of_row w3 (w.heap.size) 3 _ _ _ x0
  have a4 : w3.cell? ⟨w.heap.size, 4, none⟩ = some (.int .u64 send) := cell_of_row w3 (w.heap.size) 4 _ _ _ x0
  have a5 : w3.cell? ⟨w.heap.size, 5, none⟩ = some (.int .u64 ceil) := cell_of_row w3 (w.heap.size) 5 _ _ _ x0
  have a6 : w3.cell? ⟨w.heap.size, 6, none⟩ = some (.int .i64 sec) := cell_of_row w3 (w.heap.size) 6 _ _ _ x0
  have a7 : w3.cell? ⟨w.heap.size, 7, none⟩ = some (.int .i64 nano) := cell_of_row w3 (w.heap.size) 7 _ _ _ x0
  have af (i : Nat) : w3.frozen? ⟨w.heap.size, i, none⟩ = false := frozen_of_row w3 (w.heap.size) i _ _ x0
  have b0 : w3.cell? ⟨w.heap.size + 2, 0, none⟩ = some (.slice none 0 0) := cell_of_row w3 (w.heap.size + 2) 0 _ _ _ x1
  have b1 : w3.cell? ⟨w.heap.size + 2, 1, none⟩ = some (.int .i64 0) := cell_of_row w3 (w.heap.size + 2) 1 _ _ _ x1
  have b2 : w3.cell? ⟨w.heap.size + 2, 2, none⟩ = some (.int .i64 0) := cell_of_row w3 (w.heap.size + 2) 2 _ _ _ x1
  have b3 : w3.cell? ⟨w.heap.size + 2, 3, none⟩ = some (.int .i64 0) := cell_of_row w3 (w.heap.size + 2) 3 _ _ _ x1
  have b4 : w3.cell? ⟨w.heap.size + 2, 4, none⟩ = some (.int .u64 0) := cell_of_row w3 (w.heap.size + 2) 4 _ _ _ x1
  have b5 : w3.cell? ⟨w.heap.size + 2, 5, none⟩ = some (.int .u64 0) := cell_of_row w3 (w.heap.size + 2) 5 _ _ _ x1
  have b6 : w3.cell? ⟨w.heap.size + 2, 6, none⟩ = some (.int .i64 0) := cell_of_row w3 (w.heap.size + 2) 6 _ _ _ x1
  have b7 : w3.cell? ⟨w.heap.size + 2, 7, none⟩ = some (.int .i64 0) := cell_of_row w3 (w.heap.size + 2) 7 _ _ _ x1
  have bf (i : Nat) : w3.frozen? ⟨w.heap.size + 2, i, none⟩ = false := frozen_of_row w3 (w.heap.size + 2) i _ _ x1
  have s0 : w3.cell? ⟨w.heap.size + 1, 0, none⟩ = some (.int .i64 ss) := cell_of_row w3 (w.heap.size + 1) 0 _ _ _ x2
  have s1 : w3.cell? ⟨w.heap.size + 1, 1, none⟩ = some (.int .i64 sn) := cell_of_row w3 (w.heap.size + 1) 1 _ _ _ x2
  have sf (i : Nat) : w3.frozen? ⟨w.heap.size + 1, i, none⟩ = false := frozen_of_row w3 (w.heap.size + 1) i _ _ x2
  have X0 := Lib.hid x0
  have X1 := Lib.hid x1
  have X2 := Lib.hid x2
  clear x0 x1 x2
  go_wp2_with fail
  refine bodyPost_ret (v := .tuple #[.agg #[.slice none 0 0, .int .i64 0, .int .i64 0, .int .i64 0, .int .u64 0, .int .u64 0, .int .i64 0, .int .i64 0], .int .u64 0]) (by simp [results, Try.results35, go_sem, b0, b1, b2, b3, b4, b5, b6, b7]) rfl ⟨_, _, rfl, Or.inl ⟨rfl, rfl, rfl⟩, ?_⟩
  iterate 8 (refine Below.set ?_ _ _ _ (by omega))
  exact hB
set_option maxHeartbeats 800000 in
theorem refAnswered_n1 (L : Ln) (ao : Option Addr) (cap : Nat) (g c ss sn b : Int) (_hc0 : 0 ≤ c) (_hc1 : c ≤ 18446744073709551615) (w : World) (hf : L.fits) (hr : Rd w ao L.key) (hok : L.ok = true) (hbk : blkB b = false) :
   Calls Try.prog 35 #[L.val ao cap, .int .i64 g, .int .u64 c, .agg #[.int .i64 ss, .int .i64 sn], .int .i64 b] w fun e w' => ∃ ao' cap', e = .returned (.tuple #[(answeredL L g c ss sn b).val ao' cap', .int .u64 (atA L g c ss sn b)]) ∧ Mine w' w.heap.size 5 ao' cap' (answeredL L g c ss sn b).key ∧ Below w.heap.size w w' := by
  obtain ⟨hl, hcur0, hcur1, hnext0, hnext1, hsend0, hsend1, hceil0, hceil1, hs⟩ := hf
  obtain ⟨key, side, cur, next, send, ceil, sec, nano⟩ := L
  unfold Ln.val
  simp only at hl hcur0 hcur1 hnext0 hnext1 hsend0 hsend1 hceil0 hceil1 hs hr hok ⊢
  have hma : mayA ⟨key, side, cur, next, send, ceil, sec, nano⟩ g c ss sn b = false := by simp [mayA, hok, hbk]
  have hy : answeredL ⟨key, side, cur, next, send, ceil, sec, nano⟩ g c ss sn b = Ln.zero := by simp [answeredL, hma]
  have ha : atA ⟨key, side, cur, next, send, ceil, sec, nano⟩ g c ss sn b = 0 := by simp [atA, hma]
  rw [ha]
  rw [hy]
  unfold Ln.zero
  have HOK := Lib.hid hok
  have HBK := Lib.hid hbk
  clear hy hma hok hbk ha
  go_enter Try.func35, Try.ntmps35
  go_wp2_with fail
  refine (refLaneValid ⟨key, side, cur, next, send, ceil, sec, nano⟩ ao cap _).mono ?_
  rintro e w1 ⟨rfl, hb⟩
  rw [HOK.out]
  have hz := hb.size
  simp only [alloc_size] at hz
  have hB := ((((Below.refl _ w).alloc (Nat.le_refl _) _).alloc (by simp only [alloc_size]; omega) _).alloc (by simp only [alloc_size]; omega) _).trans (hb.mono (by simp only [alloc_size]; omega))
  have x0 : w1.heap[w.heap.size]? = some (.cells #[.slice ao key.length cap, .int .i64 side, .int .i64 cur, .int .i64 next, .int .u64 send, .int .u64 ceil, .int .i64 sec, .int .i64 nano] 27 (0, 0)) := (hb_block hb (w.heap.size) (by simp only [alloc_size]; omega)).trans (by simp only [alloc_get, alloc_size]; repeat first | rw [if_pos trivial] | rw [if_neg (by omega)] | rw [if_pos (by omega)])
  have x1 : w1.heap[w.heap.size + 2]? = some (.cells #[.slice none 0 0, .int .i64 0, .int .i64 0, .int .i64 0, .int .u64 0, .int .u64 0, .int .i64 0, .int .i64 0] 27 (0, 0)) := (hb_block hb (w.heap.size + 2) (by simp only [alloc_size]; omega)).trans (by simp only [alloc_get, alloc_size]; repeat first | rw [if_pos trivial] | rw [if_neg (by omega)] | rw [if_pos (by omega)])
  have x2 : w1.heap[w.heap.size + 1]? = some (.cells #[.int .i64 ss, .int .i64 sn] 25 (0, 0)) := (hb_block hb (w.heap.size + 1) (by simp only [alloc_size]; omega)).trans (by simp only [alloc_get, alloc_size]; repeat first | rw [if_pos trivial] | rw [if_neg (by omega)] | rw [if_pos (by omega)])
  clear hb
  have a0 : w1.cell? ⟨w.heap.size, 0, none⟩ = some (.slice ao key.length cap) := cell_of_row w1 (w.heap.size) 0 _ _ _ x0
  have a1 : w1.cell? ⟨w.heap.size, 1, none⟩ = some (.int .i64 side) := cell_of_row w1 (w.heap.size) 1 _ _ _ x0
  have a2 : w1.cell? ⟨w.heap.size, 2, none⟩ = some (.int .i64 cur) := cell_of_row w1 (w.heap.size) 2 _ _ _ x0
  have a3 : w1.cell? ⟨w.heap.size, 3, none⟩ = some (.int .i64 next) := cell_of_row w1 (w.heap.size) 3 _ _ _ x0
  have a4 : w1.cell? ⟨w.heap.size, 4, none⟩ = some (.int .u64 send) := cell_of_row w1 (w.heap.size) 4 _ _ _ x0
  have a5 : w1.cell? ⟨w.heap.size, 5, none⟩ = some (.int .u64 ceil) := cell_of_row w1 (w.heap.size) 5 _ _ _ x0
  have a6 : w1.cell? ⟨w.heap.size, 6, none⟩ = some (.int .i64 sec) := cell_of_row w1 (w.heap.size) 6 _ _ _ x0
  have a7 : w1.cell? ⟨w.heap.size, 7, none⟩ = some (.int .i64 nano) := cell_of_row w1 (w.heap.size) 7 _ _ _ x0
  have af (i : Nat) : w1.frozen? ⟨w.heap.size, i, none⟩ = false := frozen_of_row w1 (w.heap.size) i _ _ x0
  have b0 : w1.cell? ⟨w.heap.size + 2, 0, none⟩ = some (.slice none 0 0) := cell_of_row w1 (w.heap.size + 2) 0 _ _ _ x1
  have b1 : w1.cell? ⟨w.heap.size + 2, 1, none⟩ = some (.int .i64 0) := cell_of_row w1 (w.heap.size + 2) 1 _ _ _ x1
  have b2 : w1.cell? ⟨w.heap.size + 2, 2, none⟩ = some (.int .i64 0) := cell_of_row w1 (w.heap.size + 2) 2 _ _ _ x1
  have b3 : w1.cell? ⟨w.heap.size + 2, 3, none⟩ = some (.int .i64 0) := cell_of_row w1 (w.heap.size + 2) 3 _ _ _ x1
  have b4 : w1.cell? ⟨w.heap.size + 2, 4, none⟩ = some (.int .u64 0) := cell_of_row w1 (w.heap.size + 2) 4 _ _ _ x1
  have b5 : w1.cell? ⟨w.heap.size + 2, 5, none⟩ = some (.int .u64 0) := cell_of_row w1 (w.heap.size + 2) 5 _ _ _ x1
  have b6 : w1.cell? ⟨w.heap.size + 2, 6, none⟩ = some (.int .i64 0) := cell_of_row w1 (w.heap.size + 2) 6 _ _ _ x1
  have b7 : w1.cell? ⟨w.heap.size + 2, 7, none⟩ = some (.int .i64 0) := cell_of_row w1 (w.heap.size + 2) 7 _ _ _ x1
  have bf (i : Nat) : w1.frozen? ⟨w.heap.size + 2, i, none⟩ = false := frozen_of_row w1 (w.heap.size + 2) i _ _ x1
  have s0 : w1.cell? ⟨w.heap.size + 1, 0, none⟩ = some (.int .i64 ss) := cell_of_row w1 (w.heap.size + 1) 0 _ _ _ x2
  have s1 : w1.cell? ⟨w.heap.size + 1, 1, none⟩ = some (.int .i64 sn) := cell_of_row w1 (w.heap.size + 1) 1 _ _ _ x2
  have sf (i : Nat) : w1.frozen? ⟨w.heap.size + 1, i, none⟩ = false := frozen_of_row w1 (w.heap.size + 1) i _ _ x2
  have X0 := Lib.hid x0
  have X1 := Lib.hid x1
  have X2 := Lib.hid x2
  clear x0 x1 x2
  go_wp2_with fail
  refine (refBlocks b _).mono ?_
  rintro e w2 ⟨rfl, hw⟩
  obtain rfl := hw.symm
  rw [HBK.out]
  go_wp2_with fail
  refine (refStampValid ss sn _).mono ?_
  rintro e w2 ⟨rfl, hb⟩
  have x0 : w2.heap[w.heap.size]? = some (.cells #[.slice ao key.length cap, .int .i64 side, .int .i64 cur, .int .i64 next, .int .u64 send, .int .u64 ceil, .int .i64 sec, .int .i64 nano] 27 (0, 0)) := (hb.block (w.heap.size) (by omega)).trans X0.out
  have x1 : w2.heap[w.heap.size + 2]? = some (.cells #[.slice none 0 0, .int .i64 0, .int .i64 0, .int .i64 0, .int .u64 0, .int .u64 0, .int .i64 0, .int .i64 0] 27 (0, 0)) := (hb.block (w.heap.size + 2) (by omega)).trans X1.out
  have x2 : w2.heap[w.heap.size + 1]? = some (.cells #[.int .i64 ss, .int .i64 sn] 25 (0, 0)) := (hb.block (w.heap.size + 1) (by omega)).trans X2.out
  have hzw2 := hb.size
  have hB := hB.trans (hb.mono (by omega))
  clear hb X0 X1 X2
  clear a0 a1 a2 a3 a4 a5 a6 a7 af
  clear b0 b1 b2 b3 b4 b5 b6 b7 bf
  clear s0 s1 sf
  have a0 : w2.cell? ⟨w.heap.size, 0, none⟩ = some (.slice ao key.length cap) := cell_of_row w2 (w.heap.size) 0 _ _ _ x0
  have a1 : w2.cell? ⟨w.heap.size, 1, none⟩ = some (.int .i64 side) := cell_of_row w2 (w.heap.size) 1 _ _ _ x0
  have a2 : w2.cell? ⟨w.heap.size, 2, none⟩ = some (.int .i64 cur) := cell_of_row w2 (w.heap.size) 2 _ _ _ x0
  have a3 : w2.cell? ⟨w.heap.size, 3, none⟩ = some (.int .i64 next) := cell_of_row w2 (w.heap.size) 3 _ _ _ x0
  have a4 : w2.cell? ⟨w.heap.size, 4, none⟩ = some (.int .u64 send) := cell_of_row w2 (w.heap.size) 4 _ _ _ x0
  have a5 : w2.cell? ⟨w.heap.size, 5, none⟩ = some (.int .u64 ceil) := cell_of_row w2 (w.heap.size) 5 _ _ _ x0
  have a6 : w2.cell? ⟨w.heap.size, 6, none⟩ = some (.int .i64 sec) := cell_of_row w2 (w.heap.size) 6 _ _ _ x0
  have a7 : w2.cell? ⟨w.heap.size, 7, none⟩ = some (.int .i64 nano) := cell_of_row w2 (w.heap.size) 7 _ _ _ x0
  have af (i : Nat) : w2.frozen? ⟨w.heap.size, i, none⟩ = false := frozen_of_row w2 (w.heap.size) i _ _ x0
  have b0 : w2.cell? ⟨w.heap.size + 2, 0, none⟩ = some (.slice none 0 0) := cell_of_row w2 (w.heap.size + 2) 0 _ _ _ x1
  have b1 : w2.cell? ⟨w.heap.size + 2, 1, none⟩ = some (.int .i64 0) := cell_of_row w2 (w.heap.size + 2) 1 _ _ _ x1
  have b2 : w2.cell? ⟨w.heap.size + 2, 2, none⟩ = some (.int .i64 0) := cell_of_row w2 (w.heap.size + 2) 2 _ _ _ x1
  have b3 : w2.cell? ⟨w.heap.size + 2, 3, none⟩ = some (.int .i64 0) := cell_of_row w2 (w.heap.size + 2) 3 _ _ _ x1
  have b4 : w2.cell? ⟨w.heap.size + 2, 4, none⟩ = some (.int .u64 0) := cell_of_row w2 (w.heap.size + 2) 4 _ _ _ x1
  have b5 : w2.cell? ⟨w.heap.size + 2, 5, none⟩ = some (.int .u64 0) := cell_of_row w2 (w.heap.size + 2) 5 _ _ _ x1
  have b6 : w2.cell? ⟨w.heap.size + 2, 6, none⟩ = some (.int .i64 0) := cell_of_row w2 (w.heap.size + 2) 6 _ _ _ x1
  have b7 : w2.cell? ⟨w.heap.size + 2, 7, none⟩ = some (.int .i64 0) := cell_of_row w2 (w.heap.size + 2) 7 _ _ _ x1
  have bf (i : Nat) : w2.frozen? ⟨w.heap.size + 2, i, none⟩ = false := frozen_of_row w2 (w.heap.size + 2) i _ _ x1
  have s0 : w2.cell? ⟨w.heap.size + 1, 0, none⟩ = some (.int .i64 ss) := cell_of_row w2 (w.heap.size + 1) 0 _ _ _ x2
  have s1 : w2.cell? ⟨w.heap.size + 1, 1, none⟩ = some (.int .i64 sn) := cell_of_row w2 (w.heap.size + 1) 1 _ _ _ x2
  have sf (i : Nat) : w2.frozen? ⟨w.heap.size + 1, i, none⟩ = false := frozen_of_row w2 (w.heap.size + 1) i _ _ x2
  have X0 := Lib.hid x0
  have X1 := Lib.hid x1
  have X2 := Lib.hid x2
  clear x0 x1 x2
  go_wp2_with fail
  refine (refStampLess sec nano ss sn _).mono ?_
  rintro e w3 ⟨rfl, hb⟩
  have x0 : w3.heap[w.heap.size]? = some (.cells #[.slice ao key.length cap, .int .i64 side, .int .i64 cur, .int .i64 next, .int .u64 send, .int .u64 ceil, .int .i64 sec, .int .i64 nano] 27 (0, 0)) := (hb.block (w.heap.size) (by omega)).trans X0.out
  have x1 : w3.heap[w.heap.size + 2]? = some (.cells #[.slice none 0 0, .int .i64 0, .int .i64 0, .int .i64 0, .int .u64 0, .int .u64 0, .int .i64 0, .int .i64 0] 27 (0, 0)) := (hb.block (w.heap.size + 2) (by omega)).trans X1.out
  have x2 : w3.heap[w.heap.size + 1]? = some (.cells #[.int .i64 ss, .int .i64 sn] 25 (0, 0)) := (hb.block (w.heap.size + 1) (by omega)).trans X2.out
  have hzw3 := hb.size
  have hB := hB.trans (hb.mono (by omega))
  clear hb X0 X1 X2
  clear a0 a1 a2 a3 a4 a5 a6 a7 af
  clear b0 b1 b2 b3 b4 b5 b6 b7 bf
  clear s0 s1 sf
  have a0 : w3.cell? ⟨w.heap.size, 0, none⟩ = some (.slice ao key.length cap) := cell_of_row w3 (w.heap.size) 0 _ _ _ x0
  have a1 : w3.cell? ⟨w.heap.size, 1, none⟩ = some (.int .i64 side) := cell_of_row w3 (w.heap.size) 1 _ _ _ x0
  have a2 : w3.cell? ⟨w.heap.size, 2, none⟩ = some (.int .i64 cur) := cell_of_row w3 (w.heap.size) 2 _ _ _ x0
  have a3 : w3.cell? ⟨w.heap.size, 3, none⟩ = some (.int .i64 next) := cell_of_row w3 (w.heap.size) 3 _ _ _ x0
  have a4 : w3.cell? ⟨w.heap.size, 4, none⟩ = some (.int .u64 send) := cell_of_row w3 (w.heap.size) 4 _ _ _ x0
  have a5 : w3.cell? ⟨w.heap.size, 5, none⟩ = some (.int .u64 ceil) := cell_of_row w3 (w.heap.size) 5 _ _ _ x0
  have a6 : w3.cell? ⟨w.heap.size, 6, none⟩ = some (.int .i64 sec) := cell_of_row w3 (w.heap.size) 6 _ _ _ x0
  have a7 : w3.cell? ⟨w.heap.size, 7, none⟩ = some (.int .i64 nano) := cell_of_row w3 (w.heap.size) 7 _ _ _ x0
  have af (i : Nat) : w3.frozen? ⟨w.heap.size, i, none⟩ = false := frozen_of_row w3 (w.heap.size) i _ _ x0
  have b0 : w3.cell? ⟨w.heap.size + 2, 0, none⟩ = some (.slice none 0 0) := cell_of_row w3 (w.heap.size + 2) 0 _ _ _ x1
  have b1 : w3.cell? ⟨w.heap.size + 2, 1, none⟩ = some (.int .i64 0) := cell_of_row w3 (w.heap.size + 2) 1 _ _ _ x1
  have b2 : w3.cell? ⟨w.heap.size + 2, 2, none⟩ = some (.int .i64 0) := cell_of_row w3 (w.heap.size + 2) 2 _ _ _ x1
  have b3 : w3.cell? ⟨w.heap.size + 2, 3, none⟩ = some (.int .i64 0) := cell_of_row w3 (w.heap.size + 2) 3 _ _ _ x1
  have b4 : w3.cell? ⟨w.heap.size + 2, 4, none⟩ = some (.int .u64 0) := cell_of_row w3 (w.heap.size + 2) 4 _ _ _ x1
  have b5 : w3.cell? ⟨w.heap.size + 2, 5, none⟩ = some (.int .u64 0) := cell_of_row w3 (w.heap.size + 2) 5 _ _ _ x1
  have b6 : w3.cell? ⟨w.heap.size + 2, 6, none⟩ = some (.int .i64 0) := cell_of_row w3 (w.heap.size + 2) 6 _ _ _ x1
  have b7 : w3.cell? ⟨w.heap.size + 2, 7, none⟩ = some (.int .i64 0) := cell_of_row w3 (w.heap.size + 2) 7 _ _ _ x1
  have bf (i : Nat) : w3.frozen? ⟨w.heap.size + 2, i, none⟩ = false := frozen_of_row w3 (w.heap.size + 2) i _ _ x1
  have s0 : w3.cell? ⟨w.heap.size + 1, 0, none⟩ = some (.int .i64 ss) := cell_of_row w3 (w.heap.size + 1) 0 _ _ _ x2
  have s1 : w3.cell? ⟨w.heap.size + 1, 1, none⟩ = some (.int .i64 sn) := cell_of_row w3 (w.heap.size + 1) 1 _ _ _ x2
  have sf (i : Nat) : w3.frozen? ⟨w.heap.size + 1, i, none⟩ = false := frozen_of_row w3 (w.heap.size + 1) i _ _ x2
  have X0 := Lib.hid x0
  have X1 := Lib.hid x1
  have X2 := Lib.hid x2
  clear x0 x1 x2
  go_wp2_with fail
  refine bodyPost_ret (v := .tuple #[.agg #[.slice none 0 0, .int .i64 0, .int .i64 0, .int .i64 0, .int .u64 0, .int .u64 0, .int .i64 0, .int .i64 0], .int .u64 0]) (by simp [results, Try.results35, go_sem, b0, b1, b2, b3, b4, b5, b6, b7]) rfl ⟨_, _, rfl, Or.inl ⟨rfl, rfl, rfl⟩, ?_⟩
  iterate 8 (refine Below.set ?_ _ _ _ (by omega))
  exact hB
set_option maxHeartbeats 800000 in
theorem refAnswered_n2 (L : Ln) (ao : Option Addr) (cap : Nat) (g c ss sn b : Int) (_hc0 : 0 ≤ c) (_hc1 : c ≤ 18446744073709551615) (w : World) (hf : L.fits) (hr : Rd w ao L.key) (hok : L.ok = true) (hbk : blkB b = true) (hst : stampB ss sn = false) :
   Calls Try.prog 35 #[L.val ao cap, .int .i64 g, .int .u64 c, .agg #[.int .i64 ss, .int .i64 sn], .int .i64 b] w fun e w' => ∃ ao' cap', e = .returned (.tuple #[(answeredL L g c ss sn b).val ao' cap', .int .u64 (atA L g c ss sn b)]) ∧ Mine w' w.heap.size 5 ao' cap' (answeredL L g c ss sn b).key ∧ Below w.heap.size w w' := by
  obtain ⟨hl, hcur0, hcur1, hnext0, hnext1, hsend0, hsend1, hceil0, hceil1, hs⟩ := hf
  obtain ⟨key, side, cur, next, send, ceil, sec, nano⟩ := L
  unfold Ln.val
  simp only at hl hcur0 hcur1 hnext0 hnext1 hsend0 hsend1 hceil0 hceil1 hs hr hok ⊢
  have hma : mayA ⟨key, side, cur, next, send, ceil, sec, nano⟩ g c ss sn b = false := by simp [mayA, hok, hbk, hst]
  have hy : answeredL ⟨key, side, cur, next, send, ceil, sec, nano⟩ g c ss sn b = Ln.zero := by simp [answeredL, hma]
  have ha : atA ⟨key, side, cur, next, send, ceil, sec, nano⟩ g c ss sn b = 0 := by simp [atA, hma]
  rw [ha]
  rw [hy]
  unfold Ln.zero
  have HOK := Lib.hid hok
  have HBK := Lib.hid hbk
  have HST := Lib.hid hst
  clear hy hma hok hbk hst ha
  go_enter Try.func35, Try.ntmps35
  go_wp2_with fail
  refine (refLaneValid ⟨key, side, cur, next, send, ceil, sec, nano⟩ ao cap _).mono ?_
  rintro e w1 ⟨rfl, hb⟩
  rw [HOK.out]
  have hz := hb.size
  simp only [alloc_size] at hz
  have hB := ((((Below.refl _ w).alloc (Nat.le_refl _) _).alloc (by simp only [alloc_size]; omega) _).alloc (by simp only [alloc_size]; omega) _).trans (hb.mono (by simp only [alloc_size]; omega))
  have x0 : w1.heap[w.heap.size]? = some (.cells #[.slice ao key.length cap, .int .i64 side, .int .i64 cur, .int .i64 next, .int .u64 send, .int .u64 ceil, .int .i64 sec, .int .i64 nano] 27 (0, 0)) := (hb_block hb (w.heap.size) (by simp only [alloc_size]; omega)).trans (by simp only [alloc_get, alloc_size]; repeat first | rw [if_pos trivial] | rw [if_neg (by omega)] | rw [if_pos (by omega)])
  have x1 : w1.heap[w.heap.size + 2]? = some (.cells #[.slice none 0 0, .int .i64 0, .int .i64 0, .int .i64 0, .int .u64 0, .int .u64 0, .int .i64 0, .int .i64 0] 27 (0, 0)) := (hb_block hb (w.heap.size + 2) (by simp only [alloc_size]; omega)).trans (by simp only [alloc_get, alloc_size]; repeat first | rw [if_pos trivial] | rw [if_neg (by omega)] | rw [if_pos (by omega)])
  have x2 : w1.heap[w.heap.size + 1]? = some (.cells #[.int .i64 ss, .int .i64 sn] 25 (0, 0)) := (hb_block hb (w.heap.size + 1) (by simp only [alloc_size]; omega)).trans (by simp only [alloc_get, alloc_size]; repeat first | rw [if_pos trivial] | rw [if_neg (by omega)] | rw [if_pos (by omega)])
  clear hb
  have a0 : w1.cell? ⟨w.heap.size, 0, none⟩ = some (.slice ao key.length cap) := cell_of_row w1 (w.heap.size) 0 _ _ _ x0
  have a1 : w1.cell? ⟨w.heap.size, 1, none⟩ = some (.int .i64 side) := cell_of_row w1 (w.heap.size) 1 _ _ _ x0
  have a2 : w1.cell? ⟨w.heap.size, 2, none⟩ = some (.int .i64 cur) := cell_of_row w1 (w.heap.size) 2 _ _ _ x0
  have a3 : w1.cell? ⟨w.heap.size, 3, none⟩ = some (.int .i64 next) := cell_of_row w1 (w.heap.size) 3 _ _ _ x0
  have a4 : w1.cell? ⟨w.heap.size, 4, none⟩ = some (.int .u64 send) := cell_of_row w1 (w.heap.size) 4 _ _ _ x0
  have a5 : w1.cell? ⟨w.heap.size, 5, none⟩ = some (.int .u64 ceil) := cell_of_row w1 (w.heap.size) 5 _ _ _ x0
  have a6 : w1.cell? ⟨w.heap.size, 6, none⟩ = some (.int .i64 sec) := cell_of_row w1 (w.heap.size) 6 _ _ _ x0
  have a7 : w1.cell? ⟨w.heap.size, 7, none⟩ = some (.int .i64 nano) := cell_of_row w1 (w.heap.size) 7 _ _ _ x0
  have af (i : Nat) : w1.frozen? ⟨w.heap.size, i, none⟩ = false := frozen_of_row w1 (w.heap.size) i _ _ x0
  have b0 : w1.cell? ⟨w.heap.size + 2, 0, none⟩ = some (.slice none 0 0) := cell_of_row w1 (w.heap.size + 2) 0 _ _ _ x1
  have b1 : w1.cell? ⟨w.heap.size + 2, 1, none⟩ = some (.int .i64 0) := cell_of_row w1 (w.heap.size + 2) 1 _ _ _ x1
  have b2 : w1.cell? ⟨w.heap.size + 2, 2, none⟩ = some (.int .i64 0) := cell_of_row w1 (w.heap.size + 2) 2 _ _ _ x1
  have b3 : w1.cell? ⟨w.heap.size + 2, 3, none⟩ = some (.int .i64 0) := cell_of_row w1 (w.heap.size + 2) 3 _ _ _ x1
  have b4 : w1.cell? ⟨w.heap.size + 2, 4, none⟩ = some (.int .u64 0) := cell_of_row w1 (w.heap.size + 2) 4 _ _ _ x1
  have b5 : w1.cell? ⟨w.heap.size + 2, 5, none⟩ = some (.int .u64 0) := cell_of_row w1 (w.heap.size + 2) 5 _ _ _ x1
  have b6 : w1.cell? ⟨w.heap.size + 2, 6, none⟩ = some (.int .i64 0) := cell_of_row w1 (w.heap.size + 2) 6 _ _ _ x1
  have b7 : w1.cell? ⟨w.heap.size + 2, 7, none⟩ = some (.int .i64 0) := cell_of_row w1 (w.heap.size + 2) 7 _ _ _ x1
  have bf (i : Nat) : w1.frozen? ⟨w.heap.size + 2, i, none⟩ = false := frozen_of_row w1 (w.heap.size + 2) i _ _ x1
  have s0 : w1.cell? ⟨w.heap.size + 1, 0, none⟩ = some (.int .i64 ss) := cell_of_row w1 (w.heap.size + 1) 0 _ _ _ x2
  have s1 : w1.cell? ⟨w.heap.size + 1, 1, none⟩ = some (.int .i64 sn) := cell_of_row w1 (w.heap.size + 1) 1 _ _ _ x2
  have sf (i : Nat) : w1.frozen? ⟨w.heap.size + 1, i, none⟩ = false := frozen_of_row w1 (w.heap.size + 1) i _ _ x2
  have X0 := Lib.hid x0
  have X1 := Lib.hid x1
  have X2 := Lib.hid x2
  clear x0 x1 x2
  go_wp2_with fail
  refine (refBlocks b _).mono ?_
  rintro e w2 ⟨rfl, hw⟩
  obtain rfl := hw.symm
  rw [HBK.out]
  go_wp2_with fail
  refine (refStampValid ss sn _).mono ?_
  rintro e w2 ⟨rfl, hb⟩
  rw [HST.out]
  have x0 : w2.heap[w.heap.size]? = some (.cells #[.slice ao key.length cap, .int .i64 side, .int .i64 cur, .int .i64 next, .int .u64 send, .int .u64 ceil, .int .i64 sec, .int .i64 nano] 27 (0, 0)) := (hb.block (w.heap.size) (by omega)).trans X0.out
  have x1 : w2.heap[w.heap.size + 2]? = some (.cells #[.slice none 0 0, .int .i64 0, .int .i64 0, .int .i64 0, .int .u64 0, .int .u64 0, .int .i64 0, .int .i64 0] 27 (0, 0)) := (hb.block (w.heap.size + 2) (by omega)).trans X1.out
  have x2 : w2.heap[w.heap.size + 1]? = some (.cells #[.int .i64 ss, .int .i64 sn] 25 (0, 0)) := (hb.block (w.heap.size + 1) (by omega)).trans X2.out
  have hzw2 := hb.size
  have hB := hB.trans (hb.mono (by omega))
  clear hb X0 X1 X2
  clear a0 a1 a2 a3 a4 a5 a6 a7 af
  clear b0 b1 b2 b3 b4 b5 b6 b7 bf
  clear s0 s1 sf
  have a0 : w2.cell? ⟨w.heap.size, 0, none⟩ = some (.slice ao key.length cap) := cell_of_row w2 (w.heap.size) 0 _ _ _ x0
  have a1 : w2.cell? ⟨w.heap.size, 1, none⟩ = some (.int .i64 side) := cell_of_row w2 (w.heap.size) 1 _ _ _ x0
  have a2 : w2.cell? ⟨w.heap.size, 2, none⟩ = some (.int .i64 cur) := cell_of_row w2 (w.heap.size) 2 _ _ _ x0
  have a3 : w2.cell? ⟨w.heap.size, 3, none⟩ = some (.int .i64 next) := cell_of_row w2 (w.heap.size) 3 _ _ _ x0
  have a4 : w2.cell? ⟨w.heap.size, 4, none⟩ = some (.int .u64 send) := cell_of_row w2 (w.heap.size) 4 _ _ _ x0
  have a5 : w2.cell? ⟨w.heap.size, 5, none⟩ = some (.int .u64 ceil) := cell_of_row w2 (w.heap.size) 5 _ _ _ x0
  have a6 : w2.cell? ⟨w.heap.size, 6, none⟩ = some (.int .i64 sec) := cell_of_row w2 (w.heap.size) 6 _ _ _ x0
  have a7 : w2.cell? ⟨w.heap.size, 7, none⟩ = some (.int .i64 nano) := cell_of_row w2 (w.heap.size) 7 _ _ _ x0
  have af (i : Nat) : w2.frozen? ⟨w.heap.size, i, none⟩ = false := frozen_of_row w2 (w.heap.size) i _ _ x0
  have b0 : w2.cell? ⟨w.heap.size + 2, 0, none⟩ = some (.slice none 0 0) := cell_of_row w2 (w.heap.size + 2) 0 _ _ _ x1
  have b1 : w2.cell? ⟨w.heap.size + 2, 1, none⟩ = some (.int .i64 0) := cell_of_row w2 (w.heap.size + 2) 1 _ _ _ x1
  have b2 : w2.cell? ⟨w.heap.size + 2, 2, none⟩ = some (.int .i64 0) := cell_of_row w2 (w.heap.size + 2) 2 _ _ _ x1
  have b3 : w2.cell? ⟨w.heap.size + 2, 3, none⟩ = some (.int .i64 0) := cell_of_row w2 (w.heap.size + 2) 3 _ _ _ x1
  have b4 : w2.cell? ⟨w.heap.size + 2, 4, none⟩ = some (.int .u64 0) := cell_of_row w2 (w.heap.size + 2) 4 _ _ _ x1
  have b5 : w2.cell? ⟨w.heap.size + 2, 5, none⟩ = some (.int .u64 0) := cell_of_row w2 (w.heap.size + 2) 5 _ _ _ x1
  have b6 : w2.cell? ⟨w.heap.size + 2, 6, none⟩ = some (.int .i64 0) := cell_of_row w2 (w.heap.size + 2) 6 _ _ _ x1
  have b7 : w2.cell? ⟨w.heap.size + 2, 7, none⟩ = some (.int .i64 0) := cell_of_row w2 (w.heap.size + 2) 7 _ _ _ x1
  have bf (i : Nat) : w2.frozen? ⟨w.heap.size + 2, i, none⟩ = false := frozen_of_row w2 (w.heap.size + 2) i _ _ x1
  have s0 : w2.cell? ⟨w.heap.size + 1, 0, none⟩ = some (.int .i64 ss) := cell_of_row w2 (w.heap.size + 1) 0 _ _ _ x2
  have s1 : w2.cell? ⟨w.heap.size + 1, 1, none⟩ = some (.int .i64 sn) := cell_of_row w2 (w.heap.size + 1) 1 _ _ _ x2
  have sf (i : Nat) : w2.frozen? ⟨w.heap.size + 1, i, none⟩ = false := frozen_of_row w2 (w.heap.size + 1) i _ _ x2
  have X0 := Lib.hid x0
  have X1 := Lib.hid x1
  have X2 := Lib.hid x2
  clear x0 x1 x2
  go_wp2_with fail
  refine (refStampLess sec nano ss sn _).mono ?_
  rintro e w3 ⟨rfl, hb⟩
  have x0 : w3.heap[w.heap.size]? = some (.cells #[.slice ao key.length cap, .int .i64 side, .int .i64 cur, .int .i64 next, .int .u64 send, .int .u64 ceil, .int .i64 sec, .int .i64 nano] 27 (0, 0)) := (hb.block (w.heap.size) (by omega)).trans X0.out
  have x1 : w3.heap[w.heap.size + 2]? = some (.cells #[.slice none 0 0, .int .i64 0, .int .i64 0, .int .i64 0, .int .u64 0, .int .u64 0, .int .i64 0, .int .i64 0] 27 (0, 0)) := (hb.block (w.heap.size + 2) (by omega)).trans X1.out
  have x2 : w3.heap[w.heap.size + 1]? = some (.cells #[.int .i64 ss, .int .i64 sn] 25 (0, 0)) := (hb.block (w.heap.size + 1) (by omega)).trans X2.out
  have hzw3 := hb.size
  have hB := hB.trans (hb.mono (by omega))
  clear hb X0 X1 X2
  clear a0 a1 a2 a3 a4 a5 a6 a7 af
  clear b0 b1 b2 b3 b4 b5 b6 b7 bf
  clear s0 s1 sf
  have a0 : w3.cell? ⟨w.heap.size, 0, none⟩ = some (.slice ao key.length cap) := cell_of_row w3 (w.heap.size) 0 _ _ _ x0
  have a1 : w3.cell? ⟨w.heap.size, 1, none⟩ = some (.int .i64 side) := cell_of_row w3 (w.heap.size) 1 _ _ _ x0
  have a2 : w3.cell? ⟨w.heap.size, 2, none⟩ = some (.int .i64 cur) := cell_of_row w3 (w.heap.size) 2 _ _ _ x0
  have a3 : w3.cell? ⟨w.heap.size, 3, none⟩ = some (.int .i64 next) := cell_of_row w3 (w.heap.size) 3 _ _ _ x0
  have a4 : w3.cell? ⟨w.heap.size, 4, none⟩ = some (.int .u64 send) := cell_of_row w3 (w.heap.size) 4 _ _ _ x0
  have a5 : w3.cell? ⟨w.heap.size, 5, none⟩ = some (.int .u64 ceil) := cell_of_row w3 (w.heap.size) 5 _ _ _ x0
  have a6 : w3.cell? ⟨w.heap.size, 6, none⟩ = some (.int .i64 sec) := cell_of_row w3 (w.heap.size) 6 _ _ _ x0
  have a7 : w3.cell? ⟨w.heap.size, 7, none⟩ = some (.int .i64 nano) := cell_of_row w3 (w.heap.size) 7 _ _ _ x0
  have af (i : Nat) : w3.frozen? ⟨w.heap.size, i, none⟩ = false := frozen_of_row w3 (w.heap.size) i _ _ x0
  have b0 : w3.cell? ⟨w.heap.size + 2, 0, none⟩ = some (.slice none 0 0) := cell_of_row w3 (w.heap.size + 2) 0 _ _ _ x1
  have b1 : w3.cell? ⟨w.heap.size + 2, 1, none⟩ = some (.int .i64 0) := cell_of_row w3 (w.heap.size + 2) 1 _ _ _ x1
  have b2 : w3.cell? ⟨w.heap.size + 2, 2, none⟩ = some (.int .i64 0) := cell_of_row w3 (w.heap.size + 2) 2 _ _ _ x1
  have b3 : w3.cell? ⟨w.heap.size + 2, 3, none⟩ = some (.int .i64 0) := cell_of_row w3 (w.heap.size + 2) 3 _ _ _ x1
  have b4 : w3.cell? ⟨w.heap.size + 2, 4, none⟩ = some (.int .u64 0) := cell_of_row w3 (w.heap.size + 2) 4 _ _ _ x1
  have b5 : w3.cell? ⟨w.heap.size + 2, 5, none⟩ = some (.int .u64 0) := cell_of_row w3 (w.heap.size + 2) 5 _ _ _ x1
  have b6 : w3.cell? ⟨w.heap.size + 2, 6, none⟩ = some (.int .i64 0) := cell_of_row w3 (w.heap.size + 2) 6 _ _ _ x1
  have b7 : w3.cell? ⟨w.heap.size + 2, 7, none⟩ = some (.int .i64 0) := cell_of_row w3 (w.heap.size + 2) 7 _ _ _ x1
  have bf (i : Nat) : w3.frozen? ⟨w.heap.size + 2, i, none⟩ = false := frozen_of_row w3 (w.heap.size + 2) i _ _ x1
  have s0 : w3.cell? ⟨w.heap.size + 1, 0, none⟩ = some (.int .i64 ss) := cell_of_row w3 (w.heap.size + 1) 0 _ _ _ x2
  have s1 : w3.cell? ⟨w.heap.size + 1, 1, none⟩ = some (.int .i64 sn) := cell_of_row w3 (w.heap.size + 1) 1 _ _ _ x2
  have sf (i : Nat) : w3.frozen? ⟨w.heap.size + 1, i, none⟩ = false := frozen_of_row w3 (w.heap.size + 1) i _ _ x2
  have X0 := Lib.hid x0
  have X1 := Lib.hid x1
  have X2 := Lib.hid x2
  clear x0 x1 x2
  go_wp2_with fail
  refine bodyPost_ret (v := .tuple #[.agg #[.slice none 0 0, .int .i64 0, .int .i64 0, .int .i64 0, .int .u64 0, .int .u64 0, .int .i64 0, .int .i64 0], .int .u64 0]) (by simp [results, Try.results35, go_sem, b0, b1, b2, b3, b4, b5, b6, b7]) rfl ⟨_, _, rfl, Or.inl ⟨rfl, rfl, rfl⟩, ?_⟩
  iterate 8 (refine Below.set ?_ _ _ _ (by omega))
  exact hB
set_option maxHeartbeats 800000 in
theorem refAnswered_n3 (L : Ln) (ao : Option Addr) (cap : Nat) (g c ss sn b : Int) (_hc0 : 0 ≤ c) (_hc1 : c ≤ 18446744073709551615) (w : World) (hf : L.fits) (hr : Rd w ao L.key) (hok : L.ok = true) (hbk : blkB b = true) (hst : stampB ss sn = true) (hls : lessB L.sec L.nano ss sn = false) :
   Calls Try.prog 35 #[L.val ao cap, .int .i64 g, .int .u64 c, .agg #[.int .i64 ss, .int .i64 sn], .int .i64 b] w fun e w' => ∃ ao' cap', e = .returned (.tuple #[(answeredL L g c ss sn b).val ao' cap', .int .u64 (atA L g c ss sn b)]) ∧ Mine w' w.heap.size 5 ao' cap' (answeredL L g c ss sn b).key ∧ Below w.heap.size w w' := by
  obtain ⟨hl, hcur0, hcur1, hnext0, hnext1, hsend0, hsend1, hceil0, hceil1, hs⟩ := hf
  obtain ⟨key, side, cur, next, send, ceil, sec, nano⟩ := L
  unfold Ln.val
  simp only at hl hcur0 hcur1 hnext0 hnext1 hsend0 hsend1 hceil0 hceil1 hs hr hok hls ⊢
  have hma : mayA ⟨key, side, cur, next, send, ceil, sec, nano⟩ g c ss sn b = false := by simp [mayA, hok, hbk, hst, hls]
  have hy : answeredL ⟨key, side, cur, next, send, ceil, sec, nano⟩ g c ss sn b = Ln.zero := by simp [answeredL, hma]
  have ha : atA ⟨key, side, cur, next, send, ceil, sec, nano⟩ g c ss sn b = 0 := by simp [atA, hma]
  rw [ha]
  rw [hy]
  unfold Ln.zero
  have HOK := Lib.hid hok
  have HBK := Lib.hid hbk
  have HST := Lib.hid hst
  have HLS := Lib.hid hls
  clear hy hma hok hbk hst hls ha
  go_enter Try.func35, Try.ntmps35
  go_wp2_with fail
  refine (refLaneValid ⟨key, side, cur, next, send, ceil, sec, nano⟩ ao cap _).mono ?_
  rintro e w1 ⟨rfl, hb⟩
  rw [HOK.out]
  have hz := hb.size
  simp only [alloc_size] at hz
  have hB := ((((Below.refl _ w).alloc (Nat.le_refl _) _).alloc (by simp only [alloc_size]; omega) _).alloc (by simp only [alloc_size]; omega) _).trans (hb.mono (by simp only [alloc_size]; omega))
  have x0 : w1.heap[w.heap.size]? = some (.cells #[.slice ao key.length cap, .int .i64 side, .int .i64 cur, .int .i64 next, .int .u64 send, .int .u64 ceil, .int .i64 sec, .int .i64 nano] 27 (0, 0)) := (hb_block hb (w.heap.size) (by simp only [alloc_size]; omega)).trans (by simp only [alloc_get, alloc_size]; repeat first | rw [if_pos trivial] | rw [if_neg (by omega)] | rw [if_pos (by omega)])
  have x1 : w1.heap[w.heap.size + 2]? = some (.cells #[.slice none 0 0, .int .i64 0, .int .i64 0, .int .i64 0, .int .u64 0, .int .u64 0, .int .i64 0, .int .i64 0] 27 (0, 0)) := (hb_block hb (w.heap.size + 2) (by simp only [alloc_size]; omega)).trans (by simp only [alloc_get, alloc_size]; repeat first | rw [if_pos trivial] | rw [if_neg (by omega)] | rw [if_pos (by omega)])
  have x2 : w1.heap[w.heap.size + 1]? = some (.cells #[.int .i64 ss, .int .i64 sn] 25 (0, 0)) := (hb_block hb (w.heap.size + 1) (by simp only [alloc_size]; omega)).trans (by simp only [alloc_get, alloc_size]; repeat first | rw [if_pos trivial] | rw [if_neg (by omega)] | rw [if_pos (by omega)])
  clear hb
  have a0 : w1.cell? ⟨w.heap.size, 0, none⟩ = some (.slice ao key.length cap) := cell_of_row w1 (w.heap.size) 0 _ _ _ x0
  have a1 : w1.cell? ⟨w.heap.size, 1, none⟩ = some (.int .i64 side) := cell_of_row w1 (w.heap.size) 1 _ _ _ x0
  have a2 : w1.cell? ⟨w.heap.size, 2, none⟩ = some (.int .i64 cur) := cell_of_row w1 (w.heap.size) 2 _ _ _ x0
  have a3 : w1.cell? ⟨w.heap.size, 3, none⟩ = some (.int .i64 next) := cell_of_row w1 (w.heap.size) 3 _ _ _ x0
  have a4 : w1.cell? ⟨w.heap.size, 4, none⟩ = some (.int .u64 send) := cell_of_row w1 (w.heap.size) 4 _ _ _ x0
  have a5 : w1.cell? ⟨w.heap.size, 5, none⟩ = some (.int .u64 ceil) := cell_of_row w1 (w.heap.size) 5 _ _ _ x0
  have a6 : w1.cell? ⟨w.heap.size, 6, none⟩ = some (.int .i64 sec) := cell_of_row w1 (w.heap.size) 6 _ _ _ x0
  have a7 : w1.cell? ⟨w.heap.size, 7, none⟩ = some (.int .i64 nano) := cell_of_row w1 (w.heap.size) 7 _ _ _ x0
  have af (i : Nat) : w1.frozen? ⟨w.heap.size, i, none⟩ = false := frozen_of_row w1 (w.heap.size) i _ _ x0
  have b0 : w1.cell? ⟨w.heap.size + 2, 0, none⟩ = some (.slice none 0 0) := cell_of_row w1 (w.heap.size + 2) 0 _ _ _ x1
  have b1 : w1.cell? ⟨w.heap.size + 2, 1, none⟩ = some (.int .i64 0) := cell_of_row w1 (w.heap.size + 2) 1 _ _ _ x1
  have b2 : w1.cell? ⟨w.heap.size + 2, 2, none⟩ = some (.int .i64 0) := cell_of_row w1 (w.heap.size + 2) 2 _ _ _ x1
  have b3 : w1.cell? ⟨w.heap.size + 2, 3, none⟩ = some (.int .i64 0) := cell_of_row w1 (w.heap.size + 2) 3 _ _ _ x1
  have b4 : w1.cell? ⟨w.heap.size + 2, 4, none⟩ = some (.int .u64 0) := cell_of_row w1 (w.heap.size + 2) 4 _ _ _ x1
  have b5 : w1.cell? ⟨w.heap.size + 2, 5, none⟩ = some (.int .u64 0) := cell_of_row w1 (w.heap.size + 2) 5 _ _ _ x1
  have b6 : w1.cell? ⟨w.heap.size + 2, 6, none⟩ = some (.int .i64 0) := cell_of_row w1 (w.heap.size + 2) 6 _ _ _ x1
  have b7 : w1.cell? ⟨w.heap.size + 2, 7, none⟩ = some (.int .i64 0) := cell_of_row w1 (w.heap.size + 2) 7 _ _ _ x1
  have bf (i : Nat) : w1.frozen? ⟨w.heap.size + 2, i, none⟩ = false := frozen_of_row w1 (w.heap.size + 2) i _ _ x1
  have s0 : w1.cell? ⟨w.heap.size + 1, 0, none⟩ = some (.int .i64 ss) := cell_of_row w1 (w.heap.size + 1) 0 _ _ _ x2
  have s1 : w1.cell? ⟨w.heap.size + 1, 1, none⟩ = some (.int .i64 sn) := cell_of_row w1 (w.heap.size + 1) 1 _ _ _ x2
  have sf (i : Nat) : w1.frozen? ⟨w.heap.size + 1, i, none⟩ = false := frozen_of_row w1 (w.heap.size + 1) i _ _ x2
  have X0 := Lib.hid x0
  have X1 := Lib.hid x1
  have X2 := Lib.hid x2
  clear x0 x1 x2
  go_wp2_with fail
  refine (refBlocks b _).mono ?_
  rintro e w2 ⟨rfl, hw⟩
  obtain rfl := hw.symm
  rw [HBK.out]
  go_wp2_with fail
  refine (refStampValid ss sn _).mono ?_
  rintro e w2 ⟨rfl, hb⟩
  rw [HST.out]
  have x0 : w2.heap[w.heap.size]? = some (.cells #[.slice ao key.length cap, .int .i64 side, .int .i64 cur, .int .i64 next, .int .u64 send, .int .u64 ceil, .int .i64 sec, .int .i64 nano] 27 (0, 0)) := (hb.block (w.heap.size) (by omega)).trans X0.out
  have x1 : w2.heap[w.heap.size + 2]? = some (.cells #[.slice none 0 0, .int .i64 0, .int .i64 0, .int .i64 0, .int .u64 0, .int .u64 0, .int .i64 0, .int .i64 0] 27 (0, 0)) := (hb.block (w.heap.size + 2) (by omega)).trans X1.out
  have x2 : w2.heap[w.heap.size + 1]? = some (.cells #[.int .i64 ss, .int .i64 sn] 25 (0, 0)) := (hb.block (w.heap.size + 1) (by omega)).trans X2.out
  have hzw2 := hb.size
  have hB := hB.trans (hb.mono (by omega))
  clear hb X0 X1 X2
  clear a0 a1 a2 a3 a4 a5 a6 a7 af
  clear b0 b1 b2 b3 b4 b5 b6 b7 bf
  clear s0 s1 sf
  have a0 : w2.cell? ⟨w.heap.size, 0, none⟩ = some (.slice ao key.length cap) := cell_of_row w2 (w.heap.size) 0 _ _ _ x0
  have a1 : w2.cell? ⟨w.heap.size, 1, none⟩ = some (.int .i64 side) := cell_of_row w2 (w.heap.size) 1 _ _ _ x0
  have a2 : w2.cell? ⟨w.heap.size, 2, none⟩ = some (.int .i64 cur) := cell_of_row w2 (w.heap.size) 2 _ _ _ x0
  have a3 : w2.cell? ⟨w.heap.size, 3, none⟩ = some (.int .i64 next) := cell_of_row w2 (w.heap.size) 3 _ _ _ x0
  have a4 : w2.cell? ⟨w.heap.size, 4, none⟩ = some (.int .u64 send) := cell_of_row w2 (w.heap.size) 4 _ _ _ x0
  have a5 : w2.cell? ⟨w.heap.size, 5, none⟩ = some (.int .u64 ceil) := cell_of_row w2 (w.heap.size) 5 _ _ _ x0
  have a6 : w2.cell? ⟨w.heap.size, 6, none⟩ = some (.int .i64 sec) := cell_of_row w2 (w.heap.size) 6 _ _ _ x0
  have a7 : w2.cell? ⟨w.heap.size, 7, none⟩ = some (.int .i64 nano) := cell_of_row w2 (w.heap.size) 7 _ _ _ x0
  have af (i : Nat) : w2.frozen? ⟨w.heap.size, i, none⟩ = false := frozen_of_row w2 (w.heap.size) i _ _ x0
  have b0 : w2.cell? ⟨w.heap.size + 2, 0, none⟩ = some (.slice none 0 0) := cell_of_row w2 (w.heap.size + 2) 0 _ _ _ x1
  have b1 : w2.cell? ⟨w.heap.size + 2, 1, none⟩ = some (.int .i64 0) := cell_of_row w2 (w.heap.size + 2) 1 _ _ _ x1
  have b2 : w2.cell? ⟨w.heap.size + 2, 2, none⟩ = some (.int .i64 0) := cell_of_row w2 (w.heap.size + 2) 2 _ _ _ x1
  have b3 : w2.cell? ⟨w.heap.size + 2, 3, none⟩ = some (.int .i64 0) := cell_of_row w2 (w.heap.size + 2) 3 _ _ _ x1
  have b4 : w2.cell? ⟨w.heap.size + 2, 4, none⟩ = some (.int .u64 0) := cell_of_row w2 (w.heap.size + 2) 4 _ _ _ x1
  have b5 : w2.cell? ⟨w.heap.size + 2, 5, none⟩ = some (.int .u64 0) := cell_of_row w2 (w.heap.size + 2) 5 _ _ _ x1
  have b6 : w2.cell? ⟨w.heap.size + 2, 6, none⟩ = some (.int .i64 0) := cell_of_row w2 (w.heap.size + 2) 6 _ _ _ x1
  have b7 : w2.cell? ⟨w.heap.size + 2, 7, none⟩ = some (.int .i64 0) := cell_of_row w2 (w.heap.size + 2) 7 _ _ _ x1
  have bf (i : Nat) : w2.frozen? ⟨w.heap.size + 2, i, none⟩ = false := frozen_of_row w2 (w.heap.size + 2) i _ _ x1
  have s0 : w2.cell? ⟨w.heap.size + 1, 0, none⟩ = some (.int .i64 ss) := cell_of_row w2 (w.heap.size + 1) 0 _ _ _ x2
  have s1 : w2.cell? ⟨w.heap.size + 1, 1, none⟩ = some (.int .i64 sn) := cell_of_row w2 (w.heap.size + 1) 1 _ _ _ x2
  have sf (i : Nat) : w2.frozen? ⟨w.heap.size + 1, i, none⟩ = false := frozen_of_row w2 (w.heap.size + 1) i _ _ x2
  have X0 := Lib.hid x0
  have X1 := Lib.hid x1
  have X2 := Lib.hid x2
  clear x0 x1 x2
  go_wp2_with fail
  refine (refStampLess sec nano ss sn _).mono ?_
  rintro e w3 ⟨rfl, hb⟩
  rw [HLS.out]
  have x0 : w3.heap[w.heap.size]? = some (.cells #[.slice ao key.length cap, .int .i64 side, .int .i64 cur, .int .i64 next, .int .u64 send, .int .u64 ceil, .int .i64 sec, .int .i64 nano] 27 (0, 0)) := (hb.block (w.heap.size) (by omega)).trans X0.out
  have x1 : w3.heap[w.heap.size + 2]? = some (.cells #[.slice none 0 0, .int .i64 0, .int .i64 0, .int .i64 0, .int .u64 0, .int .u64 0, .int .i64 0, .int .i64 0] 27 (0, 0)) := (hb.block (w.heap.size + 2) (by omega)).trans X1.out
  have x2 : w3.heap[w.heap.size + 1]? = some (.cells #[.int .i64 ss, .int .i64 sn] 25 (0, 0)) := (hb.block (w.heap.size + 1) (by omega)).trans X2.out
  have hzw3 := hb.size
  have hB := hB.trans (hb.mono (by omega))
  clear hb X0 X1 X2
  clear a0 a1 a2 a3 a4 a5 a6 a7 af
  clear b0 b1 b2 b3 b4 b5 b6 b7 bf
  clear s0 s1 sf
  have a0 : w3.cell? ⟨w.heap.size, 0, none⟩ = some (.slice ao key.length cap) := cell_of_row w3 (w.heap.size) 0 _ _ _ x0
  have a1 : w3.cell? ⟨w.heap.size, 1, none⟩ = some (.int .i64 side) := cell_of_row w3 (w.heap.size) 1 _ _ _ x0
  have a2 : w3.cell? ⟨w.heap.size, 2, none⟩ = some (.int .i64 cur) := cell_of_row w3 (w.heap.size) 2 _ _ _ x0
  have a3 : w3.cell? ⟨w.heap.size, 3, none⟩ = some (.int .i64 next) := cell_of_row w3 (w.heap.size) 3 _ _ _ x0
  have a4 : w3.cell? ⟨w.heap.size, 4, none⟩ = some (.int .u64 send) := cell_of_row w3 (w.heap.size) 4 _ _ _ x0
  have a5 : w3.cell? ⟨w.heap.size, 5, none⟩ = some (.int .u64 ceil) := cell_of_row w3 (w.heap.size) 5 _ _ _ x0
  have a6 : w3.cell? ⟨w.heap.size, 6, none⟩ = some (.int .i64 sec) := cell_of_row w3 (w.heap.size) 6 _ _ _ x0
  have a7 : w3.cell? ⟨w.heap.size, 7, none⟩ = some (.int .i64 nano) := cell_of_row w3 (w.heap.size) 7 _ _ _ x0
  have af (i : Nat) : w3.frozen? ⟨w.heap.size, i, none⟩ = false := frozen_of_row w3 (w.heap.size) i _ _ x0
  have b0 : w3.cell? ⟨w.heap.size + 2, 0, none⟩ = some (.slice none 0 0) := cell_of_row w3 (w.heap.size + 2) 0 _ _ _ x1
  have b1 : w3.cell? ⟨w.heap.size + 2, 1, none⟩ = some (.int .i64 0) := cell_of_row w3 (w.heap.size + 2) 1 _ _ _ x1
  have b2 : w3.cell? ⟨w.heap.size + 2, 2, none⟩ = some (.int .i64 0) := cell_of_row w3 (w.heap.size + 2) 2 _ _ _ x1
  have b3 : w3.cell? ⟨w.heap.size + 2, 3, none⟩ = some (.int .i64 0) := cell_of_row w3 (w.heap.size + 2) 3 _ _ _ x1
  have b4 : w3.cell? ⟨w.heap.size + 2, 4, none⟩ = some (.int .u64 0) := cell_of_row w3 (w.heap.size + 2) 4 _ _ _ x1
  have b5 : w3.cell? ⟨w.heap.size + 2, 5, none⟩ = some (.int .u64 0) := cell_of_row w3 (w.heap.size + 2) 5 _ _ _ x1
  have b6 : w3.cell? ⟨w.heap.size + 2, 6, none⟩ = some (.int .i64 0) := cell_of_row w3 (w.heap.size + 2) 6 _ _ _ x1
  have b7 : w3.cell? ⟨w.heap.size + 2, 7, none⟩ = some (.int .i64 0) := cell_of_row w3 (w.heap.size + 2) 7 _ _ _ x1
  have bf (i : Nat) : w3.frozen? ⟨w.heap.size + 2, i, none⟩ = false := frozen_of_row w3 (w.heap.size + 2) i _ _ x1
  have s0 : w3.cell? ⟨w.heap.size + 1, 0, none⟩ = some (.int .i64 ss) := cell_of_row w3 (w.heap.size + 1) 0 _ _ _ x2
  have s1 : w3.cell? ⟨w.heap.size + 1, 1, none⟩ = some (.int .i64 sn) := cell_of_row w3 (w.heap.size + 1) 1 _ _ _ x2
  have sf (i : Nat) : w3.frozen? ⟨w.heap.size + 1, i, none⟩ = false := frozen_of_row w3 (w.heap.size + 1) i _ _ x2
  have X0 := Lib.hid x0
  have X1 := Lib.hid x1
  have X2 := Lib.hid x2
  clear x0 x1 x2
  go_wp2_with fail
  refine bodyPost_ret (v := .tuple #[.agg #[.slice none 0 0, .int .i64 0, .int .i64 0, .int .i64 0, .int .u64 0, .int .u64 0, .int .i64 0, .int .i64 0], .int .u64 0]) (by simp [results, Try.results35, go_sem, b0, b1, b2, b3, b4, b5, b6, b7]) rfl ⟨_, _, rfl, Or.inl ⟨rfl, rfl, rfl⟩, ?_⟩
  iterate 8 (refine Below.set ?_ _ _ _ (by omega))
  exact hB
set_option maxHeartbeats 800000 in
theorem refAnswered_n4 (L : Ln) (ao : Option Addr) (cap : Nat) (g c ss sn b : Int) (_hc0 : 0 ≤ c) (_hc1 : c ≤ 18446744073709551615) (w : World) (hf : L.fits) (hr : Rd w ao L.key) (hok : L.ok = true) (hbk : blkB b = true) (hst : stampB ss sn = true) (hls : lessB L.sec L.nano ss sn = true) (h1 : ¬ L.cur < g) :
   Calls Try.prog 35 #[L.val ao cap, .int .i64 g, .int .u64 c, .agg #[.int .i64 ss, .int .i64 sn], .int .i64 b] w fun e w' => ∃ ao' cap', e = .returned (.tuple #[(answeredL L g c ss sn b).val ao' cap', .int .u64 (atA L g c ss sn b)]) ∧ Mine w' w.heap.size 5 ao' cap' (answeredL L g c ss sn b).key ∧ Below w.heap.size w w' := by
  obtain ⟨hl, hcur0, hcur1, hnext0, hnext1, hsend0, hsend1, hceil0, hceil1, hs⟩ := hf
  obtain ⟨key, side, cur, next, send, ceil, sec, nano⟩ := L
  unfold Ln.val
  simp only at hl hcur0 hcur1 hnext0 hnext1 hsend0 hsend1 hceil0 hceil1 hs hr hok hls h1 ⊢
  have hma : mayA ⟨key, side, cur, next, send, ceil, sec, nano⟩ g c ss sn b = false := by simp [mayA, hok, hbk, hst, hls, h1]
  have hy : answeredL ⟨key, side, cur, next, send, ceil, sec, nano⟩ g c ss sn b = Ln.zero := by simp [answeredL, hma]
  have ha : atA ⟨key, side, cur, next, send, ceil, sec, nano⟩ g c ss sn b = 0 := by simp [atA, hma]
  rw [ha]
  rw [hy]
  unfold Ln.zero
  have HOK := Lib.hid hok
  have HBK := Lib.hid hbk
  have HST := Lib.hid hst
  have HLS := Lib.hid hls
  clear hy hma hok hbk hst hls ha
  go_enter Try.func35, Try.ntmps35
  go_wp2_with fail
  refine (refLaneValid ⟨key, side, cur, next, send, ceil, sec, nano⟩ ao cap _).mono ?_
  rintro e w1 ⟨rfl, hb⟩
  rw [HOK.out]
  have hz := hb.size
  simp only [alloc_size] at hz
  have hB := ((((Below.refl _ w).alloc (Nat.le_refl _) _).alloc (by simp only [alloc_size]; omega) _).alloc (by simp only [alloc_size]; omega) _).trans (hb.mono (by simp only [alloc_size]; omega))
  have x0 : w1.heap[w.heap.size]? = some (.cells #[.slice ao key.length cap, .int .i64 side, .int .i64 cur, .int .i64 next, .int .u64 send, .int .u64 ceil, .int .i64 sec, .int .i64 nano] 27 (0, 0)) := (hb_block hb (w.heap.size) (by simp only [alloc_size]; omega)).trans (by simp only [alloc_get, alloc_size]; repeat first | rw [if_pos trivial] | rw [if_neg (by omega)] | rw [if_pos (by omega)])
  have x1 : w1.heap[w.heap.size + 2]? = some (.cells #[.slice none 0 0, .int .i64 0, .int .i64 0, .int .i64 0, .int .u64 0, .int .u64 0, .int .i64 0, .int .i64 0] 27 (0, 0)) := (hb_block hb (w.heap.size + 2) (by simp only [alloc_size]; omega)).trans (by simp only [alloc_get, alloc_size]; repeat first | rw [if_pos trivial] | rw [if_neg (by omega)] | rw [if_pos (by omega)])
  have x2 : w1.heap[w.heap.size + 1]? = some (.cells #[.int .i64 ss, .int .i64 sn] 25 (0, 0)) := (hb_block hb (w.heap.size + 1) (by simp only [alloc_size]; omega)).trans (by simp only [alloc_get, alloc_size]; repeat first | rw [if_pos trivial] | rw [if_neg (by omega)] | rw [if_pos (by omega)])
  clear hb
  have a0 : w1.cell? ⟨w.heap.size, 0, none⟩ = some (.slice ao key.length cap) := cell_of_row w1 (w.heap.size) 0 _ _ _ x0
  have a1 : w1.cell? ⟨w.heap.size, 1, none⟩ = some (.int .i64 side) := cell_of_row w1 (w.heap.size) 1 _ _ _ x0
  have a2 : w1.cell? ⟨w.heap.size, 2, none⟩ = some (.int .i64 cur) := cell_of_row w1 (w.heap.size) 2 _ _ _ x0
  have a3 : w1.cell? ⟨w.heap.size, 3, none⟩ = some (.int .i64 next) := cell_of_row w1 (w.heap.size) 3 _ _ _ x0
  have a4 : w1.cell? ⟨w.heap.size, 4, none⟩ = some (.int .u64 send) := cell_of_row w1 (w.heap.size) 4 _ _ _ x0
  have a5 : w1.cell? ⟨w.heap.size, 5, none⟩ = some (.int .u64 ceil) := cell_of_row w1 (w.heap.size) 5 _ _ _ x0
  have a6 : w1.cell? ⟨w.heap.size, 6, none⟩ = some (.int .i64 sec) := cell_of_row w1 (w.heap.size) 6 _ _ _ x0
  have a7 : w1.cell? ⟨w.heap.size, 7, none⟩ = some (.int .i64 nano) := cell_of_row w1 (w.heap.size) 7 _ _ _ x0
  have af (i : Nat) : w1.frozen? ⟨w.heap.size, i, none⟩ = false := frozen_of_row w1 (w.heap.size) i _ _ x0
  have b0 : w1.cell? ⟨w.heap.size + 2, 0, none⟩ = some (.slice none 0 0) := cell_of_row w1 (w.heap.size + 2) 0 _ _ _ x1
  have b1 : w1.cell? ⟨w.heap.size + 2, 1, none⟩ = some (.int .i64 0) := cell_of_row w1 (w.heap.size + 2) 1 _ _ _ x1
  have b2 : w1.cell? ⟨w.heap.size + 2, 2, none⟩ = some (.int .i64 0) := cell_of_row w1 (w.heap.size + 2) 2 _ _ _ x1
  have b3 : w1.cell? ⟨w.heap.size + 2, 3, none⟩ = some (.int .i64 0) := cell_of_row w1 (w.heap.size + 2) 3 _ _ _ x1
  have b4 : w1.cell? ⟨w.heap.size + 2, 4, none⟩ = some (.int .u64 0) := cell_of_row w1 (w.heap.size + 2) 4 _ _ _ x1
  have b5 : w1.cell? ⟨w.heap.size + 2, 5, none⟩ = some (.int .u64 0) := cell_of_row w1 (w.heap.size + 2) 5 _ _ _ x1
  have b6 : w1.cell? ⟨w.heap.size + 2, 6, none⟩ = some (.int .i64 0) := cell_of_row w1 (w.heap.size + 2) 6 _ _ _ x1
  have b7 : w1.cell? ⟨w.heap.size + 2, 7, none⟩ = some (.int .i64 0) := cell_of_row w1 (w.heap.size + 2) 7 _ _ _ x1
  have bf (i : Nat) : w1.frozen? ⟨w.heap.size + 2, i, none⟩ = false := frozen_of_row w1 (w.heap.size + 2) i _ _ x1
  have s0 : w1.cell? ⟨w.heap.size + 1, 0, none⟩ = some (.int .i64 ss) := cell_of_row w1 (w.heap.size + 1) 0 _ _ _ x2
  have s1 : w1.cell? ⟨w.heap.size + 1, 1, none⟩ = some (.int .i64 sn) := cell_of_row w1 (w.heap.size + 1) 1 _ _ _ x2
  have sf (i : Nat) : w1.frozen? ⟨w.heap.size + 1, i, none⟩ = false := frozen_of_row w1 (w.heap.size + 1) i _ _ x2
  have X0 := Lib.hid x0
  have X1 := Lib.hid x1
  have X2 := Lib.hid x2
  clear x0 x1 x2
  go_wp2_with fail
  refine (refBlocks b _).mono ?_
  rintro e w2 ⟨rfl, hw⟩
  obtain rfl := hw.symm
  rw [HBK.out]
  go_wp2_with fail
  refine (refStampValid ss sn _).mono ?_
  rintro e w2 ⟨rfl, hb⟩
  rw [HST.out]
  have x0 : w2.heap[w.heap.size]? = some (.cells #[.slice ao key.length cap, .int .i64 side, .int .i64 cur, .int .i64 next, .int .u64 send, .int .u64 ceil, .int .i64 sec, .int .i64 nano] 27 (0, 0)) := (hb.block (w.heap.size) (by omega)).trans X0.out
  have x1 : w2.heap[w.heap.size + 2]? = some (.cells #[.slice none 0 0, .int .i64 0, .int .i64 0, .int .i64 0, .int .u64 0, .int .u64 0, .int .i64 0, .int .i64 0] 27 (0, 0)) := (hb.block (w.heap.size + 2) (by omega)).trans X1.out
  have x2 : w2.heap[w.heap.size + 1]? = some (.cells #[.int .i64 ss, .int .i64 sn] 25 (0, 0)) := (hb.block (w.heap.size + 1) (by omega)).trans X2.out
  have hzw2 := hb.size
  have hB := hB.trans (hb.mono (by omega))
  clear hb X0 X1 X2
  clear a0 a1 a2 a3 a4 a5 a6 a7 af
  clear b0 b1 b2 b3 b4 b5 b6 b7 bf
  clear s0 s1 sf
  have a0 : w2.cell? ⟨w.heap.size, 0, none⟩ = some (.slice ao key.length cap) := cell_of_row w2 (w.heap.size) 0 _ _ _ x0
  have a1 : w2.cell? ⟨w.heap.size, 1, none⟩ = some (.int .i64 side) := cell_of_row w2 (w.heap.size) 1 _ _ _ x0
  have a2 : w2.cell? ⟨w.heap.size, 2, none⟩ = some (.int .i64 cur) := cell_of_row w2 (w.heap.size) 2 _ _ _ x0
  have a3 : w2.cell? ⟨w.heap.size, 3, none⟩ = some (.int .i64 next) := cell_of_row w2 (w.heap.size) 3 _ _ _ x0
  have a4 : w2.cell? ⟨w.heap.size, 4, none⟩ = some (.int .u64 send) := cell_of_row w2 (w.heap.size) 4 _ _ _ x0
  have a5 : w2.cell? ⟨w.heap.size, 5, none⟩ = some (.int .u64 ceil) := cell_of_row w2 (w.heap.size) 5 _ _ _ x0
  have a6 : w2.cell? ⟨w.heap.size, 6, none⟩ = some (.int .i64 sec) := cell_of_row w2 (w.heap.size) 6 _ _ _ x0
  have a7 : w2.cell? ⟨w.heap.size, 7, none⟩ = some (.int .i64 nano) := cell_of_row w2 (w.heap.size) 7 _ _ _ x0
  have af (i : Nat) : w2.frozen? ⟨w.heap.size, i, none⟩ = false := frozen_of_row w2 (w.heap.size) i _ _ x0
  have b0 : w2.cell? ⟨w.heap.size + 2, 0, none⟩ = some (.slice none 0 0) := cell_of_row w2 (w.heap.size + 2) 0 _ _ _ x1
  have b1 : w2.cell? ⟨w.heap.size + 2, 1, none⟩ = some (.int .i64 0) := cell_of_row w2 (w.heap.size + 2) 1 _ _ _ x1
  have b2 : w2.cell? ⟨w.heap.size + 2, 2, none⟩ = some (.int .i64 0) := cell_of_row w2 (w.heap.size + 2) 2 _ _ _ x1
  have b3 : w2.cell? ⟨w.heap.size + 2, 3, none⟩ = some (.int .i64 0) := cell_of_row w2 (w.heap.size + 2) 3 _ _ _ x1
  have b4 : w2.cell? ⟨w.heap.size + 2, 4, none⟩ = some (.int .u64 0) := cell_of_row w2 (w.heap.size + 2) 4 _ _ _ x1
  have b5 : w2.cell? ⟨w.heap.size + 2, 5, none⟩ = some (.int .u64 0) := cell_of_row w2 (w.heap.size + 2) 5 _ _ _ x1
  have b6 : w2.cell? ⟨w.heap.size + 2, 6, none⟩ = some (.int .i64 0) := cell_of_row w2 (w.heap.size + 2) 6 _ _ _ x1
  have b7 : w2.cell? ⟨w.heap.size + 2, 7, none⟩ = some (.int .i64 0) := cell_of_row w2 (w.heap.size + 2) 7 _ _ _ x1
  have bf (i : Nat) : w2.frozen? ⟨w.heap.size + 2, i, none⟩ = false := frozen_of_row w2 (w.heap.size + 2) i _ _ x1
  have s0 : w2.cell? ⟨w.heap.size + 1, 0, none⟩ = some (.int .i64 ss) := cell_of_row w2 (w.heap.size + 1) 0 _ _ _ x2
  have s1 : w2.cell? ⟨w.heap.size + 1, 1, none⟩ = some (.int .i64 sn) := cell_of_row w2 (w.heap.size + 1) 1 _ _ _ x2
  have sf (i : Nat) : w2.frozen? ⟨w.heap.size + 1, i, none⟩ = false := frozen_of_row w2 (w.heap.size + 1) i _ _ x2
  have X0 := Lib.hid x0
  have X1 := Lib.hid x1
  have X2 := Lib.hid x2
  clear x0 x1 x2
  go_wp2_with fail
  refine (refStampLess sec nano ss sn _).mono ?_
  rintro e w3 ⟨rfl, hb⟩
  rw [HLS.out]
  have x0 : w3.heap[w.heap.size]? = some (.cells #[.slice ao key.length cap, .int .i64 side, .int .i64 cur, .int .i64 next, .int .u64 send, .int .u64 ceil, .int .i64 sec, .int .i64 nano] 27 (0, 0)) := (hb.block (w.heap.size) (by omega)).trans X0.out
  have x1 : w3.heap[w.heap.size + 2]? = some (.cells #[.slice none 0 0, .int .i64 0, .int .i64 0, .int .i64 0, .int .u64 0, .int .u64 0, .int .i64 0, .int .i64 0] 27 (0, 0)) := (hb.block (w.heap.size + 2) (by omega)).trans X1.out
  have x2 : w3.heap[w.heap.size + 1]? = some (.cells #[.int .i64 ss, .int .i64 sn] 25 (0, 0)) := (hb.block (w.heap.size + 1) (by omega)).trans X2.out
  have hzw3 := hb.size
  have hB := hB.trans (hb.mono (by omega))
  clear hb X0 X1 X2
  clear a0 a1 a2 a3 a4 a5 a6 a7 af
  clear b0 b1 b2 b3 b4 b5 b6 b7 bf
  clear s0 s1 sf
  have a0 : w3.cell? ⟨w.heap.size, 0, none⟩ = some (.slice ao key.length cap) := cell_of_row w3 (w.heap.size) 0 _ _ _ x0
  have a1 : w3.cell? ⟨w.heap.size, 1, none⟩ = some (.int .i64 side) := cell_of_row w3 (w.heap.size) 1 _ _ _ x0
  have a2 : w3.cell? ⟨w.heap.size, 2, none⟩ = some (.int .i64 cur) := cell_of_row w3 (w.heap.size) 2 _ _ _ x0
  have a3 : w3.cell? ⟨w.heap.size, 3, none⟩ = some (.int .i64 next) := cell_of_row w3 (w.heap.size) 3 _ _ _ x0
  have a4 : w3.cell? ⟨w.heap.size, 4, none⟩ = some (.int .u64 send) := cell_of_row w3 (w.heap.size) 4 _ _ _ x0
  have a5 : w3.cell? ⟨w.heap.size, 5, none⟩ = some (.int .u64 ceil) := cell_of_row w3 (w.heap.size) 5 _ _ _ x0
  have a6 : w3.cell? ⟨w.heap.size, 6, none⟩ = some (.int .i64 sec) := cell_of_row w3 (w.heap.size) 6 _ _ _ x0
  have a7 : w3.cell? ⟨w.heap.size, 7, none⟩ = some (.int .i64 nano) := cell_of_row w3 (w.heap.size) 7 _ _ _ x0
  have af (i : Nat) : w3.frozen? ⟨w.heap.size, i, none⟩ = false := frozen_of_row w3 (w.heap.size) i _ _ x0
  have b0 : w3.cell? ⟨w.heap.size + 2, 0, none⟩ = some (.slice none 0 0) := cell_of_row w3 (w.heap.size + 2) 0 _ _ _ x1
  have b1 : w3.cell? ⟨w.heap.size + 2, 1, none⟩ = some (.int .i64 0) := cell_of_row w3 (w.heap.size + 2) 1 _ _ _ x1
  have b2 : w3.cell? ⟨w.heap.size + 2, 2, none⟩ = some (.int .i64 0) := cell_of_row w3 (w.heap.size + 2) 2 _ _ _ x1
  have b3 : w3.cell? ⟨w.heap.size + 2, 3, none⟩ = some (.int .i64 0) := cell_of_row w3 (w.heap.size + 2) 3 _ _ _ x1
  have b4 : w3.cell? ⟨w.heap.size + 2, 4, none⟩ = some (.int .u64 0) := cell_of_row w3 (w.heap.size + 2) 4 _ _ _ x1
  have b5 : w3.cell? ⟨w.heap.size + 2, 5, none⟩ = some (.int .u64 0) := cell_of_row w3 (w.heap.size + 2) 5 _ _ _ x1
  have b6 : w3.cell? ⟨w.heap.size + 2, 6, none⟩ = some (.int .i64 0) := cell_of_row w3 (w.heap.size + 2) 6 _ _ _ x1
  have b7 : w3.cell? ⟨w.heap.size + 2, 7, none⟩ = some (.int .i64 0) := cell_of_row w3 (w.heap.size + 2) 7 _ _ _ x1
  have bf (i : Nat) : w3.frozen? ⟨w.heap.size + 2, i, none⟩ = false := frozen_of_row w3 (w.heap.size + 2) i _ _ x1
  have s0 : w3.cell? ⟨w.heap.size + 1, 0, none⟩ = some (.int .i64 ss) := cell_of_row w3 (w.heap.size + 1) 0 _ _ _ x2
  have s1 : w3.cell? ⟨w.heap.size + 1, 1, none⟩ = some (.int .i64 sn) := cell_of_row w3 (w.heap.size + 1) 1 _ _ _ x2
  have sf (i : Nat) : w3.frozen? ⟨w.heap.size + 1, i, none⟩ = false := frozen_of_row w3 (w.heap.size + 1) i _ _ x2
  have X0 := Lib.hid x0
  have X1 := Lib.hid x1
  have X2 := Lib.hid x2
  clear x0 x1 x2
  go_wp2_with fail
  refine bodyPost_ret (v := .tuple #[.agg #[.slice none 0 0, .int .i64 0, .int .i64 0, .int .i64 0, .int .u64 0, .int .u64 0, .int .i64 0, .int .i64 0], .int .u64 0]) (by simp [results, Try.results35, go_sem, b0, b1, b2, b3, b4, b5, b6, b7]) rfl ⟨_, _, rfl, Or.inl ⟨rfl, rfl, rfl⟩, ?_⟩
  iterate 8 (refine Below.set ?_ _ _ _ (by omega))
  exact hB
set_option maxHeartbeats 800000 in
theorem refAnswered_n5 (L : Ln) (ao : Option Addr) (cap : Nat) (g c ss sn b : Int) (_hc0 : 0 ≤ c) (_hc1 : c ≤ 18446744073709551615) (w : World) (hf : L.fits) (hr : Rd w ao L.key) (hok : L.ok = true) (hbk : blkB b = true) (hst : stampB ss sn = true) (hls : lessB L.sec L.nano ss sn = true) (h1 : L.cur < g) (h2 : ¬ g ≤ 2147483647) :
   Calls Try.prog 35 #[L.val ao cap, .int .i64 g, .int .u64 c, .agg #[.int .i64 ss, .int .i64 sn], .int .i64 b] w fun e w' => ∃ ao' cap', e = .returned (.tuple #[(answeredL L g c ss sn b).val ao' cap', .int .u64 (atA L g c ss sn b)]) ∧ Mine w' w.heap.size 5 ao' cap' (answeredL L g c ss sn b).key ∧ Below w.heap.size w w' := by
  obtain ⟨hl, hcur0, hcur1, hnext0, hnext1, hsend0, hsend1, hceil0, hceil1, hs⟩ := hf
  obtain ⟨key, side, cur, next, send, ceil, sec, nano⟩ := L
  unfold Ln.val
  simp only at hl hcur0 hcur1 hnext0 hnext1 hsend0 hsend1 hceil0 hceil1 hs hr hok hls h1 ⊢
  have hma : mayA ⟨key, side, cur, next, send, ceil, sec, nano⟩ g c ss sn b = false := by simp [mayA, hok, hbk, hst, hls, h1, h2]
  have hy : answeredL ⟨key, side, cur, next, send, ceil, sec, nano⟩ g c ss sn b = Ln.zero := by simp [answeredL, hma]
  have ha : atA ⟨key, side, cur, next, send, ceil, sec, nano⟩ g c ss sn b = 0 := by simp [atA, hma]
  rw [ha]
  rw [hy]
  unfold Ln.zero
  have HOK := Lib.hid hok
  have HBK := Lib.hid hbk
  have HST := Lib.hid hst
  have HLS := Lib.hid hls
  clear hy hma hok hbk hst hls ha
  go_enter Try.func35, Try.ntmps35
  go_wp2_with fail
  refine (refLaneValid ⟨key, side, cur, next, send, ceil, sec, nano⟩ ao cap _).mono ?_
  rintro e w1 ⟨rfl, hb⟩
  rw [HOK.out]
  have hz := hb.size
  simp only [alloc_size] at hz
  have hB := ((((Below.refl _ w).alloc (Nat.le_refl _) _).alloc (by simp only [alloc_size]; omega) _).alloc (by simp only [alloc_size]; omega) _).trans (hb.mono (by simp only [alloc_size]; omega))
  have x0 : w1.heap[w.heap.size]? = some (.cells #[.slice ao key.length cap, .int .i64 side, .int .i64 cur, .int .i64 next, .int .u64 send, .int .u64 ceil, .int .i64 sec, .int .i64 nano] 27 (0, 0)) := (hb_block hb (w.heap.size) (by simp only [alloc_size]; omega)).trans (by simp only [alloc_get, alloc_size]; repeat first | rw [if_pos trivial] | rw [if_neg (by omega)] | rw [if_pos (by omega)])
  have x1 : w1.heap[w.heap.size + 2]? = some (.cells #[.slice none 0 0, .int .i64 0, .int .i64 0, .int .i64 0, .int .u64 0, .int .u64 0, .int .i64 0, .int .i64 0] 27 (0, 0)) := (hb_block hb (w.heap.size + 2) (by simp only [alloc_size]; omega)).trans (by simp only [alloc_get, alloc_size]; repeat first | rw [if_pos trivial] | rw [if_neg (by omega)] | rw [if_pos (by omega)])
  have x2 : w1.heap[w.heap.size + 1]? = some (.cells #[.int .i64 ss, .int .i64 sn] 25 (0, 0)) := (hb_block hb (w.heap.size + 1) (by simp only [alloc_size]; omega)).trans (by simp only [alloc_get, alloc_size]; repeat first | rw [if_pos trivial] | rw [if_neg (by omega)] | rw [if_pos (by omega)])
  clear hb
  have a0 : w1.cell? ⟨w.heap.size, 0, none⟩ = some (.slice ao key.length cap) := cell_of_row w1 (w.heap.size) 0 _ _ _ x0
  have a1 : w1.cell? ⟨w.heap.size, 1, none⟩ = some (.int .i64 side) := cell_of_row w1 (w.heap.size) 1 _ _ _ x0
  have a2 : w1.cell? ⟨w.heap.size, 2, none⟩ = some (.int .i64 cur) := cell_of_row w1 (w.heap.size) 2 _ _ _ x0
  have a3 : w1.cell? ⟨w.heap.size, 3, none⟩ = some (.int .i64 next) := cell_of_row w1 (w.heap.size) 3 _ _ _ x0
  have a4 : w1.cell? ⟨w.heap.size, 4, none⟩ = some (.int .u64 send) := cell_of_row w1 (w.heap.size) 4 _ _ _ x0
  have a5 : w1.cell? ⟨w.heap.size, 5, none⟩ = some (.int .u64 ceil) := cell_of_row w1 (w.heap.size) 5 _ _ _ x0
  have a6 : w1.cell? ⟨w.heap.size, 6, none⟩ = some (.int .i64 sec) := cell_of_row w1 (w.heap.size) 6 _ _ _ x0
  have a7 : w1.cell? ⟨w.heap.size, 7, none⟩ = some (.int .i64 nano) := cell_of_row w1 (w.heap.size) 7 _ _ _ x0
  have af (i : Nat) : w1.frozen? ⟨w.heap.size, i, none⟩ = false := frozen_of_row w1 (w.heap.size) i _ _ x0
  have b0 : w1.cell? ⟨w.heap.size + 2, 0, none⟩ = some (.slice none 0 0) := cell_of_row w1 (w.heap.size + 2) 0 _ _ _ x1
  have b1 : w1.cell? ⟨w.heap.size + 2, 1, none⟩ = some (.int .i64 0) := cell_of_row w1 (w.heap.size + 2) 1 _ _ _ x1
  have b2 : w1.cell? ⟨w.heap.size + 2, 2, none⟩ = some (.int .i64 0) := cell_of_row w1 (w.heap.size + 2) 2 _ _ _ x1
  have b3 : w1.cell? ⟨w.heap.size + 2, 3, none⟩ = some (.int .i64 0) := cell_of_row w1 (w.heap.size + 2) 3 _ _ _ x1
  have b4 : w1.cell? ⟨w.heap.size + 2, 4, none⟩ = some (.int .u64 0) := cell_of_row w1 (w.heap.size + 2) 4 _ _ _ x1
  have b5 : w1.cell? ⟨w.heap.size + 2, 5, none⟩ = some (.int .u64 0) := cell_of_row w1 (w.heap.size + 2) 5 _ _ _ x1
  have b6 : w1.cell? ⟨w.heap.size + 2, 6, none⟩ = some (.int .i64 0) := cell_of_row w1 (w.heap.size + 2) 6 _ _ _ x1
  have b7 : w1.cell? ⟨w.heap.size + 2, 7, none⟩ = some (.int .i64 0) := cell_of_row w1 (w.heap.size + 2) 7 _ _ _ x1
  have bf (i : Nat) : w1.frozen? ⟨w.heap.size + 2, i, none⟩ = false := frozen_of_row w1 (w.heap.size + 2) i _ _ x1
  have s0 : w1.cell? ⟨w.heap.size + 1, 0, none⟩ = some (.int .i64 ss) := cell_of_row w1 (w.heap.size + 1) 0 _ _ _ x2
  have s1 : w1.cell? ⟨w.heap.size + 1, 1, none⟩ = some (.int .i64 sn) := cell_of_row w1 (w.heap.size + 1) 1 _ _ _ x2
  have sf (i : Nat) : w1.frozen? ⟨w.heap.size + 1, i, none⟩ = false := frozen_of_row w1 (w.heap.size + 1) i _ _ x2
  have X0 := Lib.hid x0
  have X1 := Lib.hid x1
  have X2 := Lib.hid x2
  clear x0 x1 x2
  go_wp2_with fail
  refine (refBlocks b _).mono ?_
  rintro e w2 ⟨rfl, hw⟩
  obtain rfl := hw.symm
  rw [HBK.out]
  go_wp2_with fail
  refine (refStampValid ss sn _).mono ?_
  rintro e w2 ⟨rfl, hb⟩
  rw [HST.out]
  have x0 : w2.heap[w.heap.size]? = some (.cells #[.slice ao key.length cap, .int .i64 side, .int .i64 cur, .int .i64 next, .int .u64 send, .int .u64 ceil, .int .i64 sec, .int .i64 nano] 27 (0, 0)) := (hb.block (w.heap.size) (by omega)).trans X0.out
  have x1 : w2.heap[w.heap.size + 2]? = some (.cells #[.slice none 0 0, .int .i64 0, .int .i64 0, .int .i64 0, .int .u64 0, .int .u64 0, .int .i64 0, .int .i64 0] 27 (0, 0)) := (hb.block (w.heap.size + 2) (by omega)).trans X1.out
  have x2 : w2.heap[w.heap.size + 1]? = some (.cells #[.int .i64 ss, .int .i64 sn] 25 (0, 0)) := (hb.block (w.heap.size + 1) (by omega)).trans X2.out
  have hzw2 := hb.size
  have hB := hB.trans (hb.mono (by omega))
  clear hb X0 X1 X2
  clear a0 a1 a2 a3 a4 a5 a6 a7 af
  clear b0 b1 b2 b3 b4 b5 b6 b7 bf
  clear s0 s1 sf
  have a0 : w2.cell? ⟨w.heap.size, 0, none⟩ = some (.slice ao key.length cap) := cell_of_row w2 (w.heap.size) 0 _ _ _ x0
  have a1 : w2.cell? ⟨w.heap.size, 1, none⟩ = some (.int .i64 side) := cell_of_row w2 (w.heap.size) 1 _ _ _ x0
  have a2 : w2.cell? ⟨w.heap.size, 2, none⟩ = some (.int .i64 cur) := cell_of_row w2 (w.heap.size) 2 _ _ _ x0
  have a3 : w2.cell? ⟨w.heap.size, 3, none⟩ = some (.int .i64 next) := cell_of_row w2 (w.heap.size) 3 _ _ _ x0
  have a4 : w2.cell? ⟨w.heap.size, 4, none⟩ = some (.int .u64 send) := cell_of_row w2 (w.heap.size) 4 _ _ _ x0
  have a5 : w2.cell? ⟨w.heap.size, 5, none⟩ = some (.int .u64 ceil) := cell_of_row w2 (w.heap.size) 5 _ _ _ x0
  have a6 : w2.cell? ⟨w.heap.size, 6, none⟩ = some (.int .i64 sec) := cell_of_row w2 (w.heap.size) 6 _ _ _ x0
  have a7 : w2.cell? ⟨w.heap.size, 7, none⟩ = some (.int .i64 nano) := cell_of_row w2 (w.heap.size) 7 _ _ _ x0
  have af (i : Nat) : w2.frozen? ⟨w.heap.size, i, none⟩ = false := frozen_of_row w2 (w.heap.size) i _ _ x0
  have b0 : w2.cell? ⟨w.heap.size + 2, 0, none⟩ = some (.slice none 0 0) := cell_of_row w2 (w.heap.size + 2) 0 _ _ _ x1
  have b1 : w2.cell? ⟨w.heap.size + 2, 1, none⟩ = some (.int .i64 0) := cell_of_row w2 (w.heap.size + 2) 1 _ _ _ x1
  have b2 : w2.cell? ⟨w.heap.size + 2, 2, none⟩ = some (.int .i64 0) := cell_of_row w2 (w.heap.size + 2) 2 _ _ _ x1
  have b3 : w2.cell? ⟨w.heap.size + 2, 3, none⟩ = some (.int .i64 0) := cell_of_row w2 (w.heap.size + 2) 3 _ _ _ x1
  have b4 : w2.cell? ⟨w.heap.size + 2, 4, none⟩ = some (.int .u64 0) := cell_of_row w2 (w.heap.size + 2) 4 _ _ _ x1
  have b5 : w2.cell? ⟨w.heap.size + 2, 5, none⟩ = some (.int .u64 0) := cell_of_row w2 (w.heap.size + 2) 5 _ _ _ x1
  have b6 : w2.cell? ⟨w.heap.size + 2, 6, none⟩ = some (.int .i64 0) := cell_of_row w2 (w.heap.size + 2) 6 _ _ _ x1
  have b7 : w2.cell? ⟨w.heap.size + 2, 7, none⟩ = some (.int .i64 0) := cell_of_row w2 (w.heap.size + 2) 7 _ _ _ x1
  have bf (i : Nat) : w2.frozen? ⟨w.heap.size + 2, i, none⟩ = false := frozen_of_row w2 (w.heap.size + 2) i _ _ x1
  have s0 : w2.cell? ⟨w.heap.size + 1, 0, none⟩ = some (.int .i64 ss) := cell_of_row w2 (w.heap.size + 1) 0 _ _ _ x2
  have s1 : w2.cell? ⟨w.heap.size + 1, 1, none⟩ = some (.int .i64 sn) := cell_of_row w2 (w.heap.size + 1) 1 _ _ _ x2
  have sf (i : Nat) : w2.frozen? ⟨w.heap.size + 1, i, none⟩ = false := frozen_of_row w2 (w.heap.size + 1) i _ _ x2
  have X0 := Lib.hid x0
  have X1 := Lib.hid x1
  have X2 := Lib.hid x2
  clear x0 x1 x2
  go_wp2_with fail
  refine (refStampLess sec nano ss sn _).mono ?_
  rintro e w3 ⟨rfl, hb⟩
  rw [HLS.out]
  have x0 : w3.heap[w.heap.size]? = some (.cells #[.slice ao key.length cap, .int .i64 side, .int .i64 cur, .int .i64 next, .int .u64 send, .int .u64 ceil, .int .i64 sec, .int .i64 nano] 27 (0, 0)) := (hb.block (w.heap.size) (by omega)).trans X0.out
  have x1 : w3.heap[w.heap.size + 2]? = some (.cells #[.slice none 0 0, .int .i64 0, .int .i64 0, .int .i64 0, .int .u64 0, .int .u64 0, .int .i64 0, .int .i64 0] 27 (0, 0)) := (hb.block (w.heap.size + 2) (by omega)).trans X1.out
  have x2 : w3.heap[w.heap.size + 1]? = some (.cells #[.int .i64 ss, .int .i64 sn] 25 (0, 0)) := (hb.block (w.heap.size + 1) (by omega)).trans X2.out
  have hzw3 := hb.size
  have hB := hB.trans (hb.mono (by omega))
  clear hb X0 X1 X2
  clear a0 a1 a2 a3 a4 a5 a6 a7 af
  clear b0 b1 b2 b3 b4 b5 b6 b7 bf
  clear s0 s1 sf
  have a0 : w3.cell? ⟨w.heap.size, 0, none⟩ = some (.slice ao key.length cap) := cell_of_row w3 (w.heap.size) 0 _ _ _ x0
  have a1 : w3.cell? ⟨w.heap.size, 1, none⟩ = some (.int .i64 side) := cell_of_row w3 (w.heap.size) 1 _ _ _ x0
  have a2 : w3.cell? ⟨w.heap.size, 2, none⟩ = some (.int .i64 cur) := cell_of_row w3 (w.heap.size) 2 _ _ _ x0
  have a3 : w3.cell? ⟨w.heap.size, 3, none⟩ = some (.int .i64 next) := cell_of_row w3 (w.heap.size) 3 _ _ _ x0
  have a4 : w3.cell? ⟨w.heap.size, 4, none⟩ = some (.int .u64 send) := cell_of_row w3 (w.heap.size) 4 _ _ _ x0
  have a5 : w3.cell? ⟨w.heap.size, 5, none⟩ = some (.int .u64 ceil) := cell_of_row w3 (w.heap.size) 5 _ _ _ x0
  have a6 : w3.cell? ⟨w.heap.size, 6, none⟩ = some (.int .i64 sec) := cell_of_row w3 (w.heap.size) 6 _ _ _ x0
  have a7 : w3.cell? ⟨w.heap.size, 7, none⟩ = some (.int .i64 nano) := cell_of_row w3 (w.heap.size) 7 _ _ _ x0
  have af (i : Nat) : w3.frozen? ⟨w.heap.size, i, none⟩ = false := frozen_of_row w3 (w.heap.size) i _ _ x0
  have b0 : w3.cell? ⟨w.heap.size + 2, 0, none⟩ = some (.slice none 0 0) := cell_of_row w3 (w.heap.size + 2) 0 _ _ _ x1
  have b1 : w3.cell? ⟨w.heap.size + 2, 1, none⟩ = some (.int .i64 0) := cell_of_row w3 (w.heap.size + 2) 1 _ _ _ x1
  have b2 : w3.cell? ⟨w.heap.size + 2, 2, none⟩ = some (.int .i64 0) := cell_of_row w3 (w.heap.size + 2) 2 _ _ _ x1
  have b3 : w3.cell? ⟨w.heap.size + 2, 3, none⟩ = some (.int .i64 0) := cell_of_row w3 (w.heap.size + 2) 3 _ _ _ x1
  have b4 : w3.cell? ⟨w.heap.size + 2, 4, none⟩ = some (.int .u64 0) := cell_of_row w3 (w.heap.size + 2) 4 _ _ _ x1
  have b5 : w3.cell? ⟨w.heap.size + 2, 5, none⟩ = some (.int .u64 0) := cell_of_row w3 (w.heap.size + 2) 5 _ _ _ x1
  have b6 : w3.cell? ⟨w.heap.size + 2, 6, none⟩ = some (.int .i64 0) := cell_of_row w3 (w.heap.size + 2) 6 _ _ _ x1
  have b7 : w3.cell? ⟨w.heap.size + 2, 7, none⟩ = some (.int .i64 0) := cell_of_row w3 (w.heap.size + 2) 7 _ _ _ x1
  have bf (i : Nat) : w3.frozen? ⟨w.heap.size + 2, i, none⟩ = false := frozen_of_row w3 (w.heap.size + 2) i _ _ x1
  have s0 : w3.cell? ⟨w.heap.size + 1, 0, none⟩ = some (.int .i64 ss) := cell_of_row w3 (w.heap.size + 1) 0 _ _ _ x2
  have s1 : w3.cell? ⟨w.heap.size + 1, 1, none⟩ = some (.int .i64 sn) := cell_of_row w3 (w.heap.size + 1) 1 _ _ _ x2
  have sf (i : Nat) : w3.frozen? ⟨w.heap.size + 1, i, none⟩ = false := frozen_of_row w3 (w.heap.size + 1) i _ _ x2
  have X0 := Lib.hid x0
  have X1 := Lib.hid x1
  have X2 := Lib.hid x2
  clear x0 x1 x2
  go_wp2_with fail
  refine bodyPost_ret (v := .tuple #[.agg #[.slice none 0 0, .int .i64 0, .int .i64 0, .int .i64 0, .int .u64 0, .int .u64 0, .int .i64 0, .int .i64 0], .int .u64 0]) (by simp [results, Try.results35, go_sem, b0, b1, b2, b3, b4, b5, b6, b7]) rfl ⟨_, _, rfl, Or.inl ⟨rfl, rfl, rfl⟩, ?_⟩
  iterate 8 (refine Below.set ?_ _ _ _ (by omega))
  exact hB
set_option maxHeartbeats 800000 in
theorem refAnswered_n6 (L : Ln) (ao : Option Addr) (cap : Nat) (g c ss sn b : Int) (hc0 : 0 ≤ c) (hc1 : c ≤ 18446744073709551615) (w : World) (hf : L.fits) (hr : Rd w ao L.key) (hok : L.ok = true) (hbk : blkB b = true) (hst : stampB ss sn = true) (hls : lessB L.sec L.nano ss sn = true) (h1 : L.cur < g) (h2 : g ≤ 2147483647) (h3 : ¬ c ≤ 18446744073709551614) :
   Calls Try.prog 35 #[L.val ao cap, .int .i64 g, .int .u64 c, .agg #[.int .i64 ss, .int .i64 sn], .int .i64 b] w fun e w' => ∃ ao' cap', e = .returned (.tuple #[(answeredL L g c ss sn b).val ao' cap', .int .u64 (atA L g c ss sn b)]) ∧ Mine w' w.heap.size 5 ao' cap' (answeredL L g c ss sn b).key ∧ Below w.heap.size w w' := by
  obtain ⟨hl, hcur0, hcur1, hnext0, hnext1, hsend0, hsend1, hceil0, hceil1, hs⟩ := hf
  obtain ⟨key, side, cur, next, send, ceil, sec, nano⟩ := L
  unfold Ln.val
  simp only at hl hcur0 hcur1 hnext0 hnext1 hsend0 hsend1 hceil0 hceil1 hs hr hok hls h1 ⊢
  obtain rfl : c = 18446744073709551615 := by omega
  clear h3 hc0 hc1
  have hma : mayA ⟨key, side, cur, next, send, ceil, sec, nano⟩ g 18446744073709551615 ss sn b = false := by simp [mayA, hok, hbk, hst, hls, h1, h2]
  have hy : answeredL ⟨key, side, cur, next, send, ceil, sec, nano⟩ g 18446744073709551615 ss sn b = Ln.zero := by simp [answeredL, hma]
  have ha : atA ⟨key, side, cur, next, send, ceil, sec, nano⟩ g 18446744073709551615 ss sn b = 0 := by simp [atA, hma]
  rw [ha]
  rw [hy]
  unfold Ln.zero
  have HOK := Lib.hid hok
  have HBK := Lib.hid hbk
  have HST := Lib.hid hst
  have HLS := Lib.hid hls
  clear hy hma hok hbk hst hls ha
  go_enter Try.func35, Try.ntmps35
  go_wp2_with fail
  refine (refLaneValid ⟨key, side, cur, next, send, ceil, sec, nano⟩ ao cap _).mono ?_
  rintro e w1 ⟨rfl, hb⟩
  rw [HOK.out]
  have hz := hb.size
  simp only [alloc_size] at hz
  have hB := ((((Below.refl _ w).alloc (Nat.le_refl _) _).alloc (by simp only [alloc_size]; omega) _).alloc (by simp only [alloc_size]; omega) _).trans (hb.mono (by simp only [alloc_size]; omega))
  have x0 : w1.heap[w.heap.size]? = some (.cells #[.slice ao key.length cap, .int .i64 side, .int .i64 cur, .int .i64 next, .int .u64 send, .int .u64 ceil, .int .i64 sec, .int .i64 nano] 27 (0, 0)) := (hb_block hb (w.heap.size) (by simp only [alloc_size]; omega)).trans (by simp only [alloc_get, alloc_size]; repeat first | rw [if_pos trivial] | rw [if_neg (by omega)] | rw [if_pos (by omega)])
  have x1 : w1.heap[w.heap.size + 2]? = some (.cells #[.slice none 0 0, .int .i64 0, .int .i64 0, .int .i64 0, .int .u64 0, .int .u64 0, .int .i64 0, .int .i64 0] 27 (0, 0)) := (hb_block hb (w.heap.size + 2) (by simp only [alloc_size]; omega)).trans (by simp only [alloc_get, alloc_size]; repeat first | rw [if_pos trivial] | rw [if_neg (by omega)] | rw [if_pos (by omega)])
  have x2 : w1.heap[w.heap.size + 1]? = some (.cells #[.int .i64 ss, .int .i64 sn] 25 (0, 0)) := (hb_block hb (w.heap.size + 1) (by simp only [alloc_size]; omega)).trans (by simp only [alloc_get, alloc_size]; repeat first | rw [if_pos trivial] | rw [if_neg (by omega)] | rw [if_pos (by omega)])
  clear hb
  have a0 : w1.cell? ⟨w.heap.size, 0, none⟩ = some (.slice ao key.length cap) := cell_of_row w1 (w.heap.size) 0 _ _ _ x0
  have a1 : w1.cell? ⟨w.heap.size, 1, none⟩ = some (.int .i64 side) := cell_of_row w1 (w.heap.size) 1 _ _ _ x0
  have a2 : w1.cell? ⟨w.heap.size, 2, none⟩ = some (.int .i64 cur) := cell_of_row w1 (w.heap.size) 2 _ _ _ x0
  have a3 : w1.cell? ⟨w.heap.size, 3, none⟩ = some (.int .i64 next) := cell_of_row w1 (w.heap.size) 3 _ _ _ x0
  have a4 : w1.cell? ⟨w.heap.size, 4, none⟩ = some (.int .u64 send) := cell_of_row w1 (w.heap.size) 4 _ _ _ x0
  have a5 : w1.cell? ⟨w.heap.size, 5, none⟩ = some (.int .u64 ceil) := cell_of_row w1 (w.heap.size) 5 _ _ _ x0
  have a6 : w1.cell? ⟨w.heap.size, 6, none⟩ = some (.int .i64 sec) := cell_of_row w1 (w.heap.size) 6 _ _ _ x0
  have a7 : w1.cell? ⟨w.heap.size, 7, none⟩ = some (.int .i64 nano) := cell_of_row w1 (w.heap.size) 7 _ _ _ x0
  have af (i : Nat) : w1.frozen? ⟨w.heap.size, i, none⟩ = false := frozen_of_row w1 (w.heap.size) i _ _ x0
  have b0 : w1.cell? ⟨w.heap.size + 2, 0, none⟩ = some (.slice none 0 0) := cell_of_row w1 (w.heap.size + 2) 0 _ _ _ x1
  have b1 : w1.cell? ⟨w.heap.size + 2, 1, none⟩ = some (.int .i64 0) := cell_of_row w1 (w.heap.size + 2) 1 _ _ _ x1
  have b2 : w1.cell? ⟨w.heap.size + 2, 2, none⟩ = some (.int .i64 0) := cell_of_row w1 (w.heap.size + 2) 2 _ _ _ x1
  have b3 : w1.cell? ⟨w.heap.size + 2, 3, none⟩ = some (.int .i64 0) := cell_of_row w1 (w.heap.size + 2) 3 _ _ _ x1
  have b4 : w1.cell? ⟨w.heap.size + 2, 4, none⟩ = some (.int .u64 0) := cell_of_row w1 (w.heap.size + 2) 4 _ _ _ x1
  have b5 : w1.cell? ⟨w.heap.size + 2, 5, none⟩ = some (.int .u64 0) := cell_of_row w1 (w.heap.size + 2) 5 _ _ _ x1
  have b6 : w1.cell? ⟨w.heap.size + 2, 6, none⟩ = some (.int .i64 0) := cell_of_row w1 (w.heap.size + 2) 6 _ _ _ x1
  have b7 : w1.cell? ⟨w.heap.size + 2, 7, none⟩ = some (.int .i64 0) := cell_of_row w1 (w.heap.size + 2) 7 _ _ _ x1
  have bf (i : Nat) : w1.frozen? ⟨w.heap.size + 2, i, none⟩ = false := frozen_of_row w1 (w.heap.size + 2) i _ _ x1
  have s0 : w1.cell? ⟨w.heap.size + 1, 0, none⟩ = some (.int .i64 ss) := cell_of_row w1 (w.heap.size + 1) 0 _ _ _ x2
  have s1 : w1.cell? ⟨w.heap.size + 1, 1, none⟩ = some (.int .i64 sn) := cell_of_row w1 (w.heap.size + 1) 1 _ _ _ x2
  have sf (i : Nat) : w1.frozen? ⟨w.heap.size + 1, i, none⟩ = false := frozen_of_row w1 (w.heap.size + 1) i _ _ x2
  have X0 := Lib.hid x0
  have X1 := Lib.hid x1
  have X2 := Lib.hid x2
  clear x0 x1 x2
  go_wp2_with fail
  refine (refBlocks b _).mono ?_
  rintro e w2 ⟨rfl, hw⟩
  obtain rfl := hw.symm
  rw [HBK.out]
  go_wp2_with fail
  refine (refStampValid ss sn _).mono ?_
  rintro e w2 ⟨rfl, hb⟩
  rw [HST.out]
  have x0 : w2.heap[w.heap.size]? = some (.cells #[.slice ao key.length cap, .int .i64 side, .int .i64 cur, .int .i64 next, .int .u64 send, .int .u64 ceil, .int .i64 sec, .int .i64 nano] 27 (0, 0)) := (hb.block (w.heap.size) (by omega)).trans X0.out
  have x1 : w2.heap[w.heap.size + 2]? = some (.cells #[.slice none 0 0, .int .i64 0, .int .i64 0, .int .i64 0, .int .u64 0, .int .u64 0, .int .i64 0, .int .i64 0] 27 (0, 0)) := (hb.block (w.heap.size + 2) (by omega)).trans X1.out
  have x2 : w2.heap[w.heap.size + 1]? = some (.cells #[.int .i64 ss, .int .i64 sn] 25 (0, 0)) := (hb.block (w.heap.size + 1) (by omega)).trans X2.out
  have hzw2 := hb.size
  have hB := hB.trans (hb.mono (by omega))
  clear hb X0 X1 X2
  clear a0 a1 a2 a3 a4 a5 a6 a7 af
  clear b0 b1 b2 b3 b4 b5 b6 b7 bf
  clear s0 s1 sf
  have a0 : w2.cell? ⟨w.heap.size, 0, none⟩ = some (.slice ao key.length cap) := cell_of_row w2 (w.heap.size) 0 _ _ _ x0
  have a1 : w2.cell? ⟨w.heap.size, 1, none⟩ = some (.int .i64 side) := cell_of_row w2 (w.heap.size) 1 _ _ _ x0
  have a2 : w2.cell? ⟨w.heap.size, 2, none⟩ = some (.int .i64 cur) := cell_of_row w2 (w.heap.size) 2 _ _ _ x0
  have a3 : w2.cell? ⟨w.heap.size, 3, none⟩ = some (.int .i64 next) := cell_of_row w2 (w.heap.size) 3 _ _ _ x0
  have a4 : w2.cell? ⟨w.heap.size, 4, none⟩ = some (.int .u64 send) := cell_of_row w2 (w.heap.size) 4 _ _ _ x0
  have a5 : w2.cell? ⟨w.heap.size, 5, none⟩ = some (.int .u64 ceil) := cell_of_row w2 (w.heap.size) 5 _ _ _ x0
  have a6 : w2.cell? ⟨w.heap.size, 6, none⟩ = some (.int .i64 sec) := cell_of_row w2 (w.heap.size) 6 _ _ _ x0
  have a7 : w2.cell? ⟨w.heap.size, 7, none⟩ = some (.int .i64 nano) := cell_of_row w2 (w.heap.size) 7 _ _ _ x0
  have af (i : Nat) : w2.frozen? ⟨w.heap.size, i, none⟩ = false := frozen_of_row w2 (w.heap.size) i _ _ x0
  have b0 : w2.cell? ⟨w.heap.size + 2, 0, none⟩ = some (.slice none 0 0) := cell_of_row w2 (w.heap.size + 2) 0 _ _ _ x1
  have b1 : w2.cell? ⟨w.heap.size + 2, 1, none⟩ = some (.int .i64 0) := cell_of_row w2 (w.heap.size + 2) 1 _ _ _ x1
  have b2 : w2.cell? ⟨w.heap.size + 2, 2, none⟩ = some (.int .i64 0) := cell_of_row w2 (w.heap.size + 2) 2 _ _ _ x1
  have b3 : w2.cell? ⟨w.heap.size + 2, 3, none⟩ = some (.int .i64 0) := cell_of_row w2 (w.heap.size + 2) 3 _ _ _ x1
  have b4 : w2.cell? ⟨w.heap.size + 2, 4, none⟩ = some (.int .u64 0) := cell_of_row w2 (w.heap.size + 2) 4 _ _ _ x1
  have b5 : w2.cell? ⟨w.heap.size + 2, 5, none⟩ = some (.int .u64 0) := cell_of_row w2 (w.heap.size + 2) 5 _ _ _ x1
  have b6 : w2.cell? ⟨w.heap.size + 2, 6, none⟩ = some (.int .i64 0) := cell_of_row w2 (w.heap.size + 2) 6 _ _ _ x1
  have b7 : w2.cell? ⟨w.heap.size + 2, 7, none⟩ = some (.int .i64 0) := cell_of_row w2 (w.heap.size + 2) 7 _ _ _ x1
  have bf (i : Nat) : w2.frozen? ⟨w.heap.size + 2, i, none⟩ = false := frozen_of_row w2 (w.heap.size + 2) i _ _ x1
  have s0 : w2.cell? ⟨w.heap.size + 1, 0, none⟩ = some (.int .i64 ss) := cell_of_row w2 (w.heap.size + 1) 0 _ _ _ x2
  have s1 : w2.cell? ⟨w.heap.size + 1, 1, none⟩ = some (.int .i64 sn) := cell_of_row w2 (w.heap.size + 1) 1 _ _ _ x2
  have sf (i : Nat) : w2.frozen? ⟨w.heap.size + 1, i, none⟩ = false := frozen_of_row w2 (w.heap.size + 1) i _ _ x2
  have X0 := Lib.hid x0
  have X1 := Lib.hid x1
  have X2 := Lib.hid x2
  clear x0 x1 x2
  go_wp2_with fail
  refine (refStampLess sec nano ss sn _).mono ?_
  rintro e w3 ⟨rfl, hb⟩
  rw [HLS.out]
  have x0 : w3.heap[w.heap.size]? = some (.cells #[.slice ao key.length cap, .int .i64 side, .int .i64 cur, .int .i64 next, .int .u64 send, .int .u64 ceil, .int .i64 sec, .int .i64 nano] 27 (0, 0)) := (hb.block (w.heap.size) (by omega)).trans X0.out
  have x1 : w3.heap[w.heap.size + 2]? = some (.cells #[.slice none 0 0, .int .i64 0, .int .i64 0, .int .i64 0, .int .u64 0, .int .u64 0, .int .i64 0, .int .i64 0] 27 (0, 0)) := (hb.block (w.heap.size + 2) (by omega)).trans X1.out
  have x2 : w3.heap[w.heap.size + 1]? = some (.cells #[.int .i64 ss, .int .i64 sn] 25 (0, 0)) := (hb.block (w.heap.size + 1) (by omega)).trans X2.out
  have hzw3 := hb.size
  have hB := hB.trans (hb.mono (by omega))
  clear hb X0 X1 X2
  clear a0 a1 a2 a3 a4 a5 a6 a7 af
  clear b0 b1 b2 b3 b4 b5 b6 b7 bf
  clear s0 s1 sf
  have a0 : w3.cell? ⟨w.heap.size, 0, none⟩ = some (.slice ao key.length cap) := cell_of_row w3 (w.heap.size) 0 _ _ _ x0
  have a1 : w3.cell? ⟨w.heap.size, 1, none⟩ = some (.int .i64 side) := cell_of_row w3 (w.heap.size) 1 _ _ _ x0
  have a2 : w3.cell? ⟨w.heap.size, 2, none⟩ = some (.int .i64 cur) := cell_of_row w3 (w.heap.size) 2 _ _ _ x0
  have a3 : w3.cell? ⟨w.heap.size, 3, none⟩ = some (.int .i64 next) := cell_of_row w3 (w.heap.size) 3 _ _ _ x0
  have a4 : w3.cell? ⟨w.heap.size, 4, none⟩ = some (.int .u64 send) := cell_of_row w3 (w.heap.size) 4 _ _ _ x0
  have a5 : w3.cell? ⟨w.heap.size, 5, none⟩ = some (.int .u64 ceil) := cell_of_row w3 (w.heap.size) 5 _ _ _ x0
  have a6 : w3.cell? ⟨w.heap.size, 6, none⟩ = some (.int .i64 sec) := cell_of_row w3 (w.heap.size) 6 _ _ _ x0
  have a7 : w3.cell? ⟨w.heap.size, 7, none⟩ = some (.int .i64 nano) := cell_of_row w3 (w.heap.size) 7 _ _ _ x0
  have af (i : Nat) : w3.frozen? ⟨w.heap.size, i, none⟩ = false := frozen_of_row w3 (w.heap.size) i _ _ x0
  have b0 : w3.cell? ⟨w.heap.size + 2, 0, none⟩ = some (.slice none 0 0) := cell_of_row w3 (w.heap.size + 2) 0 _ _ _ x1
  have b1 : w3.cell? ⟨w.heap.size + 2, 1, none⟩ = some (.int .i64 0) := cell_of_row w3 (w.heap.size + 2) 1 _ _ _ x1
  have b2 : w3.cell? ⟨w.heap.size + 2, 2, none⟩ = some (.int .i64 0) := cell_of_row w3 (w.heap.size + 2) 2 _ _ _ x1
  have b3 : w3.cell? ⟨w.heap.size + 2, 3, none⟩ = some (.int .i64 0) := cell_of_row w3 (w.heap.size + 2) 3 _ _ _ x1
  have b4 : w3.cell? ⟨w.heap.size + 2, 4, none⟩ = some (.int .u64 0) := cell_of_row w3 (w.heap.size + 2) 4 _ _ _ x1
  have b5 : w3.cell? ⟨w.heap.size + 2, 5, none⟩ = some (.int .u64 0) := cell_of_row w3 (w.heap.size + 2) 5 _ _ _ x1
  have b6 : w3.cell? ⟨w.heap.size + 2, 6, none⟩ = some (.int .i64 0) := cell_of_row w3 (w.heap.size + 2) 6 _ _ _ x1
  have b7 : w3.cell? ⟨w.heap.size + 2, 7, none⟩ = some (.int .i64 0) := cell_of_row w3 (w.heap.size + 2) 7 _ _ _ x1
  have bf (i : Nat) : w3.frozen? ⟨w.heap.size + 2, i, none⟩ = false := frozen_of_row w3 (w.heap.size + 2) i _ _ x1
  have s0 : w3.cell? ⟨w.heap.size + 1, 0, none⟩ = some (.int .i64 ss) := cell_of_row w3 (w.heap.size + 1) 0 _ _ _ x2
  have s1 : w3.cell? ⟨w.heap.size + 1, 1, none⟩ = some (.int .i64 sn) := cell_of_row w3 (w.heap.size + 1) 1 _ _ _ x2
  have sf (i : Nat) : w3.frozen? ⟨w.heap.size + 1, i, none⟩ = false := frozen_of_row w3 (w.heap.size + 1) i _ _ x2
  have X0 := Lib.hid x0
  have X1 := Lib.hid x1
  have X2 := Lib.hid x2
  clear x0 x1 x2
  go_wp2_with fail
  refine bodyPost_ret (v := .tuple #[.agg #[.slice none 0 0, .int .i64 0, .int .i64 0, .int .i64 0, .int .u64 0, .int .u64 0, .int .i64 0, .int .i64 0], .int .u64 0]) (by simp [results, Try.results35, go_sem, b0, b1, b2, b3, b4, b5, b6, b7]) rfl ⟨_, _, rfl, Or.inl ⟨rfl, rfl, rfl⟩, ?_⟩
  iterate 8 (refine Below.set ?_ _ _ _ (by omega))
  exact hB
set_option maxHeartbeats 800000 in
theorem refAnswered_y1 (L : Ln) (ao : Option Addr) (cap : Nat) (g c ss sn b : Int) (hc0 : 0 ≤ c) (hc1 : c ≤ 18446744073709551615) (w : World) (hf : L.fits) (hr : Rd w ao L.key) (hok : L.ok = true) (hbk : blkB b = true) (hst : stampB ss sn = true) (hls : lessB L.sec L.nano ss sn = true) (h1 : L.cur < g) (h2 : g ≤ 2147483647) (h3 : c ≤ 18446744073709551614) (hge : g ≤ L.next) :
   Calls Try.prog 35 #[L.val ao cap, .int .i64 g, .int .u64 c, .agg #[.int .i64 ss, .int .i64 sn], .int .i64 b] w fun e w' => ∃ ao' cap', e = .returned (.tuple #[(answeredL L g c ss sn b).val ao' cap', .int .u64 (atA L g c ss sn b)]) ∧ Mine w' w.heap.size 5 ao' cap' (answeredL L g c ss sn b).key ∧ Below w.heap.size w w' := by
  obtain ⟨hl, hcur0, hcur1, hnext0, hnext1, hsend0, hsend1, hceil0, hceil1, hs⟩ := hf
  obtain ⟨key, side, cur, next, send, ceil, sec, nano⟩ := L
  unfold Ln.val
  simp only at hl hcur0 hcur1 hnext0 hnext1 hsend0 hsend1 hceil0 hceil1 hs hr hok hls h1 hge ⊢
  have hma : mayA ⟨key, side, cur, next, send, ceil, sec, nano⟩ g c ss sn b = true := by simp [mayA, hok, hbk, hst, hls, h1, h2, h3]
  have ha : atA ⟨key, side, cur, next, send, ceil, sec, nano⟩ g c ss sn b = 1 := by simp [atA, hma, hge]
  rw [ha]
  have hy : answeredL ⟨key, side, cur, next, send, ceil, sec, nano⟩ g c ss sn b = Ln.keep ⟨key, side, cur, next, send, ceil, sec, nano⟩ g next (upF 1 b) (upF c b) ss sn := by simp [answeredL, hma, ha]
  rw [hy]
  unfold Ln.keep
  have HOK := Lib.hid hok
  have HBK := Lib.hid hbk
  have HST := Lib.hid hst
  have HLS := Lib.hid hls
  clear hy hma hok hbk hst hls ha
  go_enter Try.func35, Try.ntmps35
  go_wp2_with fail
  refine (refLaneValid ⟨key, side, cur, next, send, ceil, sec, nano⟩ ao cap _).mono ?_
  rintro e w1 ⟨rfl, hb⟩
  rw [HOK.out]
  have hz := hb.size
  simp only [alloc_size] at hz
  have hB := ((((Below.refl _ w).alloc (Nat.le_refl _) _).alloc (by simp only [alloc_size]; omega) _).alloc (by simp only [alloc_size]; omega) _).trans (hb.mono (by simp only [alloc_size]; omega))
  have x0 : w1.heap[w.heap.size]? = some (.cells #[.slice ao key.length cap, .int .i64 side, .int .i64 cur, .int .i64 next, .int .u64 send, .int .u64 ceil, .int .i64 sec, .int .i64 nano] 27 (0, 0)) := (hb_block hb (w.heap.size) (by simp only [alloc_size]; omega)).trans (by simp only [alloc_get, alloc_size]; repeat first | rw [if_pos trivial] | rw [if_neg (by omega)] | rw [if_pos (by omega)])
  have x1 : w1.heap[w.heap.size + 2]? = some (.cells #[.slice none 0 0, .int .i64 0, .int .i64 0, .int .i64 0, .int .u64 0, .int .u64 0, .int .i64 0, .int .i64 0] 27 (0, 0)) := (hb_block hb (w.heap.size + 2) (by simp only [alloc_size]; omega)).trans (by simp only [alloc_get, alloc_size]; repeat first | rw [if_pos trivial] | rw [if_neg (by omega)] | rw [if_pos (by omega)])
  have x2 : w1.heap[w.heap.size + 1]? = some (.cells #[.int .i64 ss, .int .i64 sn] 25 (0, 0)) := (hb_block hb (w.heap.size + 1) (by simp only [alloc_size]; omega)).trans (by simp only [alloc_get, alloc_size]; repeat first | rw [if_pos trivial] | rw [if_neg (by omega)] | rw [if_pos (by omega)])
  clear hb
  have a0 : w1.cell? ⟨w.heap.size, 0, none⟩ = some (.slice ao key.length cap) := cell_of_row w1 (w.heap.size) 0 _ _ _ x0
  have a1 : w1.cell? ⟨w.heap.size, 1, none⟩ = some (.int .i64 side) := cell_of_row w1 (w.heap.size) 1 _ _ _ x0
  have a2 : w1.cell? ⟨w.heap.size, 2, none⟩ = some (.int .i64 cur) := cell_of_row w1 (w.heap.size) 2 _ _ _ x0
  have a3 : w1.cell? ⟨w.heap.size, 3, none⟩ = some (.int .i64 next) := cell_of_row w1 (w.heap.size) 3 _ _ _ x0
  have a4 : w1.cell? ⟨w.heap.size, 4, none⟩ = some (.int .u64 send) := cell_of_row w1 (w.heap.size) 4 _ _ _ x0
  have a5 : w1.cell? ⟨w.heap.size, 5, none⟩ = some (.int .u64 ceil) := cell_of_row w1 (w.heap.size) 5 _ _ _ x0
  have a6 : w1.cell? ⟨w.heap.size, 6, none⟩ = some (.int .i64 sec) := cell_of_row w1 (w.heap.size) 6 _ _ _ x0
  have a7 : w1.cell? ⟨w.heap.size, 7, none⟩ = some (.int .i64 nano) := cell_of_row w1 (w.heap.size) 7 _ _ _ x0
  have af (i : Nat) : w1.frozen? ⟨w.heap.size, i, none⟩ = false := frozen_of_row w1 (w.heap.size) i _ _ x0
  have b0 : w1.cell? ⟨w.heap.size + 2, 0, none⟩ = some (.slice none 0 0) := cell_of_row w1 (w.heap.size + 2) 0 _ _ _ x1
  have b1 : w1.cell? ⟨w.heap.size + 2, 1, none⟩ = some (.int .i64 0) := cell_of_row w1 (w.heap.size + 2) 1 _ _ _ x1
  have b2 : w1.cell? ⟨w.heap.size + 2, 2, none⟩ = some (.int .i64 0) := cell_of_row w1 (w.heap.size + 2) 2 _ _ _ x1
  have b3 : w1.cell? ⟨w.heap.size + 2, 3, none⟩ = some (.int .i64 0) := cell_of_row w1 (w.heap.size + 2) 3 _ _ _ x1
  have b4 : w1.cell? ⟨w.heap.size + 2, 4, none⟩ = some (.int .u64 0) := cell_of_row w1 (w.heap.size + 2) 4 _ _ _ x1
  have b5 : w1.cell? ⟨w.heap.size + 2, 5, none⟩ = some (.int .u64 0) := cell_of_row w1 (w.heap.size + 2) 5 _ _ _ x1
  have b6 : w1.cell? ⟨w.heap.size + 2, 6, none⟩ = some (.int .i64 0) := cell_of_row w1 (w.heap.size + 2) 6 _ _ _ x1
  have b7 : w1.cell? ⟨w.heap.size + 2, 7, none⟩ = some (.int .i64 0) := cell_of_row w1 (w.heap.size + 2) 7 _ _ _ x1
  have bf (i : Nat) : w1.frozen? ⟨w.heap.size + 2, i, none⟩ = false := frozen_of_row w1 (w.heap.size + 2) i _ _ x1
  have s0 : w1.cell? ⟨w.heap.size + 1, 0, none⟩ = some (.int .i64 ss) := cell_of_row w1 (w.heap.size + 1) 0 _ _ _ x2
  have s1 : w1.cell? ⟨w.heap.size + 1, 1, none⟩ = some (.int .i64 sn) := cell_of_row w1 (w.heap.size + 1) 1 _ _ _ x2
  have sf (i : Nat) : w1.frozen? ⟨w.heap.size + 1, i, none⟩ = false := frozen_of_row w1 (w.heap.size + 1) i _ _ x2
  have X0 := Lib.hid x0
  have X1 := Lib.hid x1
  have X2 := Lib.hid x2
  clear x0 x1 x2
  go_wp2_with fail
  refine (refBlocks b _).mono ?_
  rintro e w2 ⟨rfl, hw⟩
  obtain rfl := hw.symm
  rw [HBK.out]
  go_wp2_with fail
  refine (refStampValid ss sn _).mono ?_
  rintro e w2 ⟨rfl, hb⟩
  rw [HST.out]
  have x0 : w2.heap[w.heap.size]? = some (.cells #[.slice ao key.length cap, .int .i64 side, .int .i64 cur, .int .i64 next, .int .u64 send, .int .u64 ceil, .int .i64 sec, .int .i64 nano] 27 (0, 0)) := (hb.block (w.heap.size) (by omega)).trans X0.out
  have x1 : w2.heap[w.heap.size + 2]? = some (.cells #[.slice none 0 0, .int .i64 0, .int .i64 0, .int .i64 0, .int .u64 0, .int .u64 0, .int .i64 0, .int .i64 0] 27 (0, 0)) := (hb.block (w.heap.size + 2) (by omega)).trans X1.out
  have x2 : w2.heap[w.heap.size + 1]? = some (.cells #[.int .i64 ss, .int .i64 sn] 25 (0, 0)) := (hb.block (w.heap.size + 1) (by omega)).trans X2.out
  have hzw2 := hb.size
  have hB := hB.trans (hb.mono (by omega))
  clear hb X0 X1 X2
  clear a0 a1 a2 a3 a4 a5 a6 a7 af
  clear b0 b1 b2 b3 b4 b5 b6 b7 bf
  clear s0 s1 sf
  have a0 : w2.cell? ⟨w.heap.size, 0, none⟩ = some (.slice ao key.length cap) := cell_of_row w2 (w.heap.size) 0 _ _ _ x0
  have a1 : w2.cell? ⟨w.heap.size, 1, none⟩ = some (.int .i64 side) := cell_of_row w2 (w.heap.size) 1 _ _ _ x0
  have a2 : w2.cell? ⟨w.heap.size, 2, none⟩ = some (.int .i64 cur) := cell_of_row w2 (w.heap.size) 2 _ _ _ x0
  have a3 : w2.cell? ⟨w.heap.size, 3, none⟩ = some (.int .i64 next) := cell_of_row w2 (w.heap.size) 3 _ _ _ x0
  have a4 : w2.cell? ⟨w.heap.size, 4, none⟩ = some (.int .u64 send) := cell_of_row w2 (w.heap.size) 4 _ _ _ x0
  have a5 : w2.cell? ⟨w.heap.size, 5, none⟩ = some (.int .u64 ceil) := cell_of_row w2 (w.heap.size) 5 _ _ _ x0
  have a6 : w2.cell? ⟨w.heap.size, 6, none⟩ = some (.int .i64 sec) := cell_of_row w2 (w.heap.size) 6 _ _ _ x0
  have a7 : w2.cell? ⟨w.heap.size, 7, none⟩ = some (.int .i64 nano) := cell_of_row w2 (w.heap.size) 7 _ _ _ x0
  have af (i : Nat) : w2.frozen? ⟨w.heap.size, i, none⟩ = false := frozen_of_row w2 (w.heap.size) i _ _ x0
  have b0 : w2.cell? ⟨w.heap.size + 2, 0, none⟩ = some (.slice none 0 0) := cell_of_row w2 (w.heap.size + 2) 0 _ _ _ x1
  have b1 : w2.cell? ⟨w.heap.size + 2, 1, none⟩ = some (.int .i64 0) := cell_of_row w2 (w.heap.size + 2) 1 _ _ _ x1
  have b2 : w2.cell? ⟨w.heap.size + 2, 2, none⟩ = some (.int .i64 0) := cell_of_row w2 (w.heap.size + 2) 2 _ _ _ x1
  have b3 : w2.cell? ⟨w.heap.size + 2, 3, none⟩ = some (.int .i64 0) := cell_of_row w2 (w.heap.size + 2) 3 _ _ _ x1
  have b4 : w2.cell? ⟨w.heap.size + 2, 4, none⟩ = some (.int .u64 0) := cell_of_row w2 (w.heap.size + 2) 4 _ _ _ x1
  have b5 : w2.cell? ⟨w.heap.size + 2, 5, none⟩ = some (.int .u64 0) := cell_of_row w2 (w.heap.size + 2) 5 _ _ _ x1
  have b6 : w2.cell? ⟨w.heap.size + 2, 6, none⟩ = some (.int .i64 0) := cell_of_row w2 (w.heap.size + 2) 6 _ _ _ x1
  have b7 : w2.cell? ⟨w.heap.size + 2, 7, none⟩ = some (.int .i64 0) := cell_of_row w2 (w.heap.size + 2) 7 _ _ _ x1
  have bf (i : Nat) : w2.frozen? ⟨w.heap.size + 2, i, none⟩ = false := frozen_of_row w2 (w.heap.size + 2) i _ _ x1
  have s0 : w2.cell? ⟨w.heap.size + 1, 0, none⟩ = some (.int .i64 ss) := cell_of_row w2 (w.heap.size + 1) 0 _ _ _ x2
  have s1 : w2.cell? ⟨w.heap.size + 1, 1, none⟩ = some (.int .i64 sn) := cell_of_row w2 (w.heap.size + 1) 1 _ _ _ x2
  have sf (i : Nat) : w2.frozen? ⟨w.heap.size + 1, i, none⟩ = false := frozen_of_row w2 (w.heap.size + 1) i _ _ x2
  have X0 := Lib.hid x0
  have X1 := Lib.hid x1
  have X2 := Lib.hid x2
  clear x0 x1 x2
  go_wp2_with fail
  refine (refStampLess sec nano ss sn _).mono ?_
  rintro e w3 ⟨rfl, hb⟩
  rw [HLS.out]
  have x0 : w3.heap[w.heap.size]? = some (.cells #[.slice ao key.length cap, .int .i64 side, .int .i64 cur, .int .i64 next, .int .u64 send, .int .u64 ceil, .int .i64 sec, .int .i64 nano] 27 (0, 0)) := (hb.block (w.heap.size) (by omega)).trans X0.out
  have x1 : w3.heap[w.heap.size + 2]? = some (.cells #[.slice none 0 0, .int .i64 0, .int .i64 0, .int .i64 0, .int .u64 0, .int .u64 0, .int .i64 0, .int .i64 0] 27 (0, 0)) := (hb.block (w.heap.size + 2) (by omega)).trans X1.out
  have x2 : w3.heap[w.heap.size + 1]? = some (.cells #[.int .i64 ss, .int .i64 sn] 25 (0, 0)) := (hb.block (w.heap.size + 1) (by omega)).trans X2.out
  have hzw3 := hb.size
  have hB := hB.trans (hb.mono (by omega))
  clear hb X0 X1 X2
  clear a0 a1 a2 a3 a4 a5 a6 a7 af
  clear b0 b1 b2 b3 b4 b5 b6 b7 bf
  clear s0 s1 sf
  have a0 : w3.cell? ⟨w.heap.size, 0, none⟩ = some (.slice ao key.length cap) := cell_of_row w3 (w.heap.size) 0 _ _ _ x0
  have a1 : w3.cell? ⟨w.heap.size, 1, none⟩ = some (.int .i64 side) := cell_of_row w3 (w.heap.size) 1 _ _ _ x0
  have a2 : w3.cell? ⟨w.heap.size, 2, none⟩ = some (.int .i64 cur) := cell_of_row w3 (w.heap.size) 2 _ _ _ x0
  have a3 : w3.cell? ⟨w.heap.size, 3, none⟩ = some (.int .i64 next) := cell_of_row w3 (w.heap.size) 3 _ _ _ x0
  have a4 : w3.cell? ⟨w.heap.size, 4, none⟩ = some (.int .u64 send) := cell_of_row w3 (w.heap.size) 4 _ _ _ x0
  have a5 : w3.cell? ⟨w.heap.size, 5, none⟩ = some (.int .u64 ceil) := cell_of_row w3 (w.heap.size) 5 _ _ _ x0
  have a6 : w3.cell? ⟨w.heap.size, 6, none⟩ = some (.int .i64 sec) := cell_of_row w3 (w.heap.size) 6 _ _ _ x0
  have a7 : w3.cell? ⟨w.heap.size, 7, none⟩ = some (.int .i64 nano) := cell_of_row w3 (w.heap.size) 7 _ _ _ x0
  have af (i : Nat) : w3.frozen? ⟨w.heap.size, i, none⟩ = false := frozen_of_row w3 (w.heap.size) i _ _ x0
  have b0 : w3.cell? ⟨w.heap.size + 2, 0, none⟩ = some (.slice none 0 0) := cell_of_row w3 (w.heap.size + 2) 0 _ _ _ x1
  have b1 : w3.cell? ⟨w.heap.size + 2, 1, none⟩ = some (.int .i64 0) := cell_of_row w3 (w.heap.size + 2) 1 _ _ _ x1
  have b2 : w3.cell? ⟨w.heap.size + 2, 2, none⟩ = some (.int .i64 0) := cell_of_row w3 (w.heap.size + 2) 2 _ _ _ x1
  have b3 : w3.cell? ⟨w.heap.size + 2, 3, none⟩ = some (.int .i64 0) := cell_of_row w3 (w.heap.size + 2) 3 _ _ _ x1
  have b4 : w3.cell? ⟨w.heap.size + 2, 4, none⟩ = some (.int .u64 0) := cell_of_row w3 (w.heap.size + 2) 4 _ _ _ x1
  have b5 : w3.cell? ⟨w.heap.size + 2, 5, none⟩ = some (.int .u64 0) := cell_of_row w3 (w.heap.size + 2) 5 _ _ _ x1
  have b6 : w3.cell? ⟨w.heap.size + 2, 6, none⟩ = some (.int .i64 0) := cell_of_row w3 (w.heap.size + 2) 6 _ _ _ x1
  have b7 : w3.cell? ⟨w.heap.size + 2, 7, none⟩ = some (.int .i64 0) := cell_of_row w3 (w.heap.size + 2) 7 _ _ _ x1
  have bf (i : Nat) : w3.frozen? ⟨w.heap.size + 2, i, none⟩ = false := frozen_of_row w3 (w.heap.size + 2) i _ _ x1
  have s0 : w3.cell? ⟨w.heap.size + 1, 0, none⟩ = some (.int .i64 ss) := cell_of_row w3 (w.heap.size + 1) 0 _ _ _ x2
  have s1 : w3.cell? ⟨w.heap.size + 1, 1, none⟩ = some (.int .i64 sn) := cell_of_row w3 (w.heap.size + 1) 1 _ _ _ x2
  have sf (i : Nat) : w3.frozen? ⟨w.heap.size + 1, i, none⟩ = false := frozen_of_row w3 (w.heap.size + 1) i _ _ x2
  have X0 := Lib.hid x0
  have X1 := Lib.hid x1
  have X2 := Lib.hid x2
  clear x0 x1 x2
  go_wp2_with fail
  refine (refLane ⟨key, side, cur, next, send, ceil, sec, nano⟩ ao cap _ hl (hr.on hB)).mono ?_
  rintro e V ⟨ar, cr, he, hm, hb⟩
  obtain rfl : e = .returned (.agg #[.slice ar key.length cr, .int .i64 side, .int .i64 cur, .int .i64 next, .int .u64 send, .int .u64 ceil, .int .i64 sec, .int .i64 nano]) := he
  have x0 : V.heap[w.heap.size]? = some (.cells #[.slice ao key.length cap, .int .i64 side, .int .i64 cur, .int .i64 next, .int .u64 send, .int .u64 ceil, .int .i64 sec, .int .i64 nano] 27 (0, 0)) := (hb.block (w.heap.size) (by omega)).trans X0.out
  have x1 : V.heap[w.heap.size + 2]? = some (.cells #[.slice none 0 0, .int .i64 0, .int .i64 0, .int .i64 0, .int .u64 0, .int .u64 0, .int .i64 0, .int .i64 0] 27 (0, 0)) := (hb.block (w.heap.size + 2) (by omega)).trans X1.out
  have x2 : V.heap[w.heap.size + 1]? = some (.cells #[.int .i64 ss, .int .i64 sn] 25 (0, 0)) := (hb.block (w.heap.size + 1) (by omega)).trans X2.out
  have hzV := hb.size
  have hBV := hB.trans (hb.mono (by omega))
  have hlt0 : w.heap.size < V.heap.size := by omega
  have hlt1 : w.heap.size + 2 < V.heap.size := by omega
  have hlt2 : w.heap.size + 1 < V.heap.size := by omega
  clear hb hB X0 X1 X2
  clear a0 a1 a2 a3 a4 a5 a6 a7 af
  clear b0 b1 b2 b3 b4 b5 b6 b7 bf
  clear s0 s1 sf
  have a0 : V.cell? ⟨w.heap.size, 0, none⟩ = some (.slice ao key.length cap) := cell_of_row V (w.heap.size) 0 _ _ _ x0
  have a1 : V.cell? ⟨w.heap.size, 1, none⟩ = some (.int .i64 side) := cell_of_row V (w.heap.size) 1 _ _ _ x0
  have a2 : V.cell? ⟨w.heap.size, 2, none⟩ = some (.int .i64 cur) := cell_of_row V (w.heap.size) 2 _ _ _ x0
  have a3 : V.cell? ⟨w.heap.size, 3, none⟩ = some (.int .i64 next) := cell_of_row V (w.heap.size) 3 _ _ _ x0
  have a4 : V.cell? ⟨w.heap.size, 4, none⟩ = some (.int .u64 send) := cell_of_row V (w.heap.size) 4 _ _ _ x0
  have a5 : V.cell? ⟨w.heap.size, 5, none⟩ = some (.int .u64 ceil) := cell_of_row V (w.heap.size) 5 _ _ _ x0
  have a6 : V.cell? ⟨w.heap.size, 6, none⟩ = some (.int .i64 sec) := cell_of_row V (w.heap.size) 6 _ _ _ x0
  have a7 : V.cell? ⟨w.heap.size, 7, none⟩ = some (.int .i64 nano) := cell_of_row V (w.heap.size) 7 _ _ _ x0
  have af (i : Nat) : V.frozen? ⟨w.heap.size, i, none⟩ = false := frozen_of_row V (w.heap.size) i _ _ x0
  have b0 : V.cell? ⟨w.heap.size + 2, 0, none⟩ = some (.slice none 0 0) := cell_of_row V (w.heap.size + 2) 0 _ _ _ x1
  have b1 : V.cell? ⟨w.heap.size + 2, 1, none⟩ = some (.int .i64 0) := cell_of_row V (w.heap.size + 2) 1 _ _ _ x1
  have b2 : V.cell? ⟨w.heap.size + 2, 2, none⟩ = some (.int .i64 0) := cell_of_row V (w.heap.size + 2) 2 _ _ _ x1
  have b3 : V.cell? ⟨w.heap.size + 2, 3, none⟩ = some (.int .i64 0) := cell_of_row V (w.heap.size + 2) 3 _ _ _ x1
  have b4 : V.cell? ⟨w.heap.size + 2, 4, none⟩ = some (.int .u64 0) := cell_of_row V (w.heap.size + 2) 4 _ _ _ x1
  have b5 : V.cell? ⟨w.heap.size + 2, 5, none⟩ = some (.int .u64 0) := cell_of_row V (w.heap.size + 2) 5 _ _ _ x1
  have b6 : V.cell? ⟨w.heap.size + 2, 6, none⟩ = some (.int .i64 0) := cell_of_row V (w.heap.size + 2) 6 _ _ _ x1
  have b7 : V.cell? ⟨w.heap.size + 2, 7, none⟩ = some (.int .i64 0) := cell_of_row V (w.heap.size + 2) 7 _ _ _ x1
  have bf (i : Nat) : V.frozen? ⟨w.heap.size + 2, i, none⟩ = false := frozen_of_row V (w.heap.size + 2) i _ _ x1
  have s0 : V.cell? ⟨w.heap.size + 1, 0, none⟩ = some (.int .i64 ss) := cell_of_row V (w.heap.size + 1) 0 _ _ _ x2
  have s1 : V.cell? ⟨w.heap.size + 1, 1, none⟩ = some (.int .i64 sn) := cell_of_row V (w.heap.size + 1) 1 _ _ _ x2
  have sf (i : Nat) : V.frozen? ⟨w.heap.size + 1, i, none⟩ = false := frozen_of_row V (w.heap.size + 1) i _ _ x2
  clear x0 x1 x2
  go_wp2_with fail
  refine (refUp 1 b (by decide) (by decide) _).mono ?_
  rintro e V2 ⟨rfl, rfl⟩
  go_wp2_with fail
  refine (refUp c b hc0 hc1 _).mono ?_
  rintro e V2 ⟨rfl, rfl⟩
  go_wp2_with fail
  refine bodyPost_ret (v := .tuple #[.agg #[.slice ar key.length cr, .int .i64 side, .int .i64 g, .int .i64 next, .int .u64 (upF 1 b), .int .u64 (upF c b), .int .i64 ss, .int .i64 sn], .int .u64 1]) (by simp [results, Try.results35, go_sem, hlt1, b0, b1, b2, b3, b4, b5, b6, b7]) rfl ⟨_, _, rfl, ?_, ?_⟩
  · refine Mine.from (B := w.heap.size + 3) ?_ (by omega)
    refine Mine.below ?_ (fresh1 _ _)
    iterate 8 (refine Mine.setCell ?_ _ _ _ (by omega))
    exact Mine.from hm (by omega)
  · refine below_push ?_
    iterate 8 (refine Below.set ?_ _ _ _ (by omega))
    exact hBV
set_option maxHeartbeats 800000 in
theorem refAnswered_y0 (L : Ln) (ao : Option Addr) (cap : Nat) (g c ss sn b : Int) (hc0 : 0 ≤ c) (hc1 : c ≤ 18446744073709551615) (w : World) (hf : L.fits) (hr : Rd w ao L.key) (hok : L.ok = true) (hbk : blkB b = true) (hst : stampB ss sn = true) (hls : lessB L.sec L.nano ss sn = true) (h1 : L.cur < g) (h2 : g ≤ 2147483647) (h3 : c ≤ 18446744073709551614) (hge : ¬ g ≤ L.next) :
   Calls Try.prog 35 #[L.val ao cap, .int .i64 g, .int .u64 c, .agg #[.int .i64 ss, .int .i64 sn], .int .i64 b] w fun e w' => ∃ ao' cap', e = .returned (.tuple #[(answeredL L g c ss sn b).val ao' cap', .int .u64 (atA L g c ss sn b)]) ∧ Mine w' w.heap.size 5 ao' cap' (answeredL L g c ss sn b).key ∧ Below w.heap.size w w' := by
  obtain ⟨hl, hcur0, hcur1, hnext0, hnext1, hsend0, hsend1, hceil0, hceil1, hs⟩ := hf
  obtain ⟨key, side, cur, next, send, ceil, sec, nano⟩ := L
  unfold Ln.val
  simp only at hl hcur0 hcur1 hnext0 hnext1 hsend0 hsend1 hceil0 hceil1 hs hr hok hls h1 hge ⊢
  have hma : mayA ⟨key, side, cur, next, send, ceil, sec, nano⟩ g c ss sn b = true := by simp [mayA, hok, hbk, hst, hls, h1, h2, h3]
  have ha : atA ⟨key, side, cur, next, send, ceil, sec, nano⟩ g c ss sn b = 0 := by simp [atA, hma, hge]
  rw [ha]
  have hy : answeredL ⟨key, side, cur, next, send, ceil, sec, nano⟩ g c ss sn b = Ln.keep ⟨key, side, cur, next, send, ceil, sec, nano⟩ g next (upF 0 b) (upF c b) ss sn := by simp [answeredL, hma, ha]
  rw [hy]
  unfold Ln.keep
  have HOK := Lib.hid hok
  have HBK := Lib.hid hbk
  have HST := Lib.hid hst
  have HLS := Lib.hid hls
  clear hy hma hok hbk hst hls ha
  go_enter Try.func35, Try.ntmps35
  go_wp2_with fail
  refine (refLaneValid ⟨key, side, cur, next, send, ceil, sec, nano⟩ ao cap _).mono ?_
  rintro e w1 ⟨rfl, hb⟩
  rw [HOK.out]
  have hz := hb.size
  simp only [alloc_size] at hz
  have hB := ((((Below.refl _ w).alloc (Nat.le_refl _) _).alloc (by simp only [alloc_size]; omega) _).alloc (by simp only [alloc_size]; omega) _).trans (hb.mono (by simp only [alloc_size]; omega))
  have x0 : w1.heap[w.heap.size]? = some (.cells #[.slice ao key.length cap, .int .i64 side, .int .i64 cur, .int .i64 next, .int .u64 send, .int .u64 ceil, .int .i64 sec, .int .i64 nano] 27 (0, 0)) := (hb_block hb (w.heap.size) (by simp only [alloc_size]; omega)).trans (by simp only [alloc_get, alloc_size]; repeat first | rw [if_pos trivial] | rw [if_neg (by omega)] | rw [if_pos (by omega)])
  have x1 : w1.heap[w.heap.size + 2]? = some (.cells #[.slice none 0 0, .int .i64 0, .int .i64 0, .int .i64 0, .int .u64 0, .int .u64 0, .int .i64 0, .int .i64 0] 27 (0, 0)) := (hb_block hb (w.heap.size + 2) (by simp only [alloc_size]; omega)).trans (by simp only [alloc_get, alloc_size]; repeat first | rw [if_pos trivial] | rw [if_neg (by omega)] | rw [if_pos (by omega)])
  have x2 : w1.heap[w.heap.size + 1]? = some (.cells #[.int .i64 ss, .int .i64 sn] 25 (0, 0)) := (hb_block hb (w.heap.size + 1) (by simp only [alloc_size]; omega)).trans (by simp only [alloc_get, alloc_size]; repeat first | rw [if_pos trivial] | rw [if_neg (by omega)] | rw [if_pos (by omega)])
  clear hb
  have a0 : w1.cell? ⟨w.heap.size, 0, none⟩ = some (.slice ao key.length cap) := cell_of_row w1 (w.heap.size) 0 _ _ _ x0
  have a1 : w1.cell? ⟨w.heap.size, 1, none⟩ = some (.int .i64 side) := cell_of_row w1 (w.heap.size) 1 _ _ _ x0
  have a2 : w1.cell? ⟨w.heap.size, 2, none⟩ = some (.int .i64 cur) := cell_of_row w1 (w.heap.size) 2 _ _ _ x0
  have a3 : w1.cell? ⟨w.heap.size, 3, none⟩ = some (.int .i64 next) := cell_of_row w1 (w.heap.size) 3 _ _ _ x0
  have a4 : w1.cell? ⟨w.heap.size, 4, none⟩ = some (.int .u64 send) := cell_of_row w1 (w.heap.size) 4 _ _ _ x0
  have a5 : w1.cell? ⟨w.heap.size, 5, none⟩ = some (.int .u64 ceil) := cell_of_row w1 (w.heap.size) 5 _ _ _ x0
  have a6 : w1.cell? ⟨w.heap.size, 6, none⟩ = some (.int .i64 sec) := cell_of_row w1 (w.heap.size) 6 _ _ _ x0
  have a7 : w1.cell? ⟨w.heap.size, 7, none⟩ = some (.int .i64 nano) := cell_of_row w1 (w.heap.size) 7 _ _ _ x0
  have af (i : Nat) : w1.frozen? ⟨w.heap.size, i, none⟩ = false := frozen_of_row w1 (w.heap.size) i _ _ x0
  have b0 : w1.cell? ⟨w.heap.size + 2, 0, none⟩ = some (.slice none 0 0) := cell_of_row w1 (w.heap.size + 2) 0 _ _ _ x1
  have b1 : w1.cell? ⟨w.heap.size + 2, 1, none⟩ = some (.int .i64 0) := cell_of_row w1 (w.heap.size + 2) 1 _ _ _ x1
  have b2 : w1.cell? ⟨w.heap.size + 2, 2, none⟩ = some (.int .i64 0) := cell_of_row w1 (w.heap.size + 2) 2 _ _ _ x1
  have b3 : w1.cell? ⟨w.heap.size + 2, 3, none⟩ = some (.int .i64 0) := cell_of_row w1 (w.heap.size + 2) 3 _ _ _ x1
  have b4 : w1.cell? ⟨w.heap.size + 2, 4, none⟩ = some (.int .u64 0) := cell_of_row w1 (w.heap.size + 2) 4 _ _ _ x1
  have b5 : w1.cell? ⟨w.heap.size + 2, 5, none⟩ = some (.int .u64 0) := cell_of_row w1 (w.heap.size + 2) 5 _ _ _ x1
  have b6 : w1.cell? ⟨w.heap.size + 2, 6, none⟩ = some (.int .i64 0) := cell_of_row w1 (w.heap.size + 2) 6 _ _ _ x1
  have b7 : w1.cell? ⟨w.heap.size + 2, 7, none⟩ = some (.int .i64 0) := cell_of_row w1 (w.heap.size + 2) 7 _ _ _ x1
  have bf (i : Nat) : w1.frozen? ⟨w.heap.size + 2, i, none⟩ = false := frozen_of_row w1 (w.heap.size + 2) i _ _ x1
  have s0 : w1.cell? ⟨w.heap.size + 1, 0, none⟩ = some (.int .i64 ss) := cell_of_row w1 (w.heap.size + 1) 0 _ _ _ x2
  have s1 : w1.cell? ⟨w.heap.size + 1, 1, none⟩ = some (.int .i64 sn) := cell_of_row w1 (w.heap.size + 1) 1 _ _ _ x2
  have sf (i : Nat) : w1.frozen? ⟨w.heap.size + 1, i, none⟩ = false := frozen_of_row w1 (w.heap.size + 1) i _ _ x2
  have X0 := Lib.hid x0
  have X1 := Lib.hid x1
  have X2 := Lib.hid x2
  clear x0 x1 x2
  go_wp2_with fail
  refine (refBlocks b _).mono ?_
  rintro e w2 ⟨rfl, hw⟩
  obtain rfl := hw.symm
  rw [HBK.out]
  go_wp2_with fail
  refine (refStampValid ss sn _).mono ?_
  rintro e w2 ⟨rfl, hb⟩
  rw [HST.out]
  have x0 : w2.heap[w.heap.size]? = some (.cells #[.slice ao key.length cap, .int .i64 side, .int .i64 cur, .int .i64 next, .int .u64 send, .int .u64 ceil, .int .i64 sec, .int .i64 nano] 27 (0, 0)) := (hb.block (w.heap.size) (by omega)).trans X0.out
  have x1 : w2.heap[w.heap.size + 2]? = some (.cells #[.slice none 0 0, .int .i64 0, .int .i64 0, .int .i64 0, .int .u64 0, .int .u64 0, .int .i64 0, .int .i64 0] 27 (0, 0)) := (hb.block (w.heap.size + 2) (by omega)).trans X1.out
  have x2 : w2.heap[w.heap.size + 1]? = some (.cells #[.int .i64 ss, .int .i64 sn] 25 (0, 0)) := (hb.block (w.heap.size + 1) (by omega)).trans X2.out
  have hzw2 := hb.size
  have hB := hB.trans (hb.mono (by omega))
  clear hb X0 X1 X2
  clear a0 a1 a2 a3 a4 a5 a6 a7 af
  clear b0 b1 b2 b3 b4 b5 b6 b7 bf
  clear s0 s1 sf
  have a0 : w2.cell? ⟨w.heap.size, 0, none⟩ = some (.slice ao key.length cap) := cell_of_row w2 (w.heap.size) 0 _ _ _ x0
  have a1 : w2.cell? ⟨w.heap.size, 1, none⟩ = some (.int .i64 side) := cell_of_row w2 (w.heap.size) 1 _ _ _ x0
  have a2 : w2.cell? ⟨w.heap.size, 2, none⟩ = some (.int .i64 cur) := cell_of_row w2 (w.heap.size) 2 _ _ _ x0
  have a3 : w2.cell? ⟨w.heap.size, 3, none⟩ = some (.int .i64 next) := cell_of_row w2 (w.heap.size) 3 _ _ _ x0
  have a4 : w2.cell? ⟨w.heap.size, 4, none⟩ = some (.int .u64 send) := cell_of_row w2 (w.heap.size) 4 _ _ _ x0
  have a5 : w2.cell? ⟨w.heap.size, 5, none⟩ = some (.int .u64 ceil) := cell_of_row w2 (w.heap.size) 5 _ _ _ x0
  have a6 : w2.cell? ⟨w.heap.size, 6, none⟩ = some (.int .i64 sec) := cell_of_row w2 (w.heap.size) 6 _ _ _ x0
  have a7 : w2.cell? ⟨w.heap.size, 7, none⟩ = some (.int .i64 nano) := cell_of_row w2 (w.heap.size) 7 _ _ _ x0
  have af (i : Nat) : w2.frozen? ⟨w.heap.size, i, none⟩ = false := frozen_of_row w2 (w.heap.size) i _ _ x0
  have b0 : w2.cell? ⟨w.heap.size + 2, 0, none⟩ = some (.slice none 0 0) := cell_of_row w2 (w.heap.size + 2) 0 _ _ _ x1
  have b1 : w2.cell? ⟨w.heap.size + 2, 1, none⟩ = some (.int .i64 0) := cell_of_row w2 (w.heap.size + 2) 1 _ _ _ x1
  have b2 : w2.cell? ⟨w.heap.size + 2, 2, none⟩ = some (.int .i64 0) := cell_of_row w2 (w.heap.size + 2) 2 _ _ _ x1
  have b3 : w2.cell? ⟨w.heap.size + 2, 3, none⟩ = some (.int .i64 0) := cell_of_row w2 (w.heap.size + 2) 3 _ _ _ x1
  have b4 : w2.cell? ⟨w.heap.size + 2, 4, none⟩ = some (.int .u64 0) := cell_of_row w2 (w.heap.size + 2) 4 _ _ _ x1
  have b5 : w2.cell? ⟨w.heap.size + 2, 5, none⟩ = some (.int .u64 0) := cell_of_row w2 (w.heap.size + 2) 5 _ _ _ x1
  have b6 : w2.cell? ⟨w.heap.size + 2, 6, none⟩ = some (.int .i64 0) := cell_of_row w2 (w.heap.size + 2) 6 _ _ _ x1
  have b7 : w2.cell? ⟨w.heap.size + 2, 7, none⟩ = some (.int .i64 0) := cell_of_row w2 (w.heap.size + 2) 7 _ _ _ x1
  have bf (i : Nat) : w2.frozen? ⟨w.heap.size + 2, i, none⟩ = false := frozen_of_row w2 (w.heap.size + 2) i _ _ x1
  have s0 : w2.cell? ⟨w.heap.size + 1, 0, none⟩ = some (.int .i64 ss) := cell_of_row w2 (w.heap.size + 1) 0 _ _ _ x2
  have s1 : w2.cell? ⟨w.heap.size + 1, 1, none⟩ = some (.int .i64 sn) := cell_of_row w2 (w.heap.size + 1) 1 _ _ _ x2
  have sf (i : Nat) : w2.frozen? ⟨w.heap.size + 1, i, none⟩ = false := frozen_of_row w2 (w.heap.size + 1) i _ _ x2
  have X0 := Lib.hid x0
  have X1 := Lib.hid x1
  have X2 := Lib.hid x2
  clear x0 x1 x2
  go_wp2_with fail
  refine (refStampLess sec nano ss sn _).mono ?_
  rintro e w3 ⟨rfl, hb⟩
  rw [HLS.out]
  have x0 : w3.heap[w.heap.size]? = some (.cells #[.slice ao key.length cap, .int .i64 side, .int .i64 cur, .int .i64 next, .int .u64 send, .int .u64 ceil, .int .i64 sec, .int .i64 nano] 27 (0, 0)) := (hb.block (w.heap.size) (by omega)).trans X0.out
  have x1 : w3.heap[w.heap.size + 2]? = some (.cells #[.slice none 0 0, .int .i64 0, .int .i64 0, .int .i64 0, .int .u64 0, .int .u64 0, .int .i64 0, .int .i64 0] 27 (0, 0)) := (hb.block (w.heap.size + 2) (by omega)).trans X1.out
  have x2 : w3.heap[w.heap.size + 1]? = some (.cells #[.int .i64 ss, .int .i64 sn] 25 (0, 0)) := (hb.block (w.heap.size + 1) (by omega)).trans X2.out
  have hzw3 := hb.size
  have hB := hB.trans (hb.mono (by omega))
  clear hb X0 X1 X2
  clear a0 a1 a2 a3 a4 a5 a6 a7 af
  clear b0 b1 b2 b3 b4 b5 b6 b7 bf
  clear s0 s1 sf
  have a0 : w3.cell? ⟨w.heap.size, 0, none⟩ = some (.slice ao key.length cap) := cell_of_row w3 (w.heap.size) 0 _ _ _ x0
  have a1 : w3.cell? ⟨w.heap.size, 1, none⟩ = some (.int .i64 side) := cell_of_row w3 (w.heap.size) 1 _ _ _ x0
  have a2 : w3.cell? ⟨w.heap.size, 2, none⟩ = some (.int .i64 cur) := cell_of_row w3 (w.heap.size) 2 _ _ _ x0
  have a3 : w3.cell? ⟨w.heap.size, 3, none⟩ = some (.int .i64 next) := cell_of_row w3 (w.heap.size) 3 _ _ _ x0
  have a4 : w3.cell? ⟨w.heap.size, 4, none⟩ = some (.int .u64 send) := cell_of_row w3 (w.heap.size) 4 _ _ _ x0
  have a5 : w3.cell? ⟨w.heap.size, 5, none⟩ = some (.int .u64 ceil) := cell_of_row w3 (w.heap.size) 5 _ _ _ x0
  have a6 : w3.cell? ⟨w.heap.size, 6, none⟩ = some (.int .i64 sec) := cell_of_row w3 (w.heap.size) 6 _ _ _ x0
  have a7 : w3.cell? ⟨w.heap.size, 7, none⟩ = some (.int .i64 nano) := cell_of_row w3 (w.heap.size) 7 _ _ _ x0
  have af (i : Nat) : w3.frozen? ⟨w.heap.size, i, none⟩ = false := frozen_of_row w3 (w.heap.size) i _ _ x0
  have b0 : w3.cell? ⟨w.heap.size + 2, 0, none⟩ = some (.slice none 0 0) := cell_of_row w3 (w.heap.size + 2) 0 _ _ _ x1
  have b1 : w3.cell? ⟨w.heap.size + 2, 1, none⟩ = some (.int .i64 0) := cell_of_row w3 (w.heap.size + 2) 1 _ _ _ x1
  have b2 : w3.cell? ⟨w.heap.size + 2, 2, none⟩ = some (.int .i64 0) := cell_of_row w3 (w.heap.size + 2) 2 _ _ _ x1
  have b3 : w3.cell? ⟨w.heap.size + 2, 3, none⟩ = some (.int .i64 0) := cell_of_row w3 (w.heap.size + 2) 3 _ _ _ x1
  have b4 : w3.cell? ⟨w.heap.size + 2, 4, none⟩ = some (.int .u64 0) := cell_of_row w3 (w.heap.size + 2) 4 _ _ _ x1
  have b5 : w3.cell? ⟨w.heap.size + 2, 5, none⟩ = some (.int .u64 0) := cell_of_row w3 (w.heap.size + 2) 5 _ _ _ x1
  have b6 : w3.cell? ⟨w.heap.size + 2, 6, none⟩ = some (.int .i64 0) := cell_of_row w3 (w.heap.size + 2) 6 _ _ _ x1
  have b7 : w3.cell? ⟨w.heap.size + 2, 7, none⟩ = some (.int .i64 0) := cell_of_row w3 (w.heap.size + 2) 7 _ _ _ x1
  have bf (i : Nat) : w3.frozen? ⟨w.heap.size + 2, i, none⟩ = false := frozen_of_row w3 (w.heap.size + 2) i _ _ x1
  have s0 : w3.cell? ⟨w.heap.size + 1, 0, none⟩ = some (.int .i64 ss) := cell_of_row w3 (w.heap.size + 1) 0 _ _ _ x2
  have s1 : w3.cell? ⟨w.heap.size + 1, 1, none⟩ = some (.int .i64 sn) := cell_of_row w3 (w.heap.size + 1) 1 _ _ _ x2
  have sf (i : Nat) : w3.frozen? ⟨w.heap.size + 1, i, none⟩ = false := frozen_of_row w3 (w.heap.size + 1) i _ _ x2
  have X0 := Lib.hid x0
  have X1 := Lib.hid x1
  have X2 := Lib.hid x2
  clear x0 x1 x2
  go_wp2_with fail
  refine (refLane ⟨key, side, cur, next, send, ceil, sec, nano⟩ ao cap _ hl (hr.on hB)).mono ?_
  rintro e V ⟨ar, cr, he, hm, hb⟩
  obtain rfl : e = .returned (.agg #[.slice ar key.length cr, .int .i64 side, .int .i64 cur, .int .i64 next, .int .u64 send, .int .u64 ceil, .int .i64 sec, .int .i64 nano]) := he
  have x0 : V.heap[w.heap.size]? = some (.cells #[.slice ao key.length cap, .int .i64 side, .int .i64 cur, .int .i64 next, .int .u64 send, .int .u64 ceil, .int .i64 sec, .int .i64 nano] 27 (0, 0)) := (hb.block (w.heap.size) (by omega)).trans X0.out
  have x1 : V.heap[w.heap.size + 2]? = some (.cells #[.slice none 0 0, .int .i64 0, .int .i64 0, .int .i64 0, .int .u64 0, .int .u64 0, .int .i64 0, .int .i64 0] 27 (0, 0)) := (hb.block (w.heap.size + 2) (by omega)).trans X1.out
  have x2 : V.heap[w.heap.size + 1]? = some (.cells #[.int .i64 ss, .int .i64 sn] 25 (0, 0)) := (hb.block (w.heap.size + 1) (by omega)).trans X2.out
  have hzV := hb.size
  have hBV := hB.trans (hb.mono (by omega))
  have hlt0 : w.heap.size < V.heap.size := by omega
  have hlt1 : w.heap.size + 2 < V.heap.size := by omega
  have hlt2 : w.heap.size + 1 < V.heap.size := by omega
  clear hb hB X0 X1 X2
  clear a0 a1 a2 a3 a4 a5 a6 a7 af
  clear b0 b1 b2 b3 b4 b5 b6 b7 bf
  clear s0 s1 sf
  have a0 : V.cell? ⟨w.heap.size, 0, none⟩ = some (.slice ao key.length cap) := cell_of_row V (w.heap.size) 0 _ _ _ x0
  have a1 : V.cell? ⟨w.heap.size, 1, none⟩ = some (.int .i64 side) := cell_of_row V (w.heap.size) 1 _ _ _ x0
  have a2 : V.cell? ⟨w.heap.size, 2, none⟩ = some (.int .i64 cur) := cell_of_row V (w.heap.size) 2 _ _ _ x0
  have a3 : V.cell? ⟨w.heap.size, 3, none⟩ = some (.int .i64 next) := cell_of_row V (w.heap.size) 3 _ _ _ x0
  have a4 : V.cell? ⟨w.heap.size, 4, none⟩ = some (.int .u64 send) := cell_of_row V (w.heap.size) 4 _ _ _ x0
  have a5 : V.cell? ⟨w.heap.size, 5, none⟩ = some (.int .u64 ceil) := cell_of_row V (w.heap.size) 5 _ _ _ x0
  have a6 : V.cell? ⟨w.heap.size, 6, none⟩ = some (.int .i64 sec) := cell_of_row V (w.heap.size) 6 _ _ _ x0
  have a7 : V.cell? ⟨w.heap.size, 7, none⟩ = some (.int .i64 nano) := cell_of_row V (w.heap.size) 7 _ _ _ x0
  have af (i : Nat) : V.frozen? ⟨w.heap.size, i, none⟩ = false := frozen_of_row V (w.heap.size) i _ _ x0
  have b0 : V.cell? ⟨w.heap.size + 2, 0, none⟩ = some (.slice none 0 0) := cell_of_row V (w.heap.size + 2) 0 _ _ _ x1
  have b1 : V.cell? ⟨w.heap.size + 2, 1, none⟩ = some (.int .i64 0) := cell_of_row V (w.heap.size + 2) 1 _ _ _ x1
  have b2 : V.cell? ⟨w.heap.size + 2, 2, none⟩ = some (.int .i64 0) := cell_of_row V (w.heap.size + 2) 2 _ _ _ x1
  have b3 : V.cell? ⟨w.heap.size + 2, 3, none⟩ = some (.int .i64 0) := cell_of_row V (w.heap.size + 2) 3 _ _ _ x1
  have b4 : V.cell? ⟨w.heap.size + 2, 4, none⟩ = some (.int .u64 0) := cell_of_row V (w.heap.size + 2) 4 _ _ _ x1
  have b5 : V.cell? ⟨w.heap.size + 2, 5, none⟩ = some (.int .u64 0) := cell_of_row V (w.heap.size + 2) 5 _ _ _ x1
  have b6 : V.cell? ⟨w.heap.size + 2, 6, none⟩ = some (.int .i64 0) := cell_of_row V (w.heap.size + 2) 6 _ _ _ x1
  have b7 : V.cell? ⟨w.heap.size + 2, 7, none⟩ = some (.int .i64 0) := cell_of_row V (w.heap.size + 2) 7 _ _ _ x1
  have bf (i : Nat) : V.frozen? ⟨w.heap.size + 2, i, none⟩ = false := frozen_of_row V (w.heap.size + 2) i _ _ x1
  have s0 : V.cell? ⟨w.heap.size + 1, 0, none⟩ = some (.int .i64 ss) := cell_of_row V (w.heap.size + 1) 0 _ _ _ x2
  have s1 : V.cell? ⟨w.heap.size + 1, 1, none⟩ = some (.int .i64 sn) := cell_of_row V (w.heap.size + 1) 1 _ _ _ x2
  have sf (i : Nat) : V.frozen? ⟨w.heap.size + 1, i, none⟩ = false := frozen_of_row V (w.heap.size + 1) i _ _ x2
  clear x0 x1 x2
  go_wp2_with fail
  refine (refUp 0 b (by decide) (by decide) _).mono ?_
  rintro e V2 ⟨rfl, rfl⟩
  go_wp2_with fail
  refine (refUp c b hc0 hc1 _).mono ?_
  rintro e V2 ⟨rfl, rfl⟩
  go_wp2_with fail
  refine bodyPost_ret (v := .tuple #[.agg #[.slice ar key.length cr, .int .i64 side, .int .i64 g, .int .i64 next, .int .u64 (upF 0 b), .int .u64 (upF c b), .int .i64 ss, .int .i64 sn], .int .u64 0]) (by simp [results, Try.results35, go_sem, hlt1, b0, b1, b2, b3, b4, b5, b6, b7]) rfl ⟨_, _, rfl, ?_, ?_⟩
  · refine Mine.from (B := w.heap.size + 3) ?_ (by omega)
    refine Mine.below ?_ (fresh1 _ _)
    iterate 8 (refine Mine.setCell ?_ _ _ _ (by omega))
    exact Mine.from hm (by omega)
  · refine below_push ?_
    iterate 8 (refine Below.set ?_ _ _ _ (by omega))
    exact hBV
set_option maxHeartbeats 800000 in
theorem refAnswered (L : Ln) (ao : Option Addr) (cap : Nat) (g c ss sn b : Int) (hc0 : 0 ≤ c) (hc1 : c ≤ 18446744073709551615) (w : World) (hf : L.fits) (hr : Rd w ao L.key) :
   Calls Try.prog 35 #[L.val ao cap, .int .i64 g, .int .u64 c, .agg #[.int .i64 ss, .int .i64 sn], .int .i64 b] w fun e w' => ∃ ao' cap', e = .returned (.tuple #[(answeredL L g c ss sn b).val ao' cap', .int .u64 (atA L g c ss sn b)]) ∧ Mine w' w.heap.size 5 ao' cap' (answeredL L g c ss sn b).key ∧ Below w.heap.size w w' := by
  by_cases hok : L.ok = true
  · by_cases hbk : blkB b = true
    · by_cases hst : stampB ss sn = true
      · by_cases hls : lessB L.sec L.nano ss sn = true
        · by_cases h1 : L.cur < g
          · by_cases h2 : g ≤ 2147483647
            · by_cases h3 : c ≤ 18446744073709551614
              · by_cases hge : g ≤ L.next
                · exact refAnswered_y1 L ao cap g c ss sn b hc0 hc1 w hf hr hok hbk hst hls h1 h2 h3 hge
                · exact refAnswered_y0 L ao cap g c ss sn b hc0 hc1 w hf hr hok hbk hst hls h1 h2 h3 hge
              · exact refAnswered_n6 L ao cap g c ss sn b hc0 hc1 w hf hr hok hbk hst hls h1 h2 h3
            · exact refAnswered_n5 L ao cap g c ss sn b hc0 hc1 w hf hr hok hbk hst hls h1 h2
          · exact refAnswered_n4 L ao cap g c ss sn b hc0 hc1 w hf hr hok hbk hst hls h1
        · exact refAnswered_n3 L ao cap g c ss sn b hc0 hc1 w hf hr hok hbk hst (by simpa using hls)
      · exact refAnswered_n2 L ao cap g c ss sn b hc0 hc1 w hf hr hok hbk (by simpa using hst)
    · exact refAnswered_n1 L ao cap g c ss sn b hc0 hc1 w hf hr hok (by simpa using hbk)
  · exact refAnswered_n0 L ao cap g c ss sn b hc0 hc1 w hf hr  (by simpa using hok)
end Go.Proofs.Ytihndipgdogebaa
