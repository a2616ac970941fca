/- Contracts that stand in other chapters too. -/
import Derived.Test.YtjlhnepjpjlppaaGreatDoorZLa
namespace Go.Proofs.YtjlhnepjpjlppaaGreatDoor
open Go.RowKit
set_option maxRecDepth 100000
def lessB (a b c d : Int) : Bool := decide (a < c) || (a == c && decide (b < d))
theorem stampLess (a b c d : Int) (w : World) : Calls Tryz.prog 28 #[.agg #[.int .i64 a, .int .i64 b], .agg #[.int .i64 c, .int .i64 d]] w fun e w' => e = .returned (.bool (lessB a b c d)) ∧ Below w.heap.size w w' := by
  by_cases h : a < c
  · have hb : lessB a b c d = true := by simp [lessB, h]
    rw [hb]
    go_enter Tryz.func28, Tryz.ntmps28
    go_wp2
    go_ret
    exact ⟨rfl, fresh2 _ _ _⟩
  · by_cases h2 : a = c
    · subst h2
      have hb : lessB a b a d = decide (b < d) := by simp [lessB]
      rw [hb]
      go_enter Tryz.func28, Tryz.ntmps28
      go_wp2
      go_ret
      exact ⟨rfl, fresh2 _ _ _⟩
    · have hb : lessB a b c d = false := by simp [lessB, h, h2]
      rw [hb]
      have h3 : (a == c) = false := beq_eq_false_iff_ne.2 h2
      clear h2
      go_enter Tryz.func28, Tryz.ntmps28
      go_wp2
      go_ret
      exact ⟨rfl, fresh2 _ _ _⟩
def mayA (L : Ln) (g c ss sn b : Int) : Bool := L.ok && (blkB b && (decide (L.cur < g) && (decide (g ≤ 2147483647) && (decide (c ≤ 18446744073709551614) && (stampB ss sn && lessB L.sec L.nano ss sn)))))
def atA (L : Ln) (g c ss sn b : Int) : Int := if mayA L g c ss sn b = true then (if g ≤ L.next then 1 else 0) else 0
def answeredL (L : Ln) (g c ss sn b : Int) : Ln := if mayA L g c ss sn b = true then L.keep g L.next (upF (atA L g c ss sn b) b) (upF c b) ss sn else Ln.zero
set_option maxHeartbeats 4000000 in
theorem laneAnswered_n0 (L : Ln) (ao : Option Addr) (cap : Nat) (g c ss sn b : Int) (_hc0 : 0 ≤ c) (_hc1 : c ≤ 18446744073709551615) (_hss : ss ≤ 9223372036854775807) (w : World) (hf : L.fits) (hr : Rd w ao L.key) (hok : L.ok = false) :
   Calls Tryz.prog 8 #[L.val ao cap, .int .i64 g, .int .u64 c, .agg #[.int .i64 ss, .int .i64 sn], .int .i64 b] w fun e w' => ∃ ao' cap', e = .returned (.tuple #[(answeredL L g c ss sn b).val ao' cap', .int .u64 (atA L g c ss sn b)]) ∧ Mine w' w.heap.size 5 ao' cap' (answeredL L g c ss sn b).key ∧ Below w.heap.size w w' := by
  obtain ⟨hl, hcur0, hcur1, hnext0, hnext1, hsend0, hsend1, hceil0, hceil1, hs⟩ := hf
  obtain ⟨key, side, cur, next, send, ceil, sec, nano⟩ := L
  unfold Ln.val
  simp only at hl hcur0 hcur1 hnext0 hnext1 hsend0 hsend1 hceil0 hceil1 hs hr hok ⊢
  have hma : mayA ⟨key, side, cur, next, send, ceil, sec, nano⟩ g c ss sn b = false := by simp [mayA, hok]
  have hy : answeredL ⟨key, side, cur, next, send, ceil, sec, nano⟩ g c ss sn b = Ln.zero := by simp [answeredL, hma]
  have ha : atA ⟨key, side, cur, next, send, ceil, sec, nano⟩ g c ss sn b = 0 := by simp [atA, hma]
  rw [hy, ha]
  unfold Ln.zero
  have HOK := Lib.hid hok
  clear hok hy ha hma
  go_enter Tryz.func8, Tryz.ntmps8
  go_wp2_with fail
  refine (laneValid ⟨key, side, cur, next, send, ceil, sec, nano⟩ ao cap hs _).mono ?_
  rintro e w1 ⟨rfl, hb⟩
  rw [HOK.out]
  have hz := hb.size
  simp only [alloc_size] at hz
  have hB := (((((((Below.refl _ w).alloc (Nat.le_refl _) _).alloc (by simp only [alloc_size]; omega) _).alloc (by simp only [alloc_size]; omega) _).alloc (by simp only [alloc_size]; omega) _).alloc (by simp only [alloc_size]; omega) _).alloc (by simp only [alloc_size]; omega) _).trans (hb.mono (by simp only [alloc_size]; omega))
  have x0 : w1.heap[w.heap.size]? = some (.cells #[.slice ao key.length cap, .int .i64 side, .int .i64 cur, .int .i64 next, .int .u64 send, .int .u64 ceil, .int .i64 sec, .int .i64 nano] 27 (0, 0)) := (hb_block hb (w.heap.size) (by simp only [alloc_size]; omega)).trans (by simp only [alloc_get, alloc_size]; repeat first | rw [if_pos trivial] | rw [if_neg (by omega)] | rw [if_pos (by omega)])
  have x1 : w1.heap[w.heap.size + 1]? = some (.cells #[.int .i64 g] 3 (0, 0)) := (hb_block hb (w.heap.size + 1) (by simp only [alloc_size]; omega)).trans (by simp only [alloc_get, alloc_size]; repeat first | rw [if_pos trivial] | rw [if_neg (by omega)] | rw [if_pos (by omega)])
  have x2 : w1.heap[w.heap.size + 2]? = some (.cells #[.int .u64 c] 23 (0, 0)) := (hb_block hb (w.heap.size + 2) (by simp only [alloc_size]; omega)).trans (by simp only [alloc_get, alloc_size]; repeat first | rw [if_pos trivial] | rw [if_neg (by omega)] | rw [if_pos (by omega)])
  have x3 : w1.heap[w.heap.size + 3]? = some (.cells #[.int .i64 ss, .int .i64 sn] 25 (0, 0)) := (hb_block hb (w.heap.size + 3) (by simp only [alloc_size]; omega)).trans (by simp only [alloc_get, alloc_size]; repeat first | rw [if_pos trivial] | rw [if_neg (by omega)] | rw [if_pos (by omega)])
  have x4 : w1.heap[w.heap.size + 4]? = some (.cells #[.int .i64 b] 3 (0, 0)) := (hb_block hb (w.heap.size + 4) (by simp only [alloc_size]; omega)).trans (by simp only [alloc_get, alloc_size]; repeat first | rw [if_pos trivial] | rw [if_neg (by omega)] | rw [if_pos (by omega)])
  have x5 : w1.heap[w.heap.size + 5]? = some (.cells #[.slice none 0 0, .int .i64 0, .int .i64 0, .int .i64 0, .int .u64 0, .int .u64 0, .int .i64 0, .int .i64 0] 27 (0, 0)) := (hb_block hb (w.heap.size + 5) (by simp only [alloc_size]; omega)).trans (by simp only [alloc_get, alloc_size]; repeat first | rw [if_pos trivial] | rw [if_neg (by omega)] | rw [if_pos (by omega)])
  clear hb
  have q0_0 : w1.cell? ⟨w.heap.size, 0, none⟩ = some (.slice ao key.length cap) := cell_of_row w1 (w.heap.size) 0 _ _ _ x0
  have q0_1 : w1.cell? ⟨w.heap.size, 1, none⟩ = some (.int .i64 side) := cell_of_row w1 (w.heap.size) 1 _ _ _ x0
  have q0_2 : w1.cell? ⟨w.heap.size, 2, none⟩ = some (.int .i64 cur) := cell_of_row w1 (w.heap.size) 2 _ _ _ x0
  have q0_3 : w1.cell? ⟨w.heap.size, 3, none⟩ = some (.int .i64 next) := cell_of_row w1 (w.heap.size) 3 _ _ _ x0
  have q0_4 : w1.cell? ⟨w.heap.size, 4, none⟩ = some (.int .u64 send) := cell_of_row w1 (w.heap.size) 4 _ _ _ x0
  have q0_5 : w1.cell? ⟨w.heap.size, 5, none⟩ = some (.int .u64 ceil) := cell_of_row w1 (w.heap.size) 5 _ _ _ x0
  have q0_6 : w1.cell? ⟨w.heap.size, 6, none⟩ = some (.int .i64 sec) := cell_of_row w1 (w.heap.size) 6 _ _ _ x0
  have q0_7 : w1.cell? ⟨w.heap.size, 7, none⟩ = some (.int .i64 nano) := cell_of_row w1 (w.heap.size) 7 _ _ _ x0
  have q0_f (i : Nat) : w1.frozen? ⟨w.heap.size, i, none⟩ = false := frozen_of_row w1 (w.heap.size) i _ _ x0
  have q1_0 : w1.cell? ⟨w.heap.size + 1, 0, none⟩ = some (.int .i64 g) := cell_of_row w1 (w.heap.size + 1) 0 _ _ _ x1
  have q1_f (i : Nat) : w1.frozen? ⟨w.heap.size + 1, i, none⟩ = false := frozen_of_row w1 (w.heap.size + 1) i _ _ x1
  have q2_0 : w1.cell? ⟨w.heap.size + 2, 0, none⟩ = some (.int .u64 c) := cell_of_row w1 (w.heap.size + 2) 0 _ _ _ x2
  have q2_f (i : Nat) : w1.frozen? ⟨w.heap.size + 2, i, none⟩ = false := frozen_of_row w1 (w.heap.size + 2) i _ _ x2
  have q3_0 : w1.cell? ⟨w.heap.size + 3, 0, none⟩ = some (.int .i64 ss) := cell_of_row w1 (w.heap.size + 3) 0 _ _ _ x3
  have q3_1 : w1.cell? ⟨w.heap.size + 3, 1, none⟩ = some (.int .i64 sn) := cell_of_row w1 (w.heap.size + 3) 1 _ _ _ x3
  have q3_f (i : Nat) : w1.frozen? ⟨w.heap.size + 3, i, none⟩ = false := frozen_of_row w1 (w.heap.size + 3) i _ _ x3
  have q4_0 : w1.cell? ⟨w.heap.size + 4, 0, none⟩ = some (.int .i64 b) := cell_of_row w1 (w.heap.size + 4) 0 _ _ _ x4
  have q4_f (i : Nat) : w1.frozen? ⟨w.heap.size + 4, i, none⟩ = false := frozen_of_row w1 (w.heap.size + 4) i _ _ x4
  have HX := Lib.hid (show w1.heap[w.heap.size + 5]? = some (.cells #[.slice none 0 0, .int .i64 0, .int .i64 0, .int .i64 0, .int .u64 0, .int .u64 0, .int .i64 0, .int .i64 0] 27 (0, 0)) from x5)
  have X0 := Lib.hid x0
  have X1 := Lib.hid x1
  have X2 := Lib.hid x2
  have X3 := Lib.hid x3
  have X4 := Lib.hid x4
  have X5 := Lib.hid x5
  clear x0 x1 x2 x3 x4 x5
  go_wp2_with fail
  generalize hW : w1.alloc (Obj.cells #[.int .u64 0] 23 (0, 0)) = U
  have hzW : w.heap.size + 6 ≤ w1.heap.size := by omega
  have hB2 := hB.alloc (B := w.heap.size) (by omega) (Obj.cells #[.int .u64 0] 23 (0, 0))
  rw [hW] at hB2
  have hWs : U.drew.heap.size = w1.heap.size + 1 := by rw [← hW]; exact alloc_size _ _
  have xa : U.heap[w1.heap.size]? = some (.cells #[.int .u64 0] 23 (0, 0)) := by rw [← hW]; exact heap_alloc_new _ _
  clear q0_0 q0_1 q0_2 q0_3 q0_4 q0_5 q0_6 q0_7 q0_f
  clear q1_0 q1_f
  clear q2_0 q2_f
  clear q3_0 q3_1 q3_f
  clear q4_0 q4_f
  have x0 := X0.out
  clear X0
  have x1 := X1.out
  clear X1
  have x2 := X2.out
  clear X2
  have x3 := X3.out
  clear X3
  have x4 := X4.out
  clear X4
  have x5 := X5.out
  clear X5
  have x0 : U.heap[w.heap.size]? = some (.cells #[.slice ao key.length cap, .int .i64 side, .int .i64 cur, .int .i64 next, .int .u64 send, .int .u64 ceil, .int .i64 sec, .int .i64 nano] 27 (0, 0)) := by rw [← hW]; exact (alloc_old _ _ _ (by omega)).trans x0
  have x1 : U.heap[w.heap.size + 1]? = some (.cells #[.int .i64 g] 3 (0, 0)) := by rw [← hW]; exact (alloc_old _ _ _ (by omega)).trans x1
  have x2 : U.heap[w.heap.size + 2]? = some (.cells #[.int .u64 c] 23 (0, 0)) := by rw [← hW]; exact (alloc_old _ _ _ (by omega)).trans x2
  have x3 : U.heap[w.heap.size + 3]? = some (.cells #[.int .i64 ss, .int .i64 sn] 25 (0, 0)) := by rw [← hW]; exact (alloc_old _ _ _ (by omega)).trans x3
  have x4 : U.heap[w.heap.size + 4]? = some (.cells #[.int .i64 b] 3 (0, 0)) := by rw [← hW]; exact (alloc_old _ _ _ (by omega)).trans x4
  have x5 : U.heap[w.heap.size + 5]? = some (.cells #[.slice none 0 0, .int .i64 0, .int .i64 0, .int .i64 0, .int .u64 0, .int .u64 0, .int .i64 0, .int .i64 0] 27 (0, 0)) := by rw [← hW]; exact (alloc_old _ _ _ (by omega)).trans x5
  have c0 : U.cell? ⟨w1.heap.size, 0, none⟩ = some (.int .u64 0) := cell_of_row U (w1.heap.size) 0 _ _ _ xa
  have r0_0 : U.cell? ⟨w.heap.size, 0, none⟩ = some (.slice ao key.length cap) := cell_of_row U (w.heap.size) 0 _ _ _ x0
  have r0_1 : U.cell? ⟨w.heap.size, 1, none⟩ = some (.int .i64 side) := cell_of_row U (w.heap.size) 1 _ _ _ x0
  have r0_2 : U.cell? ⟨w.heap.size, 2, none⟩ = some (.int .i64 cur) := cell_of_row U (w.heap.size) 2 _ _ _ x0
  have r0_3 : U.cell? ⟨w.heap.size, 3, none⟩ = some (.int .i64 next) := cell_of_row U (w.heap.size) 3 _ _ _ x0
  have r0_4 : U.cell? ⟨w.heap.size, 4, none⟩ = some (.int .u64 send) := cell_of_row U (w.heap.size) 4 _ _ _ x0
  have r0_5 : U.cell? ⟨w.heap.size, 5, none⟩ = some (.int .u64 ceil) := cell_of_row U (w.heap.size) 5 _ _ _ x0
  have r0_6 : U.cell? ⟨w.heap.size, 6, none⟩ = some (.int .i64 sec) := cell_of_row U (w.heap.size) 6 _ _ _ x0
  have r0_7 : U.cell? ⟨w.heap.size, 7, none⟩ = some (.int .i64 nano) := cell_of_row U (w.heap.size) 7 _ _ _ x0
  have r0_f (i : Nat) : U.frozen? ⟨w.heap.size, i, none⟩ = false := frozen_of_row U (w.heap.size) i _ _ x0
  have r1_0 : U.cell? ⟨w.heap.size + 1, 0, none⟩ = some (.int .i64 g) := cell_of_row U (w.heap.size + 1) 0 _ _ _ x1
  have r1_f (i : Nat) : U.frozen? ⟨w.heap.size + 1, i, none⟩ = false := frozen_of_row U (w.heap.size + 1) i _ _ x1
  have r2_0 : U.cell? ⟨w.heap.size + 2, 0, none⟩ = some (.int .u64 c) := cell_of_row U (w.heap.size + 2) 0 _ _ _ x2
  have r2_f (i : Nat) : U.frozen? ⟨w.heap.size + 2, i, none⟩ = false := frozen_of_row U (w.heap.size + 2) i _ _ x2
  have r3_0 : U.cell? ⟨w.heap.size + 3, 0, none⟩ = some (.int .i64 ss) := cell_of_row U (w.heap.size + 3) 0 _ _ _ x3
  have r3_1 : U.cell? ⟨w.heap.size + 3, 1, none⟩ = some (.int .i64 sn) := cell_of_row U (w.heap.size + 3) 1 _ _ _ x3
  have r3_f (i : Nat) : U.frozen? ⟨w.heap.size + 3, i, none⟩ = false := frozen_of_row U (w.heap.size + 3) i _ _ x3
  have r4_0 : U.cell? ⟨w.heap.size + 4, 0, none⟩ = some (.int .i64 b) := cell_of_row U (w.heap.size + 4) 0 _ _ _ x4
  have r4_f (i : Nat) : U.frozen? ⟨w.heap.size + 4, i, none⟩ = false := frozen_of_row U (w.heap.size + 4) i _ _ x4
  have hrW : Rd U.drew ao key := (hr.on hB2 : Rd U ao key)
  have hn1 : w1.heap.size ≠ w.heap.size + 5 := by omega
  have hn2 : w.heap.size ≠ w.heap.size + 5 := by omega
  have X5 := Lib.hid x5
  clear x0 x1 x2 x3 x4 x5 xa hW hB
  go_region_held3 (fun w' => w'.cell? ⟨w1.heap.size, 0, none⟩ = some (.int .u64 0) ∧ w'.cell? ⟨w.heap.size, 0, none⟩ = some (.slice ao key.length cap) ∧ w'.cell? ⟨w.heap.size, 1, none⟩ = some (.int .i64 side) ∧ w'.cell? ⟨w.heap.size, 2, none⟩ = some (.int .i64 cur) ∧ w'.cell? ⟨w.heap.size, 3, none⟩ = some (.int .i64 next) ∧ w'.cell? ⟨w.heap.size, 4, none⟩ = some (.int .u64 send) ∧ w'.cell? ⟨w.heap.size, 5, none⟩ = some (.int .u64 ceil) ∧ w'.cell? ⟨w.heap.size, 6, none⟩ = some (.int .i64 sec) ∧ w'.cell? ⟨w.heap.size, 7, none⟩ = some (.int .i64 nano)) (((try simp only [cell_drew, cell_far _ _ _ _ _ _ hn1, cell_far _ _ _ _ _ _ hn2]); (refine ⟨?_, ?_, ?_, ?_, ?_, ?_, ?_, ?_, ?_⟩ <;> with_reducible assumption))) ((go_at_call 23; refine (laneChanged0 ⟨key, side, cur, next, send, ceil, sec, nano⟩ ao cap false _ U.drew hs (by simp)).mono ?_; rintro e V ⟨he, hb2⟩; obtain rfl : e = .returned (.agg #[.slice none 0 0, .int .i64 0, .int .i64 0, .int .i64 0, .int .u64 0, .int .u64 0, .int .i64 0, .int .i64 0]) := he; have dc0 : V.cell? ⟨w1.heap.size, 0, none⟩ = some (.int .u64 0) := (hb2.cell (by rw [hWs]; show w1.heap.size < _; omega)).trans c0; have dr0_0 : V.cell? ⟨w.heap.size, 0, none⟩ = some (.slice ao key.length cap) := (hb2.cell (by rw [hWs]; show w.heap.size < _; omega)).trans r0_0; have dr0_1 : V.cell? ⟨w.heap.size, 1, none⟩ = some (.int .i64 side) := (hb2.cell (by rw [hWs]; show w.heap.size < _; omega)).trans r0_1; have dr0_2 : V.cell? ⟨w.heap.size, 2, none⟩ = some (.int .i64 cur) := (hb2.cell (by rw [hWs]; show w.heap.size < _; omega)).trans r0_2; have dr0_3 : V.cell? ⟨w.heap.size, 3, none⟩ = some (.int .i64 next) := (hb2.cell (by rw [hWs]; show w.heap.size < _; omega)).trans r0_3; have dr0_4 : V.cell? ⟨w.heap.size, 4, none⟩ = some (.int .u64 send) := (hb2.cell (by rw [hWs]; show w.heap.size < _; omega)).trans r0_4; have dr0_5 : V.cell? ⟨w.heap.size, 5, none⟩ = some (.int .u64 ceil) := (hb2.cell (by rw [hWs]; show w.heap.size < _; omega)).trans r0_5; have dr0_6 : V.cell? ⟨w.heap.size, 6, none⟩ = some (.int .i64 sec) := (hb2.cell (by rw [hWs]; show w.heap.size < _; omega)).trans r0_6; have dr0_7 : V.cell? ⟨w.heap.size, 7, none⟩ = some (.int .i64 nano) := (hb2.cell (by rw [hWs]; show w.heap.size < _; omega)).trans r0_7; have y : V.heap[w.heap.size + 5]? = some (.cells #[.slice none 0 0, .int .i64 0, .int .i64 0, .int .i64 0, .int .u64 0, .int .u64 0, .int .i64 0, .int .i64 0] 27 (0, 0)) := (hb2.block (w.heap.size + 5) (by rw [hWs]; omega)).trans X5.out; have b0 : V.cell? ⟨w.heap.size + 5, 0, none⟩ = some (.slice none 0 0) := cell_of_row V (w.heap.size + 5) 0 _ _ _ y; have b1 : V.cell? ⟨w.heap.size + 5, 1, none⟩ = some (.int .i64 0) := cell_of_row V (w.heap.size + 5) 1 _ _ _ y; have b2 : V.cell? ⟨w.heap.size + 5, 2, none⟩ = some (.int .i64 0) := cell_of_row V (w.heap.size + 5) 2 _ _ _ y; have b3 : V.cell? ⟨w.heap.size + 5, 3, none⟩ = some (.int .i64 0) := cell_of_row V (w.heap.size + 5) 3 _ _ _ y; have b4 : V.cell? ⟨w.heap.size + 5, 4, none⟩ = some (.int .u64 0) := cell_of_row V (w.heap.size + 5) 4 _ _ _ y; have b5 : V.cell? ⟨w.heap.size + 5, 5, none⟩ = some (.int .u64 0) := cell_of_row V (w.heap.size + 5) 5 _ _ _ y; have b6 : V.cell? ⟨w.heap.size + 5, 6, none⟩ = some (.int .i64 0) := cell_of_row V (w.heap.size + 5) 6 _ _ _ y; have b7 : V.cell? ⟨w.heap.size + 5, 7, none⟩ = some (.int .i64 0) := cell_of_row V (w.heap.size + 5) 7 _ _ _ y; have bf (i : Nat) : V.frozen? ⟨w.heap.size + 5, i, none⟩ = false := frozen_of_row V (w.heap.size + 5) i _ _ y; clear y))
  go_wp2_with fail
  refine bodyPost_ret (v := .tuple #[.agg #[.slice none 0 0, .int .i64 0, .int .i64 0, .int .i64 0, .int .u64 0, .int .u64 0, .int .i64 0, .int .i64 0], .int .u64 0]) (by simp [results, Tryz.results8, go_sem, b0, b1, b2, b3, b4, b5, b6, b7]) rfl ⟨_, _, rfl, ?_, ?_⟩
  · exact Or.inl ⟨rfl, rfl, rfl⟩
  · iterate 8 (refine Below.set ?_ _ _ _ (by omega))
    exact hB2.drew.trans (hb2.mono (by rw [hWs]; omega))
set_option maxHeartbeats 4000000 in
theorem laneAnswered_n1 (L : Ln) (ao : Option Addr) (cap : Nat) (g c ss sn b : Int) (_hc0 : 0 ≤ c) (_hc1 : c ≤ 18446744073709551615) (_hss : ss ≤ 9223372036854775807) (w : World) (hf : L.fits) (hr : Rd w ao L.key) (hok : L.ok = true) (hbk : blkB b = false) :
   Calls Tryz.prog 8 #[L.val ao cap, .int .i64 g, .int .u64 c, .agg #[.int .i64 ss, .int .i64 sn], .int .i64 b] w fun e w' => ∃ ao' cap', e = .returned (.tuple #[(answeredL L g c ss sn b).val ao' cap', .int .u64 (atA L g c ss sn b)]) ∧ Mine w' w.heap.size 5 ao' cap' (answeredL L g c ss sn b).key ∧ Below w.heap.size w w' := by
  obtain ⟨hl, hcur0, hcur1, hnext0, hnext1, hsend0, hsend1, hceil0, hceil1, hs⟩ := hf
  obtain ⟨key, side, cur, next, send, ceil, sec, nano⟩ := L
  unfold Ln.val
  simp only at hl hcur0 hcur1 hnext0 hnext1 hsend0 hsend1 hceil0 hceil1 hs hr hok ⊢
  have hma : mayA ⟨key, side, cur, next, send, ceil, sec, nano⟩ g c ss sn b = false := by simp [mayA, hok, hbk]
  have hy : answeredL ⟨key, side, cur, next, send, ceil, sec, nano⟩ g c ss sn b = Ln.zero := by simp [answeredL, hma]
  have ha : atA ⟨key, side, cur, next, send, ceil, sec, nano⟩ g c ss sn b = 0 := by simp [atA, hma]
  rw [hy, ha]
  unfold Ln.zero
  have HOK := Lib.hid hok
  have HBK := Lib.hid hbk
  clear hok hy ha hma hbk
  go_enter Tryz.func8, Tryz.ntmps8
  go_wp2_with fail
  refine (laneValid ⟨key, side, cur, next, send, ceil, sec, nano⟩ ao cap hs _).mono ?_
  rintro e w1 ⟨rfl, hb⟩
  rw [HOK.out]
  have hz := hb.size
  simp only [alloc_size] at hz
  have hB := (((((((Below.refl _ w).alloc (Nat.le_refl _) _).alloc (by simp only [alloc_size]; omega) _).alloc (by simp only [alloc_size]; omega) _).alloc (by simp only [alloc_size]; omega) _).alloc (by simp only [alloc_size]; omega) _).alloc (by simp only [alloc_size]; omega) _).trans (hb.mono (by simp only [alloc_size]; omega))
  have x0 : w1.heap[w.heap.size]? = some (.cells #[.slice ao key.length cap, .int .i64 side, .int .i64 cur, .int .i64 next, .int .u64 send, .int .u64 ceil, .int .i64 sec, .int .i64 nano] 27 (0, 0)) := (hb_block hb (w.heap.size) (by simp only [alloc_size]; omega)).trans (by simp only [alloc_get, alloc_size]; repeat first | rw [if_pos trivial] | rw [if_neg (by omega)] | rw [if_pos (by omega)])
  have x1 : w1.heap[w.heap.size + 1]? = some (.cells #[.int .i64 g] 3 (0, 0)) := (hb_block hb (w.heap.size + 1) (by simp only [alloc_size]; omega)).trans (by simp only [alloc_get, alloc_size]; repeat first | rw [if_pos trivial] | rw [if_neg (by omega)] | rw [if_pos (by omega)])
  have x2 : w1.heap[w.heap.size + 2]? = some (.cells #[.int .u64 c] 23 (0, 0)) := (hb_block hb (w.heap.size + 2) (by simp only [alloc_size]; omega)).trans (by simp only [alloc_get, alloc_size]; repeat first | rw [if_pos trivial] | rw [if_neg (by omega)] | rw [if_pos (by omega)])
  have x3 : w1.heap[w.heap.size + 3]? = some (.cells #[.int .i64 ss, .int .i64 sn] 25 (0, 0)) := (hb_block hb (w.heap.size + 3) (by simp only [alloc_size]; omega)).trans (by simp only [alloc_get, alloc_size]; repeat first | rw [if_pos trivial] | rw [if_neg (by omega)] | rw [if_pos (by omega)])
  have x4 : w1.heap[w.heap.size + 4]? = some (.cells #[.int .i64 b] 3 (0, 0)) := (hb_block hb (w.heap.size + 4) (by simp only [alloc_size]; omega)).trans (by simp only [alloc_get, alloc_size]; repeat first | rw [if_pos trivial] | rw [if_neg (by omega)] | rw [if_pos (by omega)])
  have x5 : w1.heap[w.heap.size + 5]? = some (.cells #[.slice none 0 0, .int .i64 0, .int .i64 0, .int .i64 0, .int .u64 0, .int .u64 0, .int .i64 0, .int .i64 0] 27 (0, 0)) := (hb_block hb (w.heap.size + 5) (by simp only [alloc_size]; omega)).trans (by simp only [alloc_get, alloc_size]; repeat first | rw [if_pos trivial] | rw [if_neg (by omega)] | rw [if_pos (by omega)])
  clear hb
  have q0_0 : w1.cell? ⟨w.heap.size, 0, none⟩ = some (.slice ao key.length cap) := cell_of_row w1 (w.heap.size) 0 _ _ _ x0
  have q0_1 : w1.cell? ⟨w.heap.size, 1, none⟩ = some (.int .i64 side) := cell_of_row w1 (w.heap.size) 1 _ _ _ x0
  have q0_2 : w1.cell? ⟨w.heap.size, 2, none⟩ = some (.int .i64 cur) := cell_of_row w1 (w.heap.size) 2 _ _ _ x0
  have q0_3 : w1.cell? ⟨w.heap.size, 3, none⟩ = some (.int .i64 next) := cell_of_row w1 (w.heap.size) 3 _ _ _ x0
  have q0_4 : w1.cell? ⟨w.heap.size, 4, none⟩ = some (.int .u64 send) := cell_of_row w1 (w.heap.size) 4 _ _ _ x0
  have q0_5 : w1.cell? ⟨w.heap.size, 5, none⟩ = some (.int .u64 ceil) := cell_of_row w1 (w.heap.size) 5 _ _ _ x0
  have q0_6 : w1.cell? ⟨w.heap.size, 6, none⟩ = some (.int .i64 sec) := cell_of_row w1 (w.heap.size) 6 _ _ _ x0
  have q0_7 : w1.cell? ⟨w.heap.size, 7, none⟩ = some (.int .i64 nano) := cell_of_row w1 (w.heap.size) 7 _ _ _ x0
  have q0_f (i : Nat) : w1.frozen? ⟨w.heap.size, i, none⟩ = false := frozen_of_row w1 (w.heap.size) i _ _ x0
  have q1_0 : w1.cell? ⟨w.heap.size + 1, 0, none⟩ = some (.int .i64 g) := cell_of_row w1 (w.heap.size + 1) 0 _ _ _ x1
  have q1_f (i : Nat) : w1.frozen? ⟨w.heap.size + 1, i, none⟩ = false := frozen_of_row w1 (w.heap.size + 1) i _ _ x1
  have q2_0 : w1.cell? ⟨w.heap.size + 2, 0, none⟩ = some (.int .u64 c) := cell_of_row w1 (w.heap.size + 2) 0 _ _ _ x2
  have q2_f (i : Nat) : w1.frozen? ⟨w.heap.size + 2, i, none⟩ = false := frozen_of_row w1 (w.heap.size + 2) i _ _ x2
  have q3_0 : w1.cell? ⟨w.heap.size + 3, 0, none⟩ = some (.int .i64 ss) := cell_of_row w1 (w.heap.size + 3) 0 _ _ _ x3
  have q3_1 : w1.cell? ⟨w.heap.size + 3, 1, none⟩ = some (.int .i64 sn) := cell_of_row w1 (w.heap.size + 3) 1 _ _ _ x3
  have q3_f (i : Nat) : w1.frozen? ⟨w.heap.size + 3, i, none⟩ = false := frozen_of_row w1 (w.heap.size + 3) i _ _ x3
  have q4_0 : w1.cell? ⟨w.heap.size + 4, 0, none⟩ = some (.int .i64 b) := cell_of_row w1 (w.heap.size + 4) 0 _ _ _ x4
  have q4_f (i : Nat) : w1.frozen? ⟨w.heap.size + 4, i, none⟩ = false := frozen_of_row w1 (w.heap.size + 4) i _ _ x4
  have HX := Lib.hid (show w1.heap[w.heap.size + 5]? = some (.cells #[.slice none 0 0, .int .i64 0, .int .i64 0, .int .i64 0, .int .u64 0, .int .u64 0, .int .i64 0, .int .i64 0] 27 (0, 0)) from x5)
  have X0 := Lib.hid x0
  have X1 := Lib.hid x1
  have X2 := Lib.hid x2
  have X3 := Lib.hid x3
  have X4 := Lib.hid x4
  have X5 := Lib.hid x5
  clear x0 x1 x2 x3 x4 x5
  go_wp2_with fail
  refine (laneBlock b _).mono ?_
  rintro e w2 ⟨rfl, hw⟩
  obtain rfl := hw.symm
  rw [HBK.out]
  go_wp2_with fail
  generalize hW : w1.alloc (Obj.cells #[.int .u64 0] 23 (0, 0)) = U
  have hzW : w.heap.size + 6 ≤ w1.heap.size := by omega
  have hB2 := hB.alloc (B := w.heap.size) (by omega) (Obj.cells #[.int .u64 0] 23 (0, 0))
  rw [hW] at hB2
  have hWs : U.drew.heap.size = w1.heap.size + 1 := by rw [← hW]; exact alloc_size _ _
  have xa : U.heap[w1.heap.size]? = some (.cells #[.int .u64 0] 23 (0, 0)) := by rw [← hW]; exact heap_alloc_new _ _
  clear q0_0 q0_1 q0_2 q0_3 q0_4 q0_5 q0_6 q0_7 q0_f
  clear q1_0 q1_f
  clear q2_0 q2_f
  clear q3_0 q3_1 q3_f
  clear q4_0 q4_f
  have x0 := X0.out
  clear X0
  have x1 := X1.out
  clear X1
  have x2 := X2.out
  clear X2
  have x3 := X3.out
  clear X3
  have x4 := X4.out
  clear X4
  have x5 := X5.out
  clear X5
  have x0 : U.heap[w.heap.size]? = some (.cells #[.slice ao key.length cap, .int .i64 side, .int .i64 cur, .int .i64 next, .int .u64 send, .int .u64 ceil, .int .i64 sec, .int .i64 nano] 27 (0, 0)) := by rw [← hW]; exact (alloc_old _ _ _ (by omega)).trans x0
  have x1 : U.heap[w.heap.size + 1]? = some (.cells #[.int .i64 g] 3 (0, 0)) := by rw [← hW]; exact (alloc_old _ _ _ (by omega)).trans x1
  have x2 : U.heap[w.heap.size + 2]? = some (.cells #[.int .u64 c] 23 (0, 0)) := by rw [← hW]; exact (alloc_old _ _ _ (by omega)).trans x2
  have x3 : U.heap[w.heap.size + 3]? = some (.cells #[.int .i64 ss, .int .i64 sn] 25 (0, 0)) := by rw [← hW]; exact (alloc_old _ _ _ (by omega)).trans x3
  have x4 : U.heap[w.heap.size + 4]? = some (.cells #[.int .i64 b] 3 (0, 0)) := by rw [← hW]; exact (alloc_old _ _ _ (by omega)).trans x4
  have x5 : U.heap[w.heap.size + 5]? = some (.cells #[.slice none 0 0, .int .i64 0, .int .i64 0, .int .i64 0, .int .u64 0, .int .u64 0, .int .i64 0, .int .i64 0] 27 (0, 0)) := by rw [← hW]; exact (alloc_old _ _ _ (by omega)).trans x5
  have c0 : U.cell? ⟨w1.heap.size, 0, none⟩ = some (.int .u64 0) := cell_of_row U (w1.heap.size) 0 _ _ _ xa
  have r0_0 : U.cell? ⟨w.heap.size, 0, none⟩ = some (.slice ao key.length cap) := cell_of_row U (w.heap.size) 0 _ _ _ x0
  have r0_1 : U.cell? ⟨w.heap.size, 1, none⟩ = some (.int .i64 side) := cell_of_row U (w.heap.size) 1 _ _ _ x0
  have r0_2 : U.cell? ⟨w.heap.size, 2, none⟩ = some (.int .i64 cur) := cell_of_row U (w.heap.size) 2 _ _ _ x0
  have r0_3 : U.cell? ⟨w.heap.size, 3, none⟩ = some (.int .i64 next) := cell_of_row U (w.heap.size) 3 _ _ _ x0
  have r0_4 : U.cell? ⟨w.heap.size, 4, none⟩ = some (.int .u64 send) := cell_of_row U (w.heap.size) 4 _ _ _ x0
  have r0_5 : U.cell? ⟨w.heap.size, 5, none⟩ = some (.int .u64 ceil) := cell_of_row U (w.heap.size) 5 _ _ _ x0
  have r0_6 : U.cell? ⟨w.heap.size, 6, none⟩ = some (.int .i64 sec) := cell_of_row U (w.heap.size) 6 _ _ _ x0
  have r0_7 : U.cell? ⟨w.heap.size, 7, none⟩ = some (.int .i64 nano) := cell_of_row U (w.heap.size) 7 _ _ _ x0
  have r0_f (i : Nat) : U.frozen? ⟨w.heap.size, i, none⟩ = false := frozen_of_row U (w.heap.size) i _ _ x0
  have r1_0 : U.cell? ⟨w.heap.size + 1, 0, none⟩ = some (.int .i64 g) := cell_of_row U (w.heap.size + 1) 0 _ _ _ x1
  have r1_f (i : Nat) : U.frozen? ⟨w.heap.size + 1, i, none⟩ = false := frozen_of_row U (w.heap.size + 1) i _ _ x1
  have r2_0 : U.cell? ⟨w.heap.size + 2, 0, none⟩ = some (.int .u64 c) := cell_of_row U (w.heap.size + 2) 0 _ _ _ x2
  have r2_f (i : Nat) : U.frozen? ⟨w.heap.size + 2, i, none⟩ = false := frozen_of_row U (w.heap.size + 2) i _ _ x2
  have r3_0 : U.cell? ⟨w.heap.size + 3, 0, none⟩ = some (.int .i64 ss) := cell_of_row U (w.heap.size + 3) 0 _ _ _ x3
  have r3_1 : U.cell? ⟨w.heap.size + 3, 1, none⟩ = some (.int .i64 sn) := cell_of_row U (w.heap.size + 3) 1 _ _ _ x3
  have r3_f (i : Nat) : U.frozen? ⟨w.heap.size + 3, i, none⟩ = false := frozen_of_row U (w.heap.size + 3) i _ _ x3
  have r4_0 : U.cell? ⟨w.heap.size + 4, 0, none⟩ = some (.int .i64 b) := cell_of_row U (w.heap.size + 4) 0 _ _ _ x4
  have r4_f (i : Nat) : U.frozen? ⟨w.heap.size + 4, i, none⟩ = false := frozen_of_row U (w.heap.size + 4) i _ _ x4
  have hrW : Rd U.drew ao key := (hr.on hB2 : Rd U ao key)
  have hn1 : w1.heap.size ≠ w.heap.size + 5 := by omega
  have hn2 : w.heap.size ≠ w.heap.size + 5 := by omega
  have X5 := Lib.hid x5
  clear x0 x1 x2 x3 x4 x5 xa hW hB
  go_region_held3 (fun w' => w'.cell? ⟨w1.heap.size, 0, none⟩ = some (.int .u64 0) ∧ w'.cell? ⟨w.heap.size, 0, none⟩ = some (.slice ao key.length cap) ∧ w'.cell? ⟨w.heap.size, 1, none⟩ = some (.int .i64 side) ∧ w'.cell? ⟨w.heap.size, 2, none⟩ = some (.int .i64 cur) ∧ w'.cell? ⟨w.heap.size, 3, none⟩ = some (.int .i64 next) ∧ w'.cell? ⟨w.heap.size, 4, none⟩ = some (.int .u64 send) ∧ w'.cell? ⟨w.heap.size, 5, none⟩ = some (.int .u64 ceil) ∧ w'.cell? ⟨w.heap.size, 6, none⟩ = some (.int .i64 sec) ∧ w'.cell? ⟨w.heap.size, 7, none⟩ = some (.int .i64 nano)) (((try simp only [cell_drew, cell_far _ _ _ _ _ _ hn1, cell_far _ _ _ _ _ _ hn2]); (refine ⟨?_, ?_, ?_, ?_, ?_, ?_, ?_, ?_, ?_⟩ <;> with_reducible assumption))) ((go_at_call 23; refine (laneChanged0 ⟨key, side, cur, next, send, ceil, sec, nano⟩ ao cap false _ U.drew hs (by simp)).mono ?_; rintro e V ⟨he, hb2⟩; obtain rfl : e = .returned (.agg #[.slice none 0 0, .int .i64 0, .int .i64 0, .int .i64 0, .int .u64 0, .int .u64 0, .int .i64 0, .int .i64 0]) := he; have dc0 : V.cell? ⟨w1.heap.size, 0, none⟩ = some (.int .u64 0) := (hb2.cell (by rw [hWs]; show w1.heap.size < _; omega)).trans c0; have dr0_0 : V.cell? ⟨w.heap.size, 0, none⟩ = some (.slice ao key.length cap) := (hb2.cell (by rw [hWs]; show w.heap.size < _; omega)).trans r0_0; have dr0_1 : V.cell? ⟨w.heap.size, 1, none⟩ = some (.int .i64 side) := (hb2.cell (by rw [hWs]; show w.heap.size < _; omega)).trans r0_1; have dr0_2 : V.cell? ⟨w.heap.size, 2, none⟩ = some (.int .i64 cur) := (hb2.cell (by rw [hWs]; show w.heap.size < _; omega)).trans r0_2; have dr0_3 : V.cell? ⟨w.heap.size, 3, none⟩ = some (.int .i64 next) := (hb2.cell (by rw [hWs]; show w.heap.size < _; omega)).trans r0_3; have dr0_4 : V.cell? ⟨w.heap.size, 4, none⟩ = some (.int .u64 send) := (hb2.cell (by rw [hWs]; show w.heap.size < _; omega)).trans r0_4; have dr0_5 : V.cell? ⟨w.heap.size, 5, none⟩ = some (.int .u64 ceil) := (hb2.cell (by rw [hWs]; show w.heap.size < _; omega)).trans r0_5; have dr0_6 : V.cell? ⟨w.heap.size, 6, none⟩ = some (.int .i64 sec) := (hb2.cell (by rw [hWs]; show w.heap.size < _; omega)).trans r0_6; have dr0_7 : V.cell? ⟨w.heap.size, 7, none⟩ = some (.int .i64 nano) := (hb2.cell (by rw [hWs]; show w.heap.size < _; omega)).trans r0_7; have y : V.heap[w.heap.size + 5]? = some (.cells #[.slice none 0 0, .int .i64 0, .int .i64 0, .int .i64 0, .int .u64 0, .int .u64 0, .int .i64 0, .int .i64 0] 27 (0, 0)) := (hb2.block (w.heap.size + 5) (by rw [hWs]; omega)).trans X5.out; have b0 : V.cell? ⟨w.heap.size + 5, 0, none⟩ = some (.slice none 0 0) := cell_of_row V (w.heap.size + 5) 0 _ _ _ y; have b1 : V.cell? ⟨w.heap.size + 5, 1, none⟩ = some (.int .i64 0) := cell_of_row V (w.heap.size + 5) 1 _ _ _ y; have b2 : V.cell? ⟨w.heap.size + 5, 2, none⟩ = some (.int .i64 0) := cell_of_row V (w.heap.size + 5) 2 _ _ _ y; have b3 : V.cell? ⟨w.heap.size + 5, 3, none⟩ = some (.int .i64 0) := cell_of_row V (w.heap.size + 5) 3 _ _ _ y; have b4 : V.cell? ⟨w.heap.size + 5, 4, none⟩ = some (.int .u64 0) := cell_of_row V (w.heap.size + 5) 4 _ _ _ y; have b5 : V.cell? ⟨w.heap.size + 5, 5, none⟩ = some (.int .u64 0) := cell_of_row V (w.heap.size + 5) 5 _ _ _ y; have b6 : V.cell? ⟨w.heap.size + 5, 6, none⟩ = some (.int .i64 0) := cell_of_row V (w.heap.size + 5) 6 _ _ _ y; have b7 : V.cell? ⟨w.heap.size + 5, 7, none⟩ = some (.int .i64 0) := cell_of_row V (w.heap.size + 5) 7 _ _ _ y; have bf (i : Nat) : V.frozen? ⟨w.heap.size + 5, i, none⟩ = false := frozen_of_row V (w.heap.size + 5) i _ _ y; clear y))
  go_wp2_with fail
  refine bodyPost_ret (v := .tuple #[.agg #[.slice none 0 0, .int .i64 0, .int .i64 0, .int .i64 0, .int .u64 0, .int .u64 0, .int .i64 0, .int .i64 0], .int .u64 0]) (by simp [results, Tryz.results8, go_sem, b0, b1, b2, b3, b4, b5, b6, b7]) rfl ⟨_, _, rfl, ?_, ?_⟩
  · exact Or.inl ⟨rfl, rfl, rfl⟩
  · iterate 8 (refine Below.set ?_ _ _ _ (by omega))
    exact hB2.drew.trans (hb2.mono (by rw [hWs]; omega))
set_option maxHeartbeats 4000000 in
theorem laneAnswered_n2 (L : Ln) (ao : Option Addr) (cap : Nat) (g c ss sn b : Int) (_hc0 : 0 ≤ c) (_hc1 : c ≤ 18446744073709551615) (_hss : ss ≤ 9223372036854775807) (w : World) (hf : L.fits) (hr : Rd w ao L.key) (hok : L.ok = true) (hbk : blkB b = true) (h1 : ¬ L.cur < g) :
   Calls Tryz.prog 8 #[L.val ao cap, .int .i64 g, .int .u64 c, .agg #[.int .i64 ss, .int .i64 sn], .int .i64 b] w fun e w' => ∃ ao' cap', e = .returned (.tuple #[(answeredL L g c ss sn b).val ao' cap', .int .u64 (atA L g c ss sn b)]) ∧ Mine w' w.heap.size 5 ao' cap' (answeredL L g c ss sn b).key ∧ Below w.heap.size w w' := by
  obtain ⟨hl, hcur0, hcur1, hnext0, hnext1, hsend0, hsend1, hceil0, hceil1, hs⟩ := hf
  obtain ⟨key, side, cur, next, send, ceil, sec, nano⟩ := L
  unfold Ln.val
  simp only at hl hcur0 hcur1 hnext0 hnext1 hsend0 hsend1 hceil0 hceil1 hs hr hok h1 ⊢
  have hma : mayA ⟨key, side, cur, next, send, ceil, sec, nano⟩ g c ss sn b = false := by simp [mayA, hok, hbk, h1]
  have hy : answeredL ⟨key, side, cur, next, send, ceil, sec, nano⟩ g c ss sn b = Ln.zero := by simp [answeredL, hma]
  have ha : atA ⟨key, side, cur, next, send, ceil, sec, nano⟩ g c ss sn b = 0 := by simp [atA, hma]
  rw [hy, ha]
  unfold Ln.zero
  have HOK := Lib.hid hok
  have HBK := Lib.hid hbk
  clear hok hy ha hma hbk
  go_enter Tryz.func8, Tryz.ntmps8
  go_wp2_with fail
  refine (laneValid ⟨key, side, cur, next, send, ceil, sec, nano⟩ ao cap hs _).mono ?_
  rintro e w1 ⟨rfl, hb⟩
  rw [HOK.out]
  have hz := hb.size
  simp only [alloc_size] at hz
  have hB := (((((((Below.refl _ w).alloc (Nat.le_refl _) _).alloc (by simp only [alloc_size]; omega) _).alloc (by simp only [alloc_size]; omega) _).alloc (by simp only [alloc_size]; omega) _).alloc (by simp only [alloc_size]; omega) _).alloc (by simp only [alloc_size]; omega) _).trans (hb.mono (by simp only [alloc_size]; omega))
  have x0 : w1.heap[w.heap.size]? = some (.cells #[.slice ao key.length cap, .int .i64 side, .int .i64 cur, .int .i64 next, .int .u64 send, .int .u64 ceil, .int .i64 sec, .int .i64 nano] 27 (0, 0)) := (hb_block hb (w.heap.size) (by simp only [alloc_size]; omega)).trans (by simp only [alloc_get, alloc_size]; repeat first | rw [if_pos trivial] | rw [if_neg (by omega)] | rw [if_pos (by omega)])
  have x1 : w1.heap[w.heap.size + 1]? = some (.cells #[.int .i64 g] 3 (0, 0)) := (hb_block hb (w.heap.size + 1) (by simp only [alloc_size]; omega)).trans (by simp only [alloc_get, alloc_size]; repeat first | rw [if_pos trivial] | rw [if_neg (by omega)] | rw [if_pos (by omega)])
  have x2 : w1.heap[w.heap.size + 2]? = some (.cells #[.int .u64 c] 23 (0, 0)) := (hb_block hb (w.heap.size + 2) (by simp only [alloc_size]; omega)).trans (by simp only [alloc_get, alloc_size]; repeat first | rw [if_pos trivial] | rw [if_neg (by omega)] | rw [if_pos (by omega)])
  have x3 : w1.heap[w.heap.size + 3]? = some (.cells #[.int .i64 ss, .int .i64 sn] 25 (0, 0)) := (hb_block hb (w.heap.size + 3) (by simp only [alloc_size]; omega)).trans (by simp only [alloc_get, alloc_size]; repeat first | rw [if_pos trivial] | rw [if_neg (by omega)] | rw [if_pos (by omega)])
  have x4 : w1.heap[w.heap.size + 4]? = some (.cells #[.int .i64 b] 3 (0, 0)) := (hb_block hb (w.heap.size + 4) (by simp only [alloc_size]; omega)).trans (by simp only [alloc_get, alloc_size]; repeat first | rw [if_pos trivial] | rw [if_neg (by omega)] | rw [if_pos (by omega)])
  have x5 : w1.heap[w.heap.size + 5]? = some (.cells #[.slice none 0 0, .int .i64 0, .int .i64 0, .int .i64 0, .int .u64 0, .int .u64 0, .int .i64 0, .int .i64 0] 27 (0, 0)) := (hb_block hb (w.heap.size + 5) (by simp only [alloc_size]; omega)).trans (by simp only [alloc_get, alloc_size]; repeat first | rw [if_pos trivial] | rw [if_neg (by omega)] | rw [if_pos (by omega)])
  clear hb
  have q0_0 : w1.cell? ⟨w.heap.size, 0, none⟩ = some (.slice ao key.length cap) := cell_of_row w1 (w.heap.size) 0 _ _ _ x0
  have q0_1 : w1.cell? ⟨w.heap.size, 1, none⟩ = some (.int .i64 side) := cell_of_row w1 (w.heap.size) 1 _ _ _ x0
  have q0_2 : w1.cell? ⟨w.heap.size, 2, none⟩ = some (.int .i64 cur) := cell_of_row w1 (w.heap.size) 2 _ _ _ x0
  have q0_3 : w1.cell? ⟨w.heap.size, 3, none⟩ = some (.int .i64 next) := cell_of_row w1 (w.heap.size) 3 _ _ _ x0
  have q0_4 : w1.cell? ⟨w.heap.size, 4, none⟩ = some (.int .u64 send) := cell_of_row w1 (w.heap.size) 4 _ _ _ x0
  have q0_5 : w1.cell? ⟨w.heap.size, 5, none⟩ = some (.int .u64 ceil) := cell_of_row w1 (w.heap.size) 5 _ _ _ x0
  have q0_6 : w1.cell? ⟨w.heap.size, 6, none⟩ = some (.int .i64 sec) := cell_of_row w1 (w.heap.size) 6 _ _ _ x0
  have q0_7 : w1.cell? ⟨w.heap.size, 7, none⟩ = some (.int .i64 nano) := cell_of_row w1 (w.heap.size) 7 _ _ _ x0
  have q0_f (i : Nat) : w1.frozen? ⟨w.heap.size, i, none⟩ = false := frozen_of_row w1 (w.heap.size) i _ _ x0
  have q1_0 : w1.cell? ⟨w.heap.size + 1, 0, none⟩ = some (.int .i64 g) := cell_of_row w1 (w.heap.size + 1) 0 _ _ _ x1
  have q1_f (i : Nat) : w1.frozen? ⟨w.heap.size + 1, i, none⟩ = false := frozen_of_row w1 (w.heap.size + 1) i _ _ x1
  have q2_0 : w1.cell? ⟨w.heap.size + 2, 0, none⟩ = some (.int .u64 c) := cell_of_row w1 (w.heap.size + 2) 0 _ _ _ x2
  have q2_f (i : Nat) : w1.frozen? ⟨w.heap.size + 2, i, none⟩ = false := frozen_of_row w1 (w.heap.size + 2) i _ _ x2
  have q3_0 : w1.cell? ⟨w.heap.size + 3, 0, none⟩ = some (.int .i64 ss) := cell_of_row w1 (w.heap.size + 3) 0 _ _ _ x3
  have q3_1 : w1.cell? ⟨w.heap.size + 3, 1, none⟩ = some (.int .i64 sn) := cell_of_row w1 (w.heap.size + 3) 1 _ _ _ x3
  have q3_f (i : Nat) : w1.frozen? ⟨w.heap.size + 3, i, none⟩ = false := frozen_of_row w1 (w.heap.size + 3) i _ _ x3
  have q4_0 : w1.cell? ⟨w.heap.size + 4, 0, none⟩ = some (.int .i64 b) := cell_of_row w1 (w.heap.size + 4) 0 _ _ _ x4
  have q4_f (i : Nat) : w1.frozen? ⟨w.heap.size + 4, i, none⟩ = false := frozen_of_row w1 (w.heap.size + 4) i _ _ x4
  have HX := Lib.hid (show w1.heap[w.heap.size + 5]? = some (.cells #[.slice none 0 0, .int .i64 0, .int .i64 0, .int .i64 0, .int .u64 0, .int .u64 0, .int .i64 0, .int .i64 0] 27 (0, 0)) from x5)
  have X0 := Lib.hid x0
  have X1 := Lib.hid x1
  have X2 := Lib.hid x2
  have X3 := Lib.hid x3
  have X4 := Lib.hid x4
  have X5 := Lib.hid x5
  clear x0 x1 x2 x3 x4 x5
  go_wp2_with fail
  refine (laneBlock b _).mono ?_
  rintro e w2 ⟨rfl, hw⟩
  obtain rfl := hw.symm
  rw [HBK.out]
  go_wp2_with fail
  generalize hW : w1.alloc (Obj.cells #[.int .u64 0] 23 (0, 0)) = U
  have hzW : w.heap.size + 6 ≤ w1.heap.size := by omega
  have hB2 := hB.alloc (B := w.heap.size) (by omega) (Obj.cells #[.int .u64 0] 23 (0, 0))
  rw [hW] at hB2
  have hWs : U.drew.heap.size = w1.heap.size + 1 := by rw [← hW]; exact alloc_size _ _
  have xa : U.heap[w1.heap.size]? = some (.cells #[.int .u64 0] 23 (0, 0)) := by rw [← hW]; exact heap_alloc_new _ _
  clear q0_0 q0_1 q0_2 q0_3 q0_4 q0_5 q0_6 q0_7 q0_f
  clear q1_0 q1_f
  clear q2_0 q2_f
  clear q3_0 q3_1 q3_f
  clear q4_0 q4_f
  have x0 := X0.out
  clear X0
  have x1 := X1.out
  clear X1
  have x2 := X2.out
  clear X2
  have x3 := X3.out
  clear X3
  have x4 := X4.out
  clear X4
  have x5 := X5.out
  clear X5
  have x0 : U.heap[w.heap.size]? = some (.cells #[.slice ao key.length cap, .int .i64 side, .int .i64 cur, .int .i64 next, .int .u64 send, .int .u64 ceil, .int .i64 sec, .int .i64 nano] 27 (0, 0)) := by rw [← hW]; exact (alloc_old _ _ _ (by omega)).trans x0
  have x1 : U.heap[w.heap.size + 1]? = some (.cells #[.int .i64 g] 3 (0, 0)) := by rw [← hW]; exact (alloc_old _ _ _ (by omega)).trans x1
  have x2 : U.heap[w.heap.size + 2]? = some (.cells #[.int .u64 c] 23 (0, 0)) := by rw [← hW]; exact (alloc_old _ _ _ (by omega)).trans x2
  have x3 : U.heap[w.heap.size + 3]? = some (.cells #[.int .i64 ss, .int .i64 sn] 25 (0, 0)) := by rw [← hW]; exact (alloc_old _ _ _ (by omega)).trans x3
  have x4 : U.heap[w.heap.size + 4]? = some (.cells #[.int .i64 b] 3 (0, 0)) := by rw [← hW]; exact (alloc_old _ _ _ (by omega)).trans x4
  have x5 : U.heap[w.heap.size + 5]? = some (.cells #[.slice none 0 0, .int .i64 0, .int .i64 0, .int .i64 0, .int .u64 0, .int .u64 0, .int .i64 0, .int .i64 0] 27 (0, 0)) := by rw [← hW]; exact (alloc_old _ _ _ (by omega)).trans x5
  have c0 : U.cell? ⟨w1.heap.size, 0, none⟩ = some (.int .u64 0) := cell_of_row U (w1.heap.size) 0 _ _ _ xa
  have r0_0 : U.cell? ⟨w.heap.size, 0, none⟩ = some (.slice ao key.length cap) := cell_of_row U (w.heap.size) 0 _ _ _ x0
  have r0_1 : U.cell? ⟨w.heap.size, 1, none⟩ = some (.int .i64 side) := cell_of_row U (w.heap.size) 1 _ _ _ x0
  have r0_2 : U.cell? ⟨w.heap.size, 2, none⟩ = some (.int .i64 cur) := cell_of_row U (w.heap.size) 2 _ _ _ x0
  have r0_3 : U.cell? ⟨w.heap.size, 3, none⟩ = some (.int .i64 next) := cell_of_row U (w.heap.size) 3 _ _ _ x0
  have r0_4 : U.cell? ⟨w.heap.size, 4, none⟩ = some (.int .u64 send) := cell_of_row U (w.heap.size) 4 _ _ _ x0
  have r0_5 : U.cell? ⟨w.heap.size, 5, none⟩ = some (.int .u64 ceil) := cell_of_row U (w.heap.size) 5 _ _ _ x0
  have r0_6 : U.cell? ⟨w.heap.size, 6, none⟩ = some (.int .i64 sec) := cell_of_row U (w.heap.size) 6 _ _ _ x0
  have r0_7 : U.cell? ⟨w.heap.size, 7, none⟩ = some (.int .i64 nano) := cell_of_row U (w.heap.size) 7 _ _ _ x0
  have r0_f (i : Nat) : U.frozen? ⟨w.heap.size, i, none⟩ = false := frozen_of_row U (w.heap.size) i _ _ x0
  have r1_0 : U.cell? ⟨w.heap.size + 1, 0, none⟩ = some (.int .i64 g) := cell_of_row U (w.heap.size + 1) 0 _ _ _ x1
  have r1_f (i : Nat) : U.frozen? ⟨w.heap.size + 1, i, none⟩ = false := frozen_of_row U (w.heap.size + 1) i _ _ x1
  have r2_0 : U.cell? ⟨w.heap.size + 2, 0, none⟩ = some (.int .u64 c) := cell_of_row U (w.heap.size + 2) 0 _ _ _ x2
  have r2_f (i : Nat) : U.frozen? ⟨w.heap.size + 2, i, none⟩ = false := frozen_of_row U (w.heap.size + 2) i _ _ x2
  have r3_0 : U.cell? ⟨w.heap.size + 3, 0, none⟩ = some (.int .i64 ss) := cell_of_row U (w.heap.size + 3) 0 _ _ _ x3
  have r3_1 : U.cell? ⟨w.heap.size + 3, 1, none⟩ = some (.int .i64 sn) := cell_of_row U (w.heap.size + 3) 1 _ _ _ x3
  have r3_f (i : Nat) : U.frozen? ⟨w.heap.size + 3, i, none⟩ = false := frozen_of_row U (w.heap.size + 3) i _ _ x3
  have r4_0 : U.cell? ⟨w.heap.size + 4, 0, none⟩ = some (.int .i64 b) := cell_of_row U (w.heap.size + 4) 0 _ _ _ x4
  have r4_f (i : Nat) : U.frozen? ⟨w.heap.size + 4, i, none⟩ = false := frozen_of_row U (w.heap.size + 4) i _ _ x4
  have hrW : Rd U.drew ao key := (hr.on hB2 : Rd U ao key)
  have hn1 : w1.heap.size ≠ w.heap.size + 5 := by omega
  have hn2 : w.heap.size ≠ w.heap.size + 5 := by omega
  have X5 := Lib.hid x5
  clear x0 x1 x2 x3 x4 x5 xa hW hB
  go_region_held3 (fun w' => w'.cell? ⟨w1.heap.size, 0, none⟩ = some (.int .u64 0) ∧ w'.cell? ⟨w.heap.size, 0, none⟩ = some (.slice ao key.length cap) ∧ w'.cell? ⟨w.heap.size, 1, none⟩ = some (.int .i64 side) ∧ w'.cell? ⟨w.heap.size, 2, none⟩ = some (.int .i64 cur) ∧ w'.cell? ⟨w.heap.size, 3, none⟩ = some (.int .i64 next) ∧ w'.cell? ⟨w.heap.size, 4, none⟩ = some (.int .u64 send) ∧ w'.cell? ⟨w.heap.size, 5, none⟩ = some (.int .u64 ceil) ∧ w'.cell? ⟨w.heap.size, 6, none⟩ = some (.int .i64 sec) ∧ w'.cell? ⟨w.heap.size, 7, none⟩ = some (.int .i64 nano)) (((try simp only [cell_drew, cell_far _ _ _ _ _ _ hn1, cell_far _ _ _ _ _ _ hn2]); (refine ⟨?_, ?_, ?_, ?_, ?_, ?_, ?_, ?_, ?_⟩ <;> with_reducible assumption))) ((go_at_call 23; refine (laneChanged0 ⟨key, side, cur, next, send, ceil, sec, nano⟩ ao cap false _ U.drew hs (by simp)).mono ?_; rintro e V ⟨he, hb2⟩; obtain rfl : e = .returned (.agg #[.slice none 0 0, .int .i64 0, .int .i64 0, .int .i64 0, .int .u64 0, .int .u64 0, .int .i64 0, .int .i64 0]) := he; have dc0 : V.cell? ⟨w1.heap.size, 0, none⟩ = some (.int .u64 0) := (hb2.cell (by rw [hWs]; show w1.heap.size < _; omega)).trans c0; have dr0_0 : V.cell? ⟨w.heap.size, 0, none⟩ = some (.slice ao key.length cap) := (hb2.cell (by rw [hWs]; show w.heap.size < _; omega)).trans r0_0; have dr0_1 : V.cell? ⟨w.heap.size, 1, none⟩ = some (.int .i64 side) := (hb2.cell (by rw [hWs]; show w.heap.size < _; omega)).trans r0_1; have dr0_2 : V.cell? ⟨w.heap.size, 2, none⟩ = some (.int .i64 cur) := (hb2.cell (by rw [hWs]; show w.heap.size < _; omega)).trans r0_2; have dr0_3 : V.cell? ⟨w.heap.size, 3, none⟩ = some (.int .i64 next) := (hb2.cell (by rw [hWs]; show w.heap.size < _; omega)).trans r0_3; have dr0_4 : V.cell? ⟨w.heap.size, 4, none⟩ = some (.int .u64 send) := (hb2.cell (by rw [hWs]; show w.heap.size < _; omega)).trans r0_4; have dr0_5 : V.cell? ⟨w.heap.size, 5, none⟩ = some (.int .u64 ceil) := (hb2.cell (by rw [hWs]; show w.heap.size < _; omega)).trans r0_5; have dr0_6 : V.cell? ⟨w.heap.size, 6, none⟩ = some (.int .i64 sec) := (hb2.cell (by rw [hWs]; show w.heap.size < _; omega)).trans r0_6; have dr0_7 : V.cell? ⟨w.heap.size, 7, none⟩ = some (.int .i64 nano) := (hb2.cell (by rw [hWs]; show w.heap.size < _; omega)).trans r0_7; have y : V.heap[w.heap.size + 5]? = some (.cells #[.slice none 0 0, .int .i64 0, .int .i64 0, .int .i64 0, .int .u64 0, .int .u64 0, .int .i64 0, .int .i64 0] 27 (0, 0)) := (hb2.block (w.heap.size + 5) (by rw [hWs]; omega)).trans X5.out; have b0 : V.cell? ⟨w.heap.size + 5, 0, none⟩ = some (.slice none 0 0) := cell_of_row V (w.heap.size + 5) 0 _ _ _ y; have b1 : V.cell? ⟨w.heap.size + 5, 1, none⟩ = some (.int .i64 0) := cell_of_row V (w.heap.size + 5) 1 _ _ _ y; have b2 : V.cell? ⟨w.heap.size + 5, 2, none⟩ = some (.int .i64 0) := cell_of_row V (w.heap.size + 5) 2 _ _ _ y; have b3 : V.cell? ⟨w.heap.size + 5, 3, none⟩ = some (.int .i64 0) := cell_of_row V (w.heap.size + 5) 3 _ _ _ y; have b4 : V.cell? ⟨w.heap.size + 5, 4, none⟩ = some (.int .u64 0) := cell_of_row V (w.heap.size + 5) 4 _ _ _ y; have b5 : V.cell? ⟨w.heap.size + 5, 5, none⟩ = some (.int .u64 0) := cell_of_row V (w.heap.size + 5) 5 _ _ _ y; have b6 : V.cell? ⟨w.heap.size + 5, 6, none⟩ = some (.int .i64 0) := cell_of_row V (w.heap.size + 5) 6 _ _ _ y; have b7 : V.cell? ⟨w.heap.size + 5, 7, none⟩ = some (.int .i64 0) := cell_of_row V (w.heap.size + 5) 7 _ _ _ y; have bf (i : Nat) : V.frozen? ⟨w.heap.size + 5, i, none⟩ = false := frozen_of_row V (w.heap.size + 5) i _ _ y; clear y))
  go_wp2_with fail
  refine bodyPost_ret (v := .tuple #[.agg #[.slice none 0 0, .int .i64 0, .int .i64 0, .int .i64 0, .int .u64 0, .int .u64 0, .int .i64 0, .int .i64 0], .int .u64 0]) (by simp [results, Tryz.results8, go_sem, b0, b1, b2, b3, b4, b5, b6, b7]) rfl ⟨_, _, rfl, ?_, ?_⟩
  · exact Or.inl ⟨rfl, rfl, rfl⟩
  · iterate 8 (refine Below.set ?_ _ _ _ (by omega))
    exact hB2.drew.trans (hb2.mono (by rw [hWs]; omega))
set_option maxHeartbeats 4000000 in
theorem laneAnswered_n3 (L : Ln) (ao : Option Addr) (cap : Nat) (g c ss sn b : Int) (_hc0 : 0 ≤ c) (_hc1 : c ≤ 18446744073709551615) (_hss : ss ≤ 9223372036854775807) (w : World) (hf : L.fits) (hr : Rd w ao L.key) (hok : L.ok = true) (hbk : blkB b = true) (h1 : L.cur < g) (h2 : ¬ g ≤ 2147483647) :
   Calls Tryz.prog 8 #[L.val ao cap, .int .i64 g, .int .u64 c, .agg #[.int .i64 ss, .int .i64 sn], .int .i64 b] w fun e w' => ∃ ao' cap', e = .returned (.tuple #[(answeredL L g c ss sn b).val ao' cap', .int .u64 (atA L g c ss sn b)]) ∧ Mine w' w.heap.size 5 ao' cap' (answeredL L g c ss sn b).key ∧ Below w.heap.size w w' := by
  obtain ⟨hl, hcur0, hcur1, hnext0, hnext1, hsend0, hsend1, hceil0, hceil1, hs⟩ := hf
  obtain ⟨key, side, cur, next, send, ceil, sec, nano⟩ := L
  unfold Ln.val
  simp only at hl hcur0 hcur1 hnext0 hnext1 hsend0 hsend1 hceil0 hceil1 hs hr hok h1 ⊢
  have hma : mayA ⟨key, side, cur, next, send, ceil, sec, nano⟩ g c ss sn b = false := by simp [mayA, hok, hbk, h1, h2]
  have hy : answeredL ⟨key, side, cur, next, send, ceil, sec, nano⟩ g c ss sn b = Ln.zero := by simp [answeredL, hma]
  have ha : atA ⟨key, side, cur, next, send, ceil, sec, nano⟩ g c ss sn b = 0 := by simp [atA, hma]
  rw [hy, ha]
  unfold Ln.zero
  have HOK := Lib.hid hok
  have HBK := Lib.hid hbk
  clear hok hy ha hma hbk
  go_enter Tryz.func8, Tryz.ntmps8
  go_wp2_with fail
  refine (laneValid ⟨key, side, cur, next, send, ceil, sec, nano⟩ ao cap hs _).mono ?_
  rintro e w1 ⟨rfl, hb⟩
  rw [HOK.out]
  have hz := hb.size
  simp only [alloc_size] at hz
  have hB := (((((((Below.refl _ w).alloc (Nat.le_refl _) _).alloc (by simp only [alloc_size]; omega) _).alloc (by simp only [alloc_size]; omega) _).alloc (by simp only [alloc_size]; omega) _).alloc (by simp only [alloc_size]; omega) _).alloc (by simp only [alloc_size]; omega) _).trans (hb.mono (by simp only [alloc_size]; omega))
  have x0 : w1.heap[w.heap.size]? = some (.cells #[.slice ao key.length cap, .int .i64 side, .int .i64 cur, .int .i64 next, .int .u64 send, .int .u64 ceil, .int .i64 sec, .int .i64 nano] 27 (0, 0)) := (hb_block hb (w.heap.size) (by simp only [alloc_size]; omega)).trans (by simp only [alloc_get, alloc_size]; repeat first | rw [if_pos trivial] | rw [if_neg (by omega)] | rw [if_pos (by omega)])
  have x1 : w1.heap[w.heap.size + 1]? = some (.cells #[.int .i64 g] 3 (0, 0)) := (hb_block hb (w.heap.size + 1) (by simp only [alloc_size]; omega)).trans (by simp only [alloc_get, alloc_size]; repeat first | rw [if_pos trivial] | rw [if_neg (by omega)] | rw [if_pos (by omega)])
  have x2 : w1.heap[w.heap.size + 2]? = some (.cells #[.int .u64 c] 23 (0, 0)) := (hb_block hb (w.heap.size + 2) (by simp only [alloc_size]; omega)).trans (by simp only [alloc_get, alloc_size]; repeat first | rw [if_pos trivial] | rw [if_neg (by omega)] | rw [if_pos (by omega)])
  have x3 : w1.heap[w.heap.size + 3]? = some (.cells #[.int .i64 ss, .int .i64 sn] 25 (0, 0)) := (hb_block hb (w.heap.size + 3) (by simp only [alloc_size]; omega)).trans (by simp only [alloc_get, alloc_size]; repeat first | rw [if_pos trivial] | rw [if_neg (by omega)] | rw [if_pos (by omega)])
  have x4 : w1.heap[w.heap.size + 4]? = some (.cells #[.int .i64 b] 3 (0, 0)) := (hb_block hb (w.heap.size + 4) (by simp only [alloc_size]; omega)).trans (by simp only [alloc_get, alloc_size]; repeat first | rw [if_pos trivial] | rw [if_neg (by omega)] | rw [if_pos (by omega)])
  have x5 : w1.heap[w.heap.size + 5]? = some (.cells #[.slice none 0 0, .int .i64 0, .int .i64 0, .int .i64 0, .int .u64 0, .int .u64 0, .int .i64 0, .int .i64 0] 27 (0, 0)) := (hb_block hb (w.heap.size + 5) (by simp only [alloc_size]; omega)).trans (by simp only [alloc_get, alloc_size]; repeat first | rw [if_pos trivial] | rw [if_neg (by omega)] | rw [if_pos (by omega)])
  clear hb
  have q0_0 : w1.cell? ⟨w.heap.size, 0, none⟩ = some (.slice ao key.length cap) := cell_of_row w1 (w.heap.size) 0 _ _ _ x0
  have q0_1 : w1.cell? ⟨w.heap.size, 1, none⟩ = some (.int .i64 side) := cell_of_row w1 (w.heap.size) 1 _ _ _ x0
  have q0_2 : w1.cell? ⟨w.heap.size, 2, none⟩ = some (.int .i64 cur) := cell_of_row w1 (w.heap.size) 2 _ _ _ x0
  have q0_3 : w1.cell? ⟨w.heap.size, 3, none⟩ = some (.int .i64 next) := cell_of_row w1 (w.heap.size) 3 _ _ _ x0
  have q0_4 : w1.cell? ⟨w.heap.size, 4, none⟩ = some (.int .u64 send) := cell_of_row w1 (w.heap.size) 4 _ _ _ x0
  have q0_5 : w1.cell? ⟨w.heap.size, 5, none⟩ = some (.int .u64 ceil) := cell_of_row w1 (w.heap.size) 5 _ _ _ x0
  have q0_6 : w1.cell? ⟨w.heap.size, 6, none⟩ = some (.int .i64 sec) := cell_of_row w1 (w.heap.size) 6 _ _ _ x0
  have q0_7 : w1.cell? ⟨w.heap.size, 7, none⟩ = some (.int .i64 nano) := cell_of_row w1 (w.heap.size) 7 _ _ _ x0
  have q0_f (i : Nat) : w1.frozen? ⟨w.heap.size, i, none⟩ = false := frozen_of_row w1 (w.heap.size) i _ _ x0
  have q1_0 : w1.cell? ⟨w.heap.size + 1, 0, none⟩ = some (.int .i64 g) := cell_of_row w1 (w.heap.size + 1) 0 _ _ _ x1
  have q1_f (i : Nat) : w1.frozen? ⟨w.heap.size + 1, i, none⟩ = false := frozen_of_row w1 (w.heap.size + 1) i _ _ x1
  have q2_0 : w1.cell? ⟨w.heap.size + 2, 0, none⟩ = some (.int .u64 c) := cell_of_row w1 (w.heap.size + 2) 0 _ _ _ x2
  have q2_f (i : Nat) : w1.frozen? ⟨w.heap.size + 2, i, none⟩ = false := frozen_of_row w1 (w.heap.size + 2) i _ _ x2
  have q3_0 : w1.cell? ⟨w.heap.size + 3, 0, none⟩ = some (.int .i64 ss) := cell_of_row w1 (w.heap.size + 3) 0 _ _ _ x3
  have q3_1 : w1.cell? ⟨w.heap.size + 3, 1, none⟩ = some (.int .i64 sn) := cell_of_row w1 (w.heap.size + 3) 1 _ _ _ x3
  have q3_f (i : Nat) : w1.frozen? ⟨w.heap.size + 3, i, none⟩ = false := frozen_of_row w1 (w.heap.size + 3) i _ _ x3
  have q4_0 : w1.cell? ⟨w.heap.size + 4, 0, none⟩ = some (.int .i64 b) := cell_of_row w1 (w.heap.size + 4) 0 _ _ _ x4
  have q4_f (i : Nat) : w1.frozen? ⟨w.heap.size + 4, i, none⟩ = false := frozen_of_row w1 (w.heap.size + 4) i _ _ x4
  have HX := Lib.hid (show w1.heap[w.heap.size + 5]? = some (.cells #[.slice none 0 0, .int .i64 0, .int .i64 0, .int .i64 0, .int .u64 0, .int .u64 0, .int .i64 0, .int .i64 0] 27 (0, 0)) from x5)
  have X0 := Lib.hid x0
  have X1 := Lib.hid x1
  have X2 := Lib.hid x2
  have X3 := Lib.hid x3
  have X4 := Lib.hid x4
  have X5 := Lib.hid x5
  clear x0 x1 x2 x3 x4 x5
  go_wp2_with fail
  refine (laneBlock b _).mono ?_
  rintro e w2 ⟨rfl, hw⟩
  obtain rfl := hw.symm
  rw [HBK.out]
  go_wp2_with fail
  generalize hW : w1.alloc (Obj.cells #[.int .u64 0] 23 (0, 0)) = U
  have hzW : w.heap.size + 6 ≤ w1.heap.size := by omega
  have hB2 := hB.alloc (B := w.heap.size) (by omega) (Obj.cells #[.int .u64 0] 23 (0, 0))
  rw [hW] at hB2
  have hWs : U.drew.heap.size = w1.heap.size + 1 := by rw [← hW]; exact alloc_size _ _
  have xa : U.heap[w1.heap.size]? = some (.cells #[.int .u64 0] 23 (0, 0)) := by rw [← hW]; exact heap_alloc_new _ _
  clear q0_0 q0_1 q0_2 q0_3 q0_4 q0_5 q0_6 q0_7 q0_f
  clear q1_0 q1_f
  clear q2_0 q2_f
  clear q3_0 q3_1 q3_f
  clear q4_0 q4_f
  have x0 := X0.out
  clear X0
  have x1 := X1.out
  clear X1
  have x2 := X2.out
  clear X2
  have x3 := X3.out
  clear X3
  have x4 := X4.out
  clear X4
  have x5 := X5.out
  clear X5
  have x0 : U.heap[w.heap.size]? = some (.cells #[.slice ao key.length cap, .int .i64 side, .int .i64 cur, .int .i64 next, .int .u64 send, .int .u64 ceil, .int .i64 sec, .int .i64 nano] 27 (0, 0)) := by rw [← hW]; exact (alloc_old _ _ _ (by omega)).trans x0
  have x1 : U.heap[w.heap.size + 1]? = some (.cells #[.int .i64 g] 3 (0, 0)) := by rw [← hW]; exact (alloc_old _ _ _ (by omega)).trans x1
  have x2 : U.heap[w.heap.size + 2]? = some (.cells #[.int .u64 c] 23 (0, 0)) := by rw [← hW]; exact (alloc_old _ _ _ (by omega)).trans x2
  have x3 : U.heap[w.heap.size + 3]? = some (.cells #[.int .i64 ss, .int .i64 sn] 25 (0, 0)) := by rw [← hW]; exact (alloc_old _ _ _ (by omega)).trans x3
  have x4 : U.heap[w.heap.size + 4]? = some (.cells #[.int .i64 b] 3 (0, 0)) := by rw [← hW]; exact (alloc_old _ _ _ (by omega)).trans x4
  have x5 : U.heap[w.heap.size + 5]? = some (.cells #[.slice none 0 0, .int .i64 0, .int .i64 0, .int .i64 0, .int .u64 0, .int .u64 0, .int .i64 0, .int .i64 0] 27 (0, 0)) := by rw [← hW]; exact (alloc_old _ _ _ (by omega)).trans x5
  have c0 : U.cell? ⟨w1.heap.size, 0, none⟩ = some (.int .u64 0) := cell_of_row U (w1.heap.size) 0 _ _ _ xa
  have r0_0 : U.cell? ⟨w.heap.size, 0, none⟩ = some (.slice ao key.length cap) := cell_of_row U (w.heap.size) 0 _ _ _ x0
  have r0_1 : U.cell? ⟨w.heap.size, 1, none⟩ = some (.int .i64 side) := cell_of_row U (w.heap.size) 1 _ _ _ x0
  have r0_2 : U.cell? ⟨w.heap.size, 2, none⟩ = some (.int .i64 cur) := cell_of_row U (w.heap.size) 2 _ _ _ x0
  have r0_3 : U.cell? ⟨w.heap.size, 3, none⟩ = some (.int .i64 next) := cell_of_row U (w.heap.size) 3 _ _ _ x0
  have r0_4 : U.cell? ⟨w.heap.size, 4, none⟩ = some (.int .u64 send) := cell_of_row U (w.heap.size) 4 _ _ _ x0
  have r0_5 : U.cell? ⟨w.heap.size, 5, none⟩ = some (.int .u64 ceil) := cell_of_row U (w.heap.size) 5 _ _ _ x0
  have r0_6 : U.cell? ⟨w.heap.size, 6, none⟩ = some (.int .i64 sec) := cell_of_row U (w.heap.size) 6 _ _ _ x0
  have r0_7 : U.cell? ⟨w.heap.size, 7, none⟩ = some (.int .i64 nano) := cell_of_row U (w.heap.size) 7 _ _ _ x0
  have r0_f (i : Nat) : U.frozen? ⟨w.heap.size, i, none⟩ = false := frozen_of_row U (w.heap.size) i _ _ x0
  have r1_0 : U.cell? ⟨w.heap.size + 1, 0, none⟩ = some (.int .i64 g) := cell_of_row U (w.heap.size + 1) 0 _ _ _ x1
  have r1_f (i : Nat) : U.frozen? ⟨w.heap.size + 1, i, none⟩ = false := frozen_of_row U (w.heap.size + 1) i _ _ x1
  have r2_0 : U.cell? ⟨w.heap.size + 2, 0, none⟩ = some (.int .u64 c) := cell_of_row U (w.heap.size + 2) 0 _ _ _ x2
  have r2_f (i : Nat) : U.frozen? ⟨w.heap.size + 2, i, none⟩ = false := frozen_of_row U (w.heap.size + 2) i _ _ x2
  have r3_0 : U.cell? ⟨w.heap.size + 3, 0, none⟩ = some (.int .i64 ss) := cell_of_row U (w.heap.size + 3) 0 _ _ _ x3
  have r3_1 : U.cell? ⟨w.heap.size + 3, 1, none⟩ = some (.int .i64 sn) := cell_of_row U (w.heap.size + 3) 1 _ _ _ x3
  have r3_f (i : Nat) : U.frozen? ⟨w.heap.size + 3, i, none⟩ = false := frozen_of_row U (w.heap.size + 3) i _ _ x3
  have r4_0 : U.cell? ⟨w.heap.size + 4, 0, none⟩ = some (.int .i64 b) := cell_of_row U (w.heap.size + 4) 0 _ _ _ x4
  have r4_f (i : Nat) : U.frozen? ⟨w.heap.size + 4, i, none⟩ = false := frozen_of_row U (w.heap.size + 4) i _ _ x4
  have hrW : Rd U.drew ao key := (hr.on hB2 : Rd U ao key)
  have hn1 : w1.heap.size ≠ w.heap.size + 5 := by omega
  have hn2 : w.heap.size ≠ w.heap.size + 5 := by omega
  have X5 := Lib.hid x5
  clear x0 x1 x2 x3 x4 x5 xa hW hB
  go_region_held3 (fun w' => w'.cell? ⟨w1.heap.size, 0, none⟩ = some (.int .u64 0) ∧ w'.cell? ⟨w.heap.size, 0, none⟩ = some (.slice ao key.length cap) ∧ w'.cell? ⟨w.heap.size, 1, none⟩ = some (.int .i64 side) ∧ w'.cell? ⟨w.heap.size, 2, none⟩ = some (.int .i64 cur) ∧ w'.cell? ⟨w.heap.size, 3, none⟩ = some (.int .i64 next) ∧ w'.cell? ⟨w.heap.size, 4, none⟩ = some (.int .u64 send) ∧ w'.cell? ⟨w.heap.size, 5, none⟩ = some (.int .u64 ceil) ∧ w'.cell? ⟨w.heap.size, 6, none⟩ = some (.int .i64 sec) ∧ w'.cell? ⟨w.heap.size, 7, none⟩ = some (.int .i64 nano)) (((try simp only [cell_drew, cell_far _ _ _ _ _ _ hn1, cell_far _ _ _ _ _ _ hn2]); (refine ⟨?_, ?_, ?_, ?_, ?_, ?_, ?_, ?_, ?_⟩ <;> with_reducible assumption))) ((go_at_call 23; refine (laneChanged0 ⟨key, side, cur, next, send, ceil, sec, nano⟩ ao cap false _ U.drew hs (by simp)).mono ?_; rintro e V ⟨he, hb2⟩; obtain rfl : e = .returned (.agg #[.slice none 0 0, .int .i64 0, .int .i64 0, .int .i64 0, .int .u64 0, .int .u64 0, .int .i64 0, .int .i64 0]) := he; have dc0 : V.cell? ⟨w1.heap.size, 0, none⟩ = some (.int .u64 0) := (hb2.cell (by rw [hWs]; show w1.heap.size < _; omega)).trans c0; have dr0_0 : V.cell? ⟨w.heap.size, 0, none⟩ = some (.slice ao key.length cap) := (hb2.cell (by rw [hWs]; show w.heap.size < _; omega)).trans r0_0; have dr0_1 : V.cell? ⟨w.heap.size, 1, none⟩ = some (.int .i64 side) := (hb2.cell (by rw [hWs]; show w.heap.size < _; omega)).trans r0_1; have dr0_2 : V.cell? ⟨w.heap.size, 2, none⟩ = some (.int .i64 cur) := (hb2.cell (by rw [hWs]; show w.heap.size < _; omega)).trans r0_2; have dr0_3 : V.cell? ⟨w.heap.size, 3, none⟩ = some (.int .i64 next) := (hb2.cell (by rw [hWs]; show w.heap.size < _; omega)).trans r0_3; have dr0_4 : V.cell? ⟨w.heap.size, 4, none⟩ = some (.int .u64 send) := (hb2.cell (by rw [hWs]; show w.heap.size < _; omega)).trans r0_4; have dr0_5 : V.cell? ⟨w.heap.size, 5, none⟩ = some (.int .u64 ceil) := (hb2.cell (by rw [hWs]; show w.heap.size < _; omega)).trans r0_5; have dr0_6 : V.cell? ⟨w.heap.size, 6, none⟩ = some (.int .i64 sec) := (hb2.cell (by rw [hWs]; show w.heap.size < _; omega)).trans r0_6; have dr0_7 : V.cell? ⟨w.heap.size, 7, none⟩ = some (.int .i64 nano) := (hb2.cell (by rw [hWs]; show w.heap.size < _; omega)).trans r0_7; have y : V.heap[w.heap.size + 5]? = some (.cells #[.slice none 0 0, .int .i64 0, .int .i64 0, .int .i64 0, .int .u64 0, .int .u64 0, .int .i64 0, .int .i64 0] 27 (0, 0)) := (hb2.block (w.heap.size + 5) (by rw [hWs]; omega)).trans X5.out; have b0 : V.cell? ⟨w.heap.size + 5, 0, none⟩ = some (.slice none 0 0) := cell_of_row V (w.heap.size + 5) 0 _ _ _ y; have b1 : V.cell? ⟨w.heap.size + 5, 1, none⟩ = some (.int .i64 0) := cell_of_row V (w.heap.size + 5) 1 _ _ _ y; have b2 : V.cell? ⟨w.heap.size + 5, 2, none⟩ = some (.int .i64 0) := cell_of_row V (w.heap.size + 5) 2 _ _ _ y; have b3 : V.cell? ⟨w.heap.size + 5, 3, none⟩ = some (.int .i64 0) := cell_of_row V (w.heap.size + 5) 3 _ _ _ y; have b4 : V.cell? ⟨w.heap.size + 5, 4, none⟩ = some (.int .u64 0) := cell_of_row V (w.heap.size + 5) 4 _ _ _ y; have b5 : V.cell? ⟨w.heap.size + 5, 5, none⟩ = some (.int .u64 0) := cell_of_row V (w.heap.size + 5) 5 _ _ _ y; have b6 : V.cell? ⟨w.heap.size + 5, 6, none⟩ = some (.int .i64 0) := cell_of_row V (w.heap.size + 5) 6 _ _ _ y; have b7 : V.cell? ⟨w.heap.size + 5, 7, none⟩ = some (.int .i64 0) := cell_of_row V (w.heap.size + 5) 7 _ _ _ y; have bf (i : Nat) : V.frozen? ⟨w.heap.size + 5, i, none⟩ = false := frozen_of_row V (w.heap.size + 5) i _ _ y; clear y))
  go_wp2_with fail
  refine bodyPost_ret (v := .tuple #[.agg #[.slice none 0 0, .int .i64 0, .int .i64 0, .int .i64 0, .int .u64 0, .int .u64 0, .int .i64 0, .int .i64 0], .int .u64 0]) (by simp [results, Tryz.results8, go_sem, b0, b1, b2, b3, b4, b5, b6, b7]) rfl ⟨_, _, rfl, ?_, ?_⟩
  · exact Or.inl ⟨rfl, rfl, rfl⟩
  · iterate 8 (refine Below.set ?_ _ _ _ (by omega))
    exact hB2.drew.trans (hb2.mono (by rw [hWs]; omega))
set_option maxHeartbeats 4000000 in
theorem laneAnswered_n4 (L : Ln) (ao : Option Addr) (cap : Nat) (g c ss sn b : Int) (hc0 : 0 ≤ c) (hc1 : c ≤ 18446744073709551615) (_hss : ss ≤ 9223372036854775807) (w : World) (hf : L.fits) (hr : Rd w ao L.key) (hok : L.ok = true) (hbk : blkB b = true) (h1 : L.cur < g) (h2 : g ≤ 2147483647) (h3 : ¬ c ≤ 18446744073709551614) :
   Calls Tryz.prog 8 #[L.val ao cap, .int .i64 g, .int .u64 c, .agg #[.int .i64 ss, .int .i64 sn], .int .i64 b] w fun e w' => ∃ ao' cap', e = .returned (.tuple #[(answeredL L g c ss sn b).val ao' cap', .int .u64 (atA L g c ss sn b)]) ∧ Mine w' w.heap.size 5 ao' cap' (answeredL L g c ss sn b).key ∧ Below w.heap.size w w' := by
  obtain ⟨hl, hcur0, hcur1, hnext0, hnext1, hsend0, hsend1, hceil0, hceil1, hs⟩ := hf
  obtain ⟨key, side, cur, next, send, ceil, sec, nano⟩ := L
  unfold Ln.val
  simp only at hl hcur0 hcur1 hnext0 hnext1 hsend0 hsend1 hceil0 hceil1 hs hr hok h1 ⊢
  obtain rfl : c = 18446744073709551615 := by omega
  clear h3 hc0 hc1
  have hma : mayA ⟨key, side, cur, next, send, ceil, sec, nano⟩ g 18446744073709551615 ss sn b = false := by simp [mayA, hok, hbk, h1, h2]
  have hy : answeredL ⟨key, side, cur, next, send, ceil, sec, nano⟩ g 18446744073709551615 ss sn b = Ln.zero := by simp [answeredL, hma]
  have ha : atA ⟨key, side, cur, next, send, ceil, sec, nano⟩ g 18446744073709551615 ss sn b = 0 := by simp [atA, hma]
  rw [hy, ha]
  unfold Ln.zero
  have HOK := Lib.hid hok
  have HBK := Lib.hid hbk
  clear hok hy ha hma hbk
  go_enter Tryz.func8, Tryz.ntmps8
  go_wp2_with fail
  refine (laneValid ⟨key, side, cur, next, send, ceil, sec, nano⟩ ao cap hs _).mono ?_
  rintro e w1 ⟨rfl, hb⟩
  rw [HOK.out]
  have hz := hb.size
  simp only [alloc_size] at hz
  have hB := (((((((Below.refl _ w).alloc (Nat.le_refl _) _).alloc (by simp only [alloc_size]; omega) _).alloc (by simp only [alloc_size]; omega) _).alloc (by simp only [alloc_size]; omega) _).alloc (by simp only [alloc_size]; omega) _).alloc (by simp only [alloc_size]; omega) _).trans (hb.mono (by simp only [alloc_size]; omega))
  have x0 : w1.heap[w.heap.size]? = some (.cells #[.slice ao key.length cap, .int .i64 side, .int .i64 cur, .int .i64 next, .int .u64 send, .int .u64 ceil, .int .i64 sec, .int .i64 nano] 27 (0, 0)) := (hb_block hb (w.heap.size) (by simp only [alloc_size]; omega)).trans (by simp only [alloc_get, alloc_size]; repeat first | rw [if_pos trivial] | rw [if_neg (by omega)] | rw [if_pos (by omega)])
  have x1 : w1.heap[w.heap.size + 1]? = some (.cells #[.int .i64 g] 3 (0, 0)) := (hb_block hb (w.heap.size + 1) (by simp only [alloc_size]; omega)).trans (by simp only [alloc_get, alloc_size]; repeat first | rw [if_pos trivial] | rw [if_neg (by omega)] | rw [if_pos (by omega)])
  have x2 : w1.heap[w.heap.size + 2]? = some (.cells #[.int .u64 18446744073709551615] 23 (0, 0)) := (hb_block hb (w.heap.size + 2) (by simp only [alloc_size]; omega)).trans (by simp only [alloc_get, alloc_size]; repeat first | rw [if_pos trivial] | rw [if_neg (by omega)] | rw [if_pos (by omega)])
  have x3 : w1.heap[w.heap.size + 3]? = some (.cells #[.int .i64 ss, .int .i64 sn] 25 (0, 0)) := (hb_block hb (w.heap.size + 3) (by simp only [alloc_size]; omega)).trans (by simp only [alloc_get, alloc_size]; repeat first | rw [if_pos trivial] | rw [if_neg (by omega)] | rw [if_pos (by omega)])
  have x4 : w1.heap[w.heap.size + 4]? = some (.cells #[.int .i64 b] 3 (0, 0)) := (hb_block hb (w.heap.size + 4) (by simp only [alloc_size]; omega)).trans (by simp only [alloc_get, alloc_size]; repeat first | rw [if_pos trivial] | rw [if_neg (by omega)] | rw [if_pos (by omega)])
  have x5 : w1.heap[w.heap.size + 5]? = some (.cells #[.slice none 0 0, .int .i64 0, .int .i64 0, .int .i64 0, .int .u64 0, .int .u64 0, .int .i64 0, .int .i64 0] 27 (0, 0)) := (hb_block hb (w.heap.size + 5) (by simp only [alloc_size]; omega)).trans (by simp only [alloc_get, alloc_size]; repeat first | rw [if_pos trivial] | rw [if_neg (by omega)] | rw [if_pos (by omega)])
  clear hb
  have q0_0 : w1.cell? ⟨w.heap.size, 0, none⟩ = some (.slice ao key.length cap) := cell_of_row w1 (w.heap.size) 0 _ _ _ x0
  have q0_1 : w1.cell? ⟨w.heap.size, 1, none⟩ = some (.int .i64 side) := cell_of_row w1 (w.heap.size) 1 _ _ _ x0
  have q0_2 : w1.cell? ⟨w.heap.size, 2, none⟩ = some (.int .i64 cur) := cell_of_row w1 (w.heap.size) 2 _ _ _ x0
  have q0_3 : w1.cell? ⟨w.heap.size, 3, none⟩ = some (.int .i64 next) := cell_of_row w1 (w.heap.size) 3 _ _ _ x0
  have q0_4 : w1.cell? ⟨w.heap.size, 4, none⟩ = some (.int .u64 send) := cell_of_row w1 (w.heap.size) 4 _ _ _ x0
  have q0_5 : w1.cell? ⟨w.heap.size, 5, none⟩ = some (.int .u64 ceil) := cell_of_row w1 (w.heap.size) 5 _ _ _ x0
  have q0_6 : w1.cell? ⟨w.heap.size, 6, none⟩ = some (.int .i64 sec) := cell_of_row w1 (w.heap.size) 6 _ _ _ x0
  have q0_7 : w1.cell? ⟨w.heap.size, 7, none⟩ = some (.int .i64 nano) := cell_of_row w1 (w.heap.size) 7 _ _ _ x0
  have q0_f (i : Nat) : w1.frozen? ⟨w.heap.size, i, none⟩ = false := frozen_of_row w1 (w.heap.size) i _ _ x0
  have q1_0 : w1.cell? ⟨w.heap.size + 1, 0, none⟩ = some (.int .i64 g) := cell_of_row w1 (w.heap.size + 1) 0 _ _ _ x1
  have q1_f (i : Nat) : w1.frozen? ⟨w.heap.size + 1, i, none⟩ = false := frozen_of_row w1 (w.heap.size + 1) i _ _ x1
  have q2_0 : w1.cell? ⟨w.heap.size + 2, 0, none⟩ = some (.int .u64 18446744073709551615) := cell_of_row w1 (w.heap.size + 2) 0 _ _ _ x2
  have q2_f (i : Nat) : w1.frozen? ⟨w.heap.size + 2, i, none⟩ = false := frozen_of_row w1 (w.heap.size + 2) i _ _ x2
  have q3_0 : w1.cell? ⟨w.heap.size + 3, 0, none⟩ = some (.int .i64 ss) := cell_of_row w1 (w.heap.size + 3) 0 _ _ _ x3
  have q3_1 : w1.cell? ⟨w.heap.size + 3, 1, none⟩ = some (.int .i64 sn) := cell_of_row w1 (w.heap.size + 3) 1 _ _ _ x3
  have q3_f (i : Nat) : w1.frozen? ⟨w.heap.size + 3, i, none⟩ = false := frozen_of_row w1 (w.heap.size + 3) i _ _ x3
  have q4_0 : w1.cell? ⟨w.heap.size + 4, 0, none⟩ = some (.int .i64 b) := cell_of_row w1 (w.heap.size + 4) 0 _ _ _ x4
  have q4_f (i : Nat) : w1.frozen? ⟨w.heap.size + 4, i, none⟩ = false := frozen_of_row w1 (w.heap.size + 4) i _ _ x4
  have HX := Lib.hid (show w1.heap[w.heap.size + 5]? = some (.cells #[.slice none 0 0, .int .i64 0, .int .i64 0, .int .i64 0, .int .u64 0, .int .u64 0, .int .i64 0, .int .i64 0] 27 (0, 0)) from x5)
  have X0 := Lib.hid x0
  have X1 := Lib.hid x1
  have X2 := Lib.hid x2
  have X3 := Lib.hid x3
  have X4 := Lib.hid x4
  have X5 := Lib.hid x5
  clear x0 x1 x2 x3 x4 x5
  go_wp2_with fail
  refine (laneBlock b _).mono ?_
  rintro e w2 ⟨rfl, hw⟩
  obtain rfl := hw.symm
  rw [HBK.out]
  go_wp2_with fail
  generalize hW : w1.alloc (Obj.cells #[.int .u64 0] 23 (0, 0)) = U
  have hzW : w.heap.size + 6 ≤ w1.heap.size := by omega
  have hB2 := hB.alloc (B := w.heap.size) (by omega) (Obj.cells #[.int .u64 0] 23 (0, 0))
  rw [hW] at hB2
  have hWs : U.drew.heap.size = w1.heap.size + 1 := by rw [← hW]; exact alloc_size _ _
  have xa : U.heap[w1.heap.size]? = some (.cells #[.int .u64 0] 23 (0, 0)) := by rw [← hW]; exact heap_alloc_new _ _
  clear q0_0 q0_1 q0_2 q0_3 q0_4 q0_5 q0_6 q0_7 q0_f
  clear q1_0 q1_f
  clear q2_0 q2_f
  clear q3_0 q3_1 q3_f
  clear q4_0 q4_f
  have x0 := X0.out
  clear X0
  have x1 := X1.out
  clear X1
  have x2 := X2.out
  clear X2
  have x3 := X3.out
  clear X3
  have x4 := X4.out
  clear X4
  have x5 := X5.out
  clear X5
  have x0 : U.heap[w.heap.size]? = some (.cells #[.slice ao key.length cap, .int .i64 side, .int .i64 cur, .int .i64 next, .int .u64 send, .int .u64 ceil, .int .i64 sec, .int .i64 nano] 27 (0, 0)) := by rw [← hW]; exact (alloc_old _ _ _ (by omega)).trans x0
  have x1 : U.heap[w.heap.size + 1]? = some (.cells #[.int .i64 g] 3 (0, 0)) := by rw [← hW]; exact (alloc_old _ _ _ (by omega)).trans x1
  have x2 : U.heap[w.heap.size + 2]? = some (.cells #[.int .u64 18446744073709551615] 23 (0, 0)) := by rw [← hW]; exact (alloc_old _ _ _ (by omega)).trans x2
  have x3 : U.heap[w.heap.size + 3]? = some (.cells #[.int .i64 ss, .int .i64 sn] 25 (0, 0)) := by rw [← hW]; exact (alloc_old _ _ _ (by omega)).trans x3
  have x4 : U.heap[w.heap.size + 4]? = some (.cells #[.int .i64 b] 3 (0, 0)) := by rw [← hW]; exact (alloc_old _ _ _ (by omega)).trans x4
  have x5 : U.heap[w.heap.size + 5]? = some (.cells #[.slice none 0 0, .int .i64 0, .int .i64 0, .int .i64 0, .int .u64 0, .int .u64 0, .int .i64 0, .int .i64 0] 27 (0, 0)) := by rw [← hW]; exact (alloc_old _ _ _ (by omega)).trans x5
  have c0 : U.cell? ⟨w1.heap.size, 0, none⟩ = some (.int .u64 0) := cell_of_row U (w1.heap.size) 0 _ _ _ xa
  have r0_0 : U.cell? ⟨w.heap.size, 0, none⟩ = some (.slice ao key.length cap) := cell_of_row U (w.heap.size) 0 _ _ _ x0
  have r0_1 : U.cell? ⟨w.heap.size, 1, none⟩ = some (.int .i64 side) := cell_of_row U (w.heap.size) 1 _ _ _ x0
  have r0_2 : U.cell? ⟨w.heap.size, 2, none⟩ = some (.int .i64 cur) := cell_of_row U (w.heap.size) 2 _ _ _ x0
  have r0_3 : U.cell? ⟨w.heap.size, 3, none⟩ = some (.int .i64 next) := cell_of_row U (w.heap.size) 3 _ _ _ x0
  have r0_4 : U.cell? ⟨w.heap.size, 4, none⟩ = some (.int .u64 send) := cell_of_row U (w.heap.size) 4 _ _ _ x0
  have r0_5 : U.cell? ⟨w.heap.size, 5, none⟩ = some (.int .u64 ceil) := cell_of_row U (w.heap.size) 5 _ _ _ x0
  have r0_6 : U.cell? ⟨w.heap.size, 6, none⟩ = some (.int .i64 sec) := cell_of_row U (w.heap.size) 6 _ _ _ x0
  have r0_7 : U.cell? ⟨w.heap.size, 7, none⟩ = some (.int .i64 nano) := cell_of_row U (w.heap.size) 7 _ _ _ x0
  have r0_f (i : Nat) : U.frozen? ⟨w.heap.size, i, none⟩ = false := frozen_of_row U (w.heap.size) i _ _ x0
  have r1_0 : U.cell? ⟨w.heap.size + 1, 0, none⟩ = some (.int .i64 g) := cell_of_row U (w.heap.size + 1) 0 _ _ _ x1
  have r1_f (i : Nat) : U.frozen? ⟨w.heap.size + 1, i, none⟩ = false := frozen_of_row U (w.heap.size + 1) i _ _ x1
  have r2_0 : U.cell? ⟨w.heap.size + 2, 0, none⟩ = some (.int .u64 18446744073709551615) := cell_of_row U (w.heap.size + 2) 0 _ _ _ x2
  have r2_f (i : Nat) : U.frozen? ⟨w.heap.size + 2, i, none⟩ = false := frozen_of_row U (w.heap.size + 2) i _ _ x2
  have r3_0 : U.cell? ⟨w.heap.size + 3, 0, none⟩ = some (.int .i64 ss) := cell_of_row U (w.heap.size + 3) 0 _ _ _ x3
  have r3_1 : U.cell? ⟨w.heap.size + 3, 1, none⟩ = some (.int .i64 sn) := cell_of_row U (w.heap.size + 3) 1 _ _ _ x3
  have r3_f (i : Nat) : U.frozen? ⟨w.heap.size + 3, i, none⟩ = false := frozen_of_row U (w.heap.size + 3) i _ _ x3
  have r4_0 : U.cell? ⟨w.heap.size + 4, 0, none⟩ = some (.int .i64 b) := cell_of_row U (w.heap.size + 4) 0 _ _ _ x4
  have r4_f (i : Nat) : U.frozen? ⟨w.heap.size + 4, i, none⟩ = false := frozen_of_row U (w.heap.size + 4) i _ _ x4
  have hrW : Rd U.drew ao key := (hr.on hB2 : Rd U ao key)
  have hn1 : w1.heap.size ≠ w.heap.size + 5 := by omega
  have hn2 : w.heap.size ≠ w.heap.size + 5 := by omega
  have X5 := Lib.hid x5
  clear x0 x1 x2 x3 x4 x5 xa hW hB
  go_region_held3 (fun w' => w'.cell? ⟨w1.heap.size, 0, none⟩ = some (.int .u64 0) ∧ w'.cell? ⟨w.heap.size, 0, none⟩ = some (.slice ao key.length cap) ∧ w'.cell? ⟨w.heap.size, 1, none⟩ = some (.int .i64 side) ∧ w'.cell? ⟨w.heap.size, 2, none⟩ = some (.int .i64 cur) ∧ w'.cell? ⟨w.heap.size, 3, none⟩ = some (.int .i64 next) ∧ w'.cell? ⟨w.heap.size, 4, none⟩ = some (.int .u64 send) ∧ w'.cell? ⟨w.heap.size, 5, none⟩ = some (.int .u64 ceil) ∧ w'.cell? ⟨w.heap.size, 6, none⟩ = some (.int .i64 sec) ∧ w'.cell? ⟨w.heap.size, 7, none⟩ = some (.int .i64 nano)) (((try simp only [cell_drew, cell_far _ _ _ _ _ _ hn1, cell_far _ _ _ _ _ _ hn2]); (refine ⟨?_, ?_, ?_, ?_, ?_, ?_, ?_, ?_, ?_⟩ <;> with_reducible assumption))) ((go_at_call 23; refine (laneChanged0 ⟨key, side, cur, next, send, ceil, sec, nano⟩ ao cap false _ U.drew hs (by simp)).mono ?_; rintro e V ⟨he, hb2⟩; obtain rfl : e = .returned (.agg #[.slice none 0 0, .int .i64 0, .int .i64 0, .int .i64 0, .int .u64 0, .int .u64 0, .int .i64 0, .int .i64 0]) := he; have dc0 : V.cell? ⟨w1.heap.size, 0, none⟩ = some (.int .u64 0) := (hb2.cell (by rw [hWs]; show w1.heap.size < _; omega)).trans c0; have dr0_0 : V.cell? ⟨w.heap.size, 0, none⟩ = some (.slice ao key.length cap) := (hb2.cell (by rw [hWs]; show w.heap.size < _; omega)).trans r0_0; have dr0_1 : V.cell? ⟨w.heap.size, 1, none⟩ = some (.int .i64 side) := (hb2.cell (by rw [hWs]; show w.heap.size < _; omega)).trans r0_1; have dr0_2 : V.cell? ⟨w.heap.size, 2, none⟩ = some (.int .i64 cur) := (hb2.cell (by rw [hWs]; show w.heap.size < _; omega)).trans r0_2; have dr0_3 : V.cell? ⟨w.heap.size, 3, none⟩ = some (.int .i64 next) := (hb2.cell (by rw [hWs]; show w.heap.size < _; omega)).trans r0_3; have dr0_4 : V.cell? ⟨w.heap.size, 4, none⟩ = some (.int .u64 send) := (hb2.cell (by rw [hWs]; show w.heap.size < _; omega)).trans r0_4; have dr0_5 : V.cell? ⟨w.heap.size, 5, none⟩ = some (.int .u64 ceil) := (hb2.cell (by rw [hWs]; show w.heap.size < _; omega)).trans r0_5; have dr0_6 : V.cell? ⟨w.heap.size, 6, none⟩ = some (.int .i64 sec) := (hb2.cell (by rw [hWs]; show w.heap.size < _; omega)).trans r0_6; have dr0_7 : V.cell? ⟨w.heap.size, 7, none⟩ = some (.int .i64 nano) := (hb2.cell (by rw [hWs]; show w.heap.size < _; omega)).trans r0_7; have y : V.heap[w.heap.size + 5]? = some (.cells #[.slice none 0 0, .int .i64 0, .int .i64 0, .int .i64 0, .int .u64 0, .int .u64 0, .int .i64 0, .int .i64 0] 27 (0, 0)) := (hb2.block (w.heap.size + 5) (by rw [hWs]; omega)).trans X5.out; have b0 : V.cell? ⟨w.heap.size + 5, 0, none⟩ = some (.slice none 0 0) := cell_of_row V (w.heap.size + 5) 0 _ _ _ y; have b1 : V.cell? ⟨w.heap.size + 5, 1, none⟩ = some (.int .i64 0) := cell_of_row V (w.heap.size + 5) 1 _ _ _ y; have b2 : V.cell? ⟨w.heap.size + 5, 2, none⟩ = some (.int .i64 0) := cell_of_row V (w.heap.size + 5) 2 _ _ _ y; have b3 : V.cell? ⟨w.heap.size + 5, 3, none⟩ = some (.int .i64 0) := cell_of_row V (w.heap.size + 5) 3 _ _ _ y; have b4 : V.cell? ⟨w.heap.size + 5, 4, none⟩ = some (.int .u64 0) := cell_of_row V (w.heap.size + 5) 4 _ _ _ y; have b5 : V.cell? ⟨w.heap.size + 5, 5, none⟩ = some (.int .u64 0) := cell_of_row V (w.heap.size + 5) 5 _ _ _ y; have b6 : V.cell? ⟨w.heap.size + 5, 6, none⟩ = some (.int .i64 0) := cell_of_row V (w.heap.size + 5) 6 _ _ _ y; have b7 : V.cell? ⟨w.heap.size + 5, 7, none⟩ = some (.int .i64 0) := cell_of_row V (w.heap.size + 5) 7 _ _ _ y; have bf (i : Nat) : V.frozen? ⟨w.heap.size + 5, i, none⟩ = false := frozen_of_row V (w.heap.size + 5) i _ _ y; clear y))
  go_wp2_with fail
  refine bodyPost_ret (v := .tuple #[.agg #[.slice none 0 0, .int .i64 0, .int .i64 0, .int .i64 0, .int .u64 0, .int .u64 0, .int .i64 0, .int .i64 0], .int .u64 0]) (by simp [results, Tryz.results8, go_sem, b0, b1, b2, b3, b4, b5, b6, b7]) rfl ⟨_, _, rfl, ?_, ?_⟩
  · exact Or.inl ⟨rfl, rfl, rfl⟩
  · iterate 8 (refine Below.set ?_ _ _ _ (by omega))
    exact hB2.drew.trans (hb2.mono (by rw [hWs]; omega))
set_option maxHeartbeats 4000000 in
theorem laneAnswered_n5 (L : Ln) (ao : Option Addr) (cap : Nat) (g c ss sn b : Int) (_hc0 : 0 ≤ c) (_hc1 : c ≤ 18446744073709551615) (hss : ss ≤ 9223372036854775807) (w : World) (hf : L.fits) (hr : Rd w ao L.key) (hok : L.ok = true) (hbk : blkB b = true) (h1 : L.cur < g) (h2 : g ≤ 2147483647) (h3 : c ≤ 18446744073709551614) (hst : stampB ss sn = false) :
   Calls Tryz.prog 8 #[L.val ao cap, .int .i64 g, .int .u64 c, .agg #[.int .i64 ss, .int .i64 sn], .int .i64 b] w fun e w' => ∃ ao' cap', e = .returned (.tuple #[(answeredL L g c ss sn b).val ao' cap', .int .u64 (atA L g c ss sn b)]) ∧ Mine w' w.heap.size 5 ao' cap' (answeredL L g c ss sn b).key ∧ Below w.heap.size w w' := by
  obtain ⟨hl, hcur0, hcur1, hnext0, hnext1, hsend0, hsend1, hceil0, hceil1, hs⟩ := hf
  obtain ⟨key, side, cur, next, send, ceil, sec, nano⟩ := L
  unfold Ln.val
  simp only at hl hcur0 hcur1 hnext0 hnext1 hsend0 hsend1 hceil0 hceil1 hs hr hok h1 ⊢
  have hma : mayA ⟨key, side, cur, next, send, ceil, sec, nano⟩ g c ss sn b = false := by simp [mayA, hok, hbk, h1, h2, h3, hst]
  have hy : answeredL ⟨key, side, cur, next, send, ceil, sec, nano⟩ g c ss sn b = Ln.zero := by simp [answeredL, hma]
  have ha : atA ⟨key, side, cur, next, send, ceil, sec, nano⟩ g c ss sn b = 0 := by simp [atA, hma]
  rw [hy, ha]
  unfold Ln.zero
  have HOK := Lib.hid hok
  have HBK := Lib.hid hbk
  have HST := Lib.hid hst
  clear hok hy ha hma hbk hst
  go_enter Tryz.func8, Tryz.ntmps8
  go_wp2_with fail
  refine (laneValid ⟨key, side, cur, next, send, ceil, sec, nano⟩ ao cap hs _).mono ?_
  rintro e w1 ⟨rfl, hb⟩
  rw [HOK.out]
  have hz := hb.size
  simp only [alloc_size] at hz
  have hB := (((((((Below.refl _ w).alloc (Nat.le_refl _) _).alloc (by simp only [alloc_size]; omega) _).alloc (by simp only [alloc_size]; omega) _).alloc (by simp only [alloc_size]; omega) _).alloc (by simp only [alloc_size]; omega) _).alloc (by simp only [alloc_size]; omega) _).trans (hb.mono (by simp only [alloc_size]; omega))
  have x0 : w1.heap[w.heap.size]? = some (.cells #[.slice ao key.length cap, .int .i64 side, .int .i64 cur, .int .i64 next, .int .u64 send, .int .u64 ceil, .int .i64 sec, .int .i64 nano] 27 (0, 0)) := (hb_block hb (w.heap.size) (by simp only [alloc_size]; omega)).trans (by simp only [alloc_get, alloc_size]; repeat first | rw [if_pos trivial] | rw [if_neg (by omega)] | rw [if_pos (by omega)])
  have x1 : w1.heap[w.heap.size + 1]? = some (.cells #[.int .i64 g] 3 (0, 0)) := (hb_block hb (w.heap.size + 1) (by simp only [alloc_size]; omega)).trans (by simp only [alloc_get, alloc_size]; repeat first | rw [if_pos trivial] | rw [if_neg (by omega)] | rw [if_pos (by omega)])
  have x2 : w1.heap[w.heap.size + 2]? = some (.cells #[.int .u64 c] 23 (0, 0)) := (hb_block hb (w.heap.size + 2) (by simp only [alloc_size]; omega)).trans (by simp only [alloc_get, alloc_size]; repeat first | rw [if_pos trivial] | rw [if_neg (by omega)] | rw [if_pos (by omega)])
  have x3 : w1.heap[w.heap.size + 3]? = some (.cells #[.int .i64 ss, .int .i64 sn] 25 (0, 0)) := (hb_block hb (w.heap.size + 3) (by simp only [alloc_size]; omega)).trans (by simp only [alloc_get, alloc_size]; repeat first | rw [if_pos trivial] | rw [if_neg (by omega)] | rw [if_pos (by omega)])
  have x4 : w1.heap[w.heap.size + 4]? = some (.cells #[.int .i64 b] 3 (0, 0)) := (hb_block hb (w.heap.size + 4) (by simp only [alloc_size]; omega)).trans (by simp only [alloc_get, alloc_size]; repeat first | rw [if_pos trivial] | rw [if_neg (by omega)] | rw [if_pos (by omega)])
  have x5 : w1.heap[w.heap.size + 5]? = some (.cells #[.slice none 0 0, .int .i64 0, .int .i64 0, .int .i64 0, .int .u64 0, .int .u64 0, .int .i64 0, .int .i64 0] 27 (0, 0)) := (hb_block hb (w.heap.size + 5) (by simp only [alloc_size]; omega)).trans (by simp only [alloc_get, alloc_size]; repeat first | rw [if_pos trivial] | rw [if_neg (by omega)] | rw [if_pos (by omega)])
  clear hb
  have q0_0 : w1.cell? ⟨w.heap.size, 0, none⟩ = some (.slice ao key.length cap) := cell_of_row w1 (w.heap.size) 0 _ _ _ x0
  have q0_1 : w1.cell? ⟨w.heap.size, 1, none⟩ = some (.int .i64 side) := cell_of_row w1 (w.heap.size) 1 _ _ _ x0
  have q0_2 : w1.cell? ⟨w.heap.size, 2, none⟩ = some (.int .i64 cur) := cell_of_row w1 (w.heap.size) 2 _ _ _ x0
  have q0_3 : w1.cell? ⟨w.heap.size, 3, none⟩ = some (.int .i64 next) := cell_of_row w1 (w.heap.size) 3 _ _ _ x0
  have q0_4 : w1.cell? ⟨w.heap.size, 4, none⟩ = some (.int .u64 send) := cell_of_row w1 (w.heap.size) 4 _ _ _ x0
  have q0_5 : w1.cell? ⟨w.heap.size, 5, none⟩ = some (.int .u64 ceil) := cell_of_row w1 (w.heap.size) 5 _ _ _ x0
  have q0_6 : w1.cell? ⟨w.heap.size, 6, none⟩ = some (.int .i64 sec) := cell_of_row w1 (w.heap.size) 6 _ _ _ x0
  have q0_7 : w1.cell? ⟨w.heap.size, 7, none⟩ = some (.int .i64 nano) := cell_of_row w1 (w.heap.size) 7 _ _ _ x0
  have q0_f (i : Nat) : w1.frozen? ⟨w.heap.size, i, none⟩ = false := frozen_of_row w1 (w.heap.size) i _ _ x0
  have q1_0 : w1.cell? ⟨w.heap.size + 1, 0, none⟩ = some (.int .i64 g) := cell_of_row w1 (w.heap.size + 1) 0 _ _ _ x1
  have q1_f (i : Nat) : w1.frozen? ⟨w.heap.size + 1, i, none⟩ = false := frozen_of_row w1 (w.heap.size + 1) i _ _ x1
  have q2_0 : w1.cell? ⟨w.heap.size + 2, 0, none⟩ = some (.int .u64 c) := cell_of_row w1 (w.heap.size + 2) 0 _ _ _ x2
  have q2_f (i : Nat) : w1.frozen? ⟨w.heap.size + 2, i, none⟩ = false := frozen_of_row w1 (w.heap.size + 2) i _ _ x2
  have q3_0 : w1.cell? ⟨w.heap.size + 3, 0, none⟩ = some (.int .i64 ss) := cell_of_row w1 (w.heap.size + 3) 0 _ _ _ x3
  have q3_1 : w1.cell? ⟨w.heap.size + 3, 1, none⟩ = some (.int .i64 sn) := cell_of_row w1 (w.heap.size + 3) 1 _ _ _ x3
  have q3_f (i : Nat) : w1.frozen? ⟨w.heap.size + 3, i, none⟩ = false := frozen_of_row w1 (w.heap.size + 3) i _ _ x3
  have q4_0 : w1.cell? ⟨w.heap.size + 4, 0, none⟩ = some (.int .i64 b) := cell_of_row w1 (w.heap.size + 4) 0 _ _ _ x4
  have q4_f (i : Nat) : w1.frozen? ⟨w.heap.size + 4, i, none⟩ = false := frozen_of_row w1 (w.heap.size + 4) i _ _ x4
  have HX := Lib.hid (show w1.heap[w.heap.size + 5]? = some (.cells #[.slice none 0 0, .int .i64 0, .int .i64 0, .int .i64 0, .int .u64 0, .int .u64 0, .int .i64 0, .int .i64 0] 27 (0, 0)) from x5)
  have X0 := Lib.hid x0
  have X1 := Lib.hid x1
  have X2 := Lib.hid x2
  have X3 := Lib.hid x3
  have X4 := Lib.hid x4
  have X5 := Lib.hid x5
  clear x0 x1 x2 x3 x4 x5
  go_wp2_with fail
  refine (laneBlock b _).mono ?_
  rintro e w2 ⟨rfl, hw⟩
  obtain rfl := hw.symm
  rw [HBK.out]
  go_wp2_with fail
  refine (stampValid ss sn hss _).mono ?_
  rintro e w2 ⟨rfl, hb⟩
  rw [HST.out]
  clear q0_0 q0_1 q0_2 q0_3 q0_4 q0_5 q0_6 q0_7 q0_f
  clear q1_0 q1_f
  clear q2_0 q2_f
  clear q3_0 q3_1 q3_f
  clear q4_0 q4_f
  have x0 := X0.out
  clear X0
  have x1 := X1.out
  clear X1
  have x2 := X2.out
  clear X2
  have x3 := X3.out
  clear X3
  have x4 := X4.out
  clear X4
  have x5 := X5.out
  clear X5
  have x0 : w2.heap[w.heap.size]? = some (.cells #[.slice ao key.length cap, .int .i64 side, .int .i64 cur, .int .i64 next, .int .u64 send, .int .u64 ceil, .int .i64 sec, .int .i64 nano] 27 (0, 0)) := (hb.block (w.heap.size) (by omega)).trans x0
  have x1 : w2.heap[w.heap.size + 1]? = some (.cells #[.int .i64 g] 3 (0, 0)) := (hb.block (w.heap.size + 1) (by omega)).trans x1
  have x2 : w2.heap[w.heap.size + 2]? = some (.cells #[.int .u64 c] 23 (0, 0)) := (hb.block (w.heap.size + 2) (by omega)).trans x2
  have x3 : w2.heap[w.heap.size + 3]? = some (.cells #[.int .i64 ss, .int .i64 sn] 25 (0, 0)) := (hb.block (w.heap.size + 3) (by omega)).trans x3
  have x4 : w2.heap[w.heap.size + 4]? = some (.cells #[.int .i64 b] 3 (0, 0)) := (hb.block (w.heap.size + 4) (by omega)).trans x4
  have x5 : w2.heap[w.heap.size + 5]? = some (.cells #[.slice none 0 0, .int .i64 0, .int .i64 0, .int .i64 0, .int .u64 0, .int .u64 0, .int .i64 0, .int .i64 0] 27 (0, 0)) := (hb.block (w.heap.size + 5) (by omega)).trans x5
  have hz2 := hb.size
  have hB := hB.trans (hb.mono (by omega))
  clear hb HX
  have q0_0 : w2.cell? ⟨w.heap.size, 0, none⟩ = some (.slice ao key.length cap) := cell_of_row w2 (w.heap.size) 0 _ _ _ x0
  have q0_1 : w2.cell? ⟨w.heap.size, 1, none⟩ = some (.int .i64 side) := cell_of_row w2 (w.heap.size) 1 _ _ _ x0
  have q0_2 : w2.cell? ⟨w.heap.size, 2, none⟩ = some (.int .i64 cur) := cell_of_row w2 (w.heap.size) 2 _ _ _ x0
  have q0_3 : w2.cell? ⟨w.heap.size, 3, none⟩ = some (.int .i64 next) := cell_of_row w2 (w.heap.size) 3 _ _ _ x0
  have q0_4 : w2.cell? ⟨w.heap.size, 4, none⟩ = some (.int .u64 send) := cell_of_row w2 (w.heap.size) 4 _ _ _ x0
  have q0_5 : w2.cell? ⟨w.heap.size, 5, none⟩ = some (.int .u64 ceil) := cell_of_row w2 (w.heap.size) 5 _ _ _ x0
  have q0_6 : w2.cell? ⟨w.heap.size, 6, none⟩ = some (.int .i64 sec) := cell_of_row w2 (w.heap.size) 6 _ _ _ x0
  have q0_7 : w2.cell? ⟨w.heap.size, 7, none⟩ = some (.int .i64 nano) := cell_of_row w2 (w.heap.size) 7 _ _ _ x0
  have q0_f (i : Nat) : w2.frozen? ⟨w.heap.size, i, none⟩ = false := frozen_of_row w2 (w.heap.size) i _ _ x0
  have q1_0 : w2.cell? ⟨w.heap.size + 1, 0, none⟩ = some (.int .i64 g) := cell_of_row w2 (w.heap.size + 1) 0 _ _ _ x1
  have q1_f (i : Nat) : w2.frozen? ⟨w.heap.size + 1, i, none⟩ = false := frozen_of_row w2 (w.heap.size + 1) i _ _ x1
  have q2_0 : w2.cell? ⟨w.heap.size + 2, 0, none⟩ = some (.int .u64 c) := cell_of_row w2 (w.heap.size + 2) 0 _ _ _ x2
  have q2_f (i : Nat) : w2.frozen? ⟨w.heap.size + 2, i, none⟩ = false := frozen_of_row w2 (w.heap.size + 2) i _ _ x2
  have q3_0 : w2.cell? ⟨w.heap.size + 3, 0, none⟩ = some (.int .i64 ss) := cell_of_row w2 (w.heap.size + 3) 0 _ _ _ x3
  have q3_1 : w2.cell? ⟨w.heap.size + 3, 1, none⟩ = some (.int .i64 sn) := cell_of_row w2 (w.heap.size + 3) 1 _ _ _ x3
  have q3_f (i : Nat) : w2.frozen? ⟨w.heap.size + 3, i, none⟩ = false := frozen_of_row w2 (w.heap.size + 3) i _ _ x3
  have q4_0 : w2.cell? ⟨w.heap.size + 4, 0, none⟩ = some (.int .i64 b) := cell_of_row w2 (w.heap.size + 4) 0 _ _ _ x4
  have q4_f (i : Nat) : w2.frozen? ⟨w.heap.size + 4, i, none⟩ = false := frozen_of_row w2 (w.heap.size + 4) i _ _ x4
  have X0 := Lib.hid x0
  have X1 := Lib.hid x1
  have X2 := Lib.hid x2
  have X3 := Lib.hid x3
  have X4 := Lib.hid x4
  have X5 := Lib.hid x5
  clear x0 x1 x2 x3 x4 x5
  go_wp2_with fail
  generalize hW : w2.alloc (Obj.cells #[.int .u64 0] 23 (0, 0)) = U
  have hzW : w.heap.size + 6 ≤ w2.heap.size := by omega
  have hB2 := hB.alloc (B := w.heap.size) (by omega) (Obj.cells #[.int .u64 0] 23 (0, 0))
  rw [hW] at hB2
  have hWs : U.drew.heap.size = w2.heap.size + 1 := by rw [← hW]; exact alloc_size _ _
  have xa : U.heap[w2.heap.size]? = some (.cells #[.int .u64 0] 23 (0, 0)) := by rw [← hW]; exact heap_alloc_new _ _
  clear q0_0 q0_1 q0_2 q0_3 q0_4 q0_5 q0_6 q0_7 q0_f
  clear q1_0 q1_f
  clear q2_0 q2_f
  clear q3_0 q3_1 q3_f
  clear q4_0 q4_f
  have x0 := X0.out
  clear X0
  have x1 := X1.out
  clear X1
  have x2 := X2.out
  clear X2
  have x3 := X3.out
  clear X3
  have x4 := X4.out
  clear X4
  have x5 := X5.out
  clear X5
  have x0 : U.heap[w.heap.size]? = some (.cells #[.slice ao key.length cap, .int .i64 side, .int .i64 cur, .int .i64 next, .int .u64 send, .int .u64 ceil, .int .i64 sec, .int .i64 nano] 27 (0, 0)) := by rw [← hW]; exact (alloc_old _ _ _ (by omega)).trans x0
  have x1 : U.heap[w.heap.size + 1]? = some (.cells #[.int .i64 g] 3 (0, 0)) := by rw [← hW]; exact (alloc_old _ _ _ (by omega)).trans x1
  have x2 : U.heap[w.heap.size + 2]? = some (.cells #[.int .u64 c] 23 (0, 0)) := by rw [← hW]; exact (alloc_old _ _ _ (by omega)).trans x2
  have x3 : U.heap[w.heap.size + 3]? = some (.cells #[.int .i64 ss, .int .i64 sn] 25 (0, 0)) := by rw [← hW]; exact (alloc_old _ _ _ (by omega)).trans x3
  have x4 : U.heap[w.heap.size + 4]? = some (.cells #[.int .i64 b] 3 (0, 0)) := by rw [← hW]; exact (alloc_old _ _ _ (by omega)).trans x4
  have x5 : U.heap[w.heap.size + 5]? = some (.cells #[.slice none 0 0, .int .i64 0, .int .i64 0, .int .i64 0, .int .u64 0, .int .u64 0, .int .i64 0, .int .i64 0] 27 (0, 0)) := by rw [← hW]; exact (alloc_old _ _ _ (by omega)).trans x5
  have c0 : U.cell? ⟨w2.heap.size, 0, none⟩ = some (.int .u64 0) := cell_of_row U (w2.heap.size) 0 _ _ _ xa
  have r0_0 : U.cell? ⟨w.heap.size, 0, none⟩ = some (.slice ao key.length cap) := cell_of_row U (w.heap.size) 0 _ _ _ x0
  have r0_1 : U.cell? ⟨w.heap.size, 1, none⟩ = some (.int .i64 side) := cell_of_row U (w.heap.size) 1 _ _ _ x0
  have r0_2 : U.cell? ⟨w.heap.size, 2, none⟩ = some (.int .i64 cur) := cell_of_row U (w.heap.size) 2 _ _ _ x0
  have r0_3 : U.cell? ⟨w.heap.size, 3, none⟩ = some (.int .i64 next) := cell_of_row U (w.heap.size) 3 _ _ _ x0
  have r0_4 : U.cell? ⟨w.heap.size, 4, none⟩ = some (.int .u64 send) := cell_of_row U (w.heap.size) 4 _ _ _ x0
  have r0_5 : U.cell? ⟨w.heap.size, 5, none⟩ = some (.int .u64 ceil) := cell_of_row U (w.heap.size) 5 _ _ _ x0
  have r0_6 : U.cell? ⟨w.heap.size, 6, none⟩ = some (.int .i64 sec) := cell_of_row U (w.heap.size) 6 _ _ _ x0
  have r0_7 : U.cell? ⟨w.heap.size, 7, none⟩ = some (.int .i64 nano) := cell_of_row U (w.heap.size) 7 _ _ _ x0
  have r0_f (i : Nat) : U.frozen? ⟨w.heap.size, i, none⟩ = false := frozen_of_row U (w.heap.size) i _ _ x0
  have r1_0 : U.cell? ⟨w.heap.size + 1, 0, none⟩ = some (.int .i64 g) := cell_of_row U (w.heap.size + 1) 0 _ _ _ x1
  have r1_f (i : Nat) : U.frozen? ⟨w.heap.size + 1, i, none⟩ = false := frozen_of_row U (w.heap.size + 1) i _ _ x1
  have r2_0 : U.cell? ⟨w.heap.size + 2, 0, none⟩ = some (.int .u64 c) := cell_of_row U (w.heap.size + 2) 0 _ _ _ x2
  have r2_f (i : Nat) : U.frozen? ⟨w.heap.size + 2, i, none⟩ = false := frozen_of_row U (w.heap.size + 2) i _ _ x2
  have r3_0 : U.cell? ⟨w.heap.size + 3, 0, none⟩ = some (.int .i64 ss) := cell_of_row U (w.heap.size + 3) 0 _ _ _ x3
  have r3_1 : U.cell? ⟨w.heap.size + 3, 1, none⟩ = some (.int .i64 sn) := cell_of_row U (w.heap.size + 3) 1 _ _ _ x3
  have r3_f (i : Nat) : U.frozen? ⟨w.heap.size + 3, i, none⟩ = false := frozen_of_row U (w.heap.size + 3) i _ _ x3
  have r4_0 : U.cell? ⟨w.heap.size + 4, 0, none⟩ = some (.int .i64 b) := cell_of_row U (w.heap.size + 4) 0 _ _ _ x4
  have r4_f (i : Nat) : U.frozen? ⟨w.heap.size + 4, i, none⟩ = false := frozen_of_row U (w.heap.size + 4) i _ _ x4
  have hrW : Rd U.drew ao key := (hr.on hB2 : Rd U ao key)
  have hn1 : w2.heap.size ≠ w.heap.size + 5 := by omega
  have hn2 : w.heap.size ≠ w.heap.size + 5 := by omega
  have X5 := Lib.hid x5
  clear x0 x1 x2 x3 x4 x5 xa hW hB
  go_region_held3 (fun w' => w'.cell? ⟨w2.heap.size, 0, none⟩ = some (.int .u64 0) ∧ w'.cell? ⟨w.heap.size, 0, none⟩ = some (.slice ao key.length cap) ∧ w'.cell? ⟨w.heap.size, 1, none⟩ = some (.int .i64 side) ∧ w'.cell? ⟨w.heap.size, 2, none⟩ = some (.int .i64 cur) ∧ w'.cell? ⟨w.heap.size, 3, none⟩ = some (.int .i64 next) ∧ w'.cell? ⟨w.heap.size, 4, none⟩ = some (.int .u64 send) ∧ w'.cell? ⟨w.heap.size, 5, none⟩ = some (.int .u64 ceil) ∧ w'.cell? ⟨w.heap.size, 6, none⟩ = some (.int .i64 sec) ∧ w'.cell? ⟨w.heap.size, 7, none⟩ = some (.int .i64 nano)) (((try simp only [cell_drew, cell_far _ _ _ _ _ _ hn1, cell_far _ _ _ _ _ _ hn2]); (refine ⟨?_, ?_, ?_, ?_, ?_, ?_, ?_, ?_, ?_⟩ <;> with_reducible assumption))) ((go_at_call 23; refine (laneChanged0 ⟨key, side, cur, next, send, ceil, sec, nano⟩ ao cap false _ U.drew hs (by simp)).mono ?_; rintro e V ⟨he, hb2⟩; obtain rfl : e = .returned (.agg #[.slice none 0 0, .int .i64 0, .int .i64 0, .int .i64 0, .int .u64 0, .int .u64 0, .int .i64 0, .int .i64 0]) := he; have dc0 : V.cell? ⟨w2.heap.size, 0, none⟩ = some (.int .u64 0) := (hb2.cell (by rw [hWs]; show w2.heap.size < _; omega)).trans c0; have dr0_0 : V.cell? ⟨w.heap.size, 0, none⟩ = some (.slice ao key.length cap) := (hb2.cell (by rw [hWs]; show w.heap.size < _; omega)).trans r0_0; have dr0_1 : V.cell? ⟨w.heap.size, 1, none⟩ = some (.int .i64 side) := (hb2.cell (by rw [hWs]; show w.heap.size < _; omega)).trans r0_1; have dr0_2 : V.cell? ⟨w.heap.size, 2, none⟩ = some (.int .i64 cur) := (hb2.cell (by rw [hWs]; show w.heap.size < _; omega)).trans r0_2; have dr0_3 : V.cell? ⟨w.heap.size, 3, none⟩ = some (.int .i64 next) := (hb2.cell (by rw [hWs]; show w.heap.size < _; omega)).trans r0_3; have dr0_4 : V.cell? ⟨w.heap.size, 4, none⟩ = some (.int .u64 send) := (hb2.cell (by rw [hWs]; show w.heap.size < _; omega)).trans r0_4; have dr0_5 : V.cell? ⟨w.heap.size, 5, none⟩ = some (.int .u64 ceil) := (hb2.cell (by rw [hWs]; show w.heap.size < _; omega)).trans r0_5; have dr0_6 : V.cell? ⟨w.heap.size, 6, none⟩ = some (.int .i64 sec) := (hb2.cell (by rw [hWs]; show w.heap.size < _; omega)).trans r0_6; have dr0_7 : V.cell? ⟨w.heap.size, 7, none⟩ = some (.int .i64 nano) := (hb2.cell (by rw [hWs]; show w.heap.size < _; omega)).trans r0_7; have y : V.heap[w.heap.size + 5]? = some (.cells #[.slice none 0 0, .int .i64 0, .int .i64 0, .int .i64 0, .int .u64 0, .int .u64 0, .int .i64 0, .int .i64 0] 27 (0, 0)) := (hb2.block (w.heap.size + 5) (by rw [hWs]; omega)).trans X5.out; have b0 : V.cell? ⟨w.heap.size + 5, 0, none⟩ = some (.slice none 0 0) := cell_of_row V (w.heap.size + 5) 0 _ _ _ y; have b1 : V.cell? ⟨w.heap.size + 5, 1, none⟩ = some (.int .i64 0) := cell_of_row V (w.heap.size + 5) 1 _ _ _ y; have b2 : V.cell? ⟨w.heap.size + 5, 2, none⟩ = some (.int .i64 0) := cell_of_row V (w.heap.size + 5) 2 _ _ _ y; have b3 : V.cell? ⟨w.heap.size + 5, 3, none⟩ = some (.int .i64 0) := cell_of_row V (w.heap.size + 5) 3 _ _ _ y; have b4 : V.cell? ⟨w.heap.size + 5, 4, none⟩ = some (.int .u64 0) := cell_of_row V (w.heap.size + 5) 4 _ _ _ y; have b5 : V.cell? ⟨w.heap.size + 5, 5, none⟩ = some (.int .u64 0) := cell_of_row V (w.heap.size + 5) 5 _ _ _ y; have b6 : V.cell? ⟨w.heap.size + 5, 6, none⟩ = some (.int .i64 0) := cell_of_row V (w.heap.size + 5) 6 _ _ _ y; have b7 : V.cell? ⟨w.heap.size + 5, 7, none⟩ = some (.int .i64 0) := cell_of_row V (w.heap.size + 5) 7 _ _ _ y; have bf (i : Nat) : V.frozen? ⟨w.heap.size + 5, i, none⟩ = false := frozen_of_row V (w.heap.size + 5) i _ _ y; clear y))
  go_wp2_with fail
  refine bodyPost_ret (v := .tuple #[.agg #[.slice none 0 0, .int .i64 0, .int .i64 0, .int .i64 0, .int .u64 0, .int .u64 0, .int .i64 0, .int .i64 0], .int .u64 0]) (by simp [results, Tryz.results8, go_sem, b0, b1, b2, b3, b4, b5, b6, b7]) rfl ⟨_, _, rfl, ?_, ?_⟩
  · exact Or.inl ⟨rfl, rfl, rfl⟩
  · iterate 8 (refine Below.set ?_ _ _ _ (by omega))
    exact hB2.drew.trans (hb2.mono (by rw [hWs]; omega))
set_option maxHeartbeats 4000000 in
theorem laneAnswered_n6 (L : Ln) (ao : Option Addr) (cap : Nat) (g c ss sn b : Int) (_hc0 : 0 ≤ c) (_hc1 : c ≤ 18446744073709551615) (hss : ss ≤ 9223372036854775807) (w : World) (hf : L.fits) (hr : Rd w ao L.key) (hok : L.ok = true) (hbk : blkB b = true) (h1 : L.cur < g) (h2 : g ≤ 2147483647) (h3 : c ≤ 18446744073709551614) (hst : stampB ss sn = true) (hls : lessB L.sec L.nano ss sn = false) :
   Calls Tryz.prog 8 #[L.val ao cap, .int .i64 g, .int .u64 c, .agg #[.int .i64 ss, .int .i64 sn], .int .i64 b] w fun e w' => ∃ ao' cap', e = .returned (.tuple #[(answeredL L g c ss sn b).val ao' cap', .int .u64 (atA L g c ss sn b)]) ∧ Mine w' w.heap.size 5 ao' cap' (answeredL L g c ss sn b).key ∧ Below w.heap.size w w' := by
  obtain ⟨hl, hcur0, hcur1, hnext0, hnext1, hsend0, hsend1, hceil0, hceil1, hs⟩ := hf
  obtain ⟨key, side, cur, next, send, ceil, sec, nano⟩ := L
  unfold Ln.val
  simp only at hl hcur0 hcur1 hnext0 hnext1 hsend0 hsend1 hceil0 hceil1 hs hr hok h1 hls ⊢
  have hma : mayA ⟨key, side, cur, next, send, ceil, sec, nano⟩ g c ss sn b = false := by simp [mayA, hok, hbk, h1, h2, h3, hst, hls]
  have hy : answeredL ⟨key, side, cur, next, send, ceil, sec, nano⟩ g c ss sn b = Ln.zero := by simp [answeredL, hma]
  have ha : atA ⟨key, side, cur, next, send, ceil, sec, nano⟩ g c ss sn b = 0 := by simp [atA, hma]
  rw [hy, ha]
  unfold Ln.zero
  have HOK := Lib.hid hok
  have HBK := Lib.hid hbk
  have HST := Lib.hid hst
  have HLS := Lib.hid hls
  clear hok hy ha hma hbk hst hls
  go_enter Tryz.func8, Tryz.ntmps8
  go_wp2_with fail
  refine (laneValid ⟨key, side, cur, next, send, ceil, sec, nano⟩ ao cap hs _).mono ?_
  rintro e w1 ⟨rfl, hb⟩
  rw [HOK.out]
  have hz := hb.size
  simp only [alloc_size] at hz
  have hB := (((((((Below.refl _ w).alloc (Nat.le_refl _) _).alloc (by simp only [alloc_size]; omega) _).alloc (by simp only [alloc_size]; omega) _).alloc (by simp only [alloc_size]; omega) _).alloc (by simp only [alloc_size]; omega) _).alloc (by simp only [alloc_size]; omega) _).trans (hb.mono (by simp only [alloc_size]; omega))
  have x0 : w1.heap[w.heap.size]? = some (.cells #[.slice ao key.length cap, .int .i64 side, .int .i64 cur, .int .i64 next, .int .u64 send, .int .u64 ceil, .int .i64 sec, .int .i64 nano] 27 (0, 0)) := (hb_block hb (w.heap.size) (by simp only [alloc_size]; omega)).trans (by simp only [alloc_get, alloc_size]; repeat first | rw [if_pos trivial] | rw [if_neg (by omega)] | rw [if_pos (by omega)])
  have x1 : w1.heap[w.heap.size + 1]? = some (.cells #[.int .i64 g] 3 (0, 0)) := (hb_block hb (w.heap.size + 1) (by simp only [alloc_size]; omega)).trans (by simp only [alloc_get, alloc_size]; repeat first | rw [if_pos trivial] | rw [if_neg (by omega)] | rw [if_pos (by omega)])
  have x2 : w1.heap[w.heap.size + 2]? = some (.cells #[.int .u64 c] 23 (0, 0)) := (hb_block hb (w.heap.size + 2) (by simp only [alloc_size]; omega)).trans (by simp only [alloc_get, alloc_size]; repeat first | rw [if_pos trivial] | rw [if_neg (by omega)] | rw [if_pos (by omega)])
  have x3 : w1.heap[w.heap.size + 3]? = some (.cells #[.int .i64 ss, .int .i64 sn] 25 (0, 0)) := (hb_block hb (w.heap.size + 3) (by simp only [alloc_size]; omega)).trans (by simp only [alloc_get, alloc_size]; repeat first | rw [if_pos trivial] | rw [if_neg (by omega)] | rw [if_pos (by omega)])
  have x4 : w1.heap[w.heap.size + 4]? = some (.cells #[.int .i64 b] 3 (0, 0)) := (hb_block hb (w.heap.size + 4) (by simp only [alloc_size]; omega)).trans (by simp only [alloc_get, alloc_size]; repeat first | rw [if_pos trivial] | rw [if_neg (by omega)] | rw [if_pos (by omega)])
  have x5 : w1.heap[w.heap.size + 5]? = some (.cells #[.slice none 0 0, .int .i64 0, .int .i64 0, .int .i64 0, .int .u64 0, .int .u64 0, .int .i64 0, .int .i64 0] 27 (0, 0)) := (hb_block hb (w.heap.size + 5) (by simp only [alloc_size]; omega)).trans (by simp only [alloc_get, alloc_size]; repeat first | rw [if_pos trivial] | rw [if_neg (by omega)] | rw [if_pos (by omega)])
  clear hb
  have q0_0 : w1.cell? ⟨w.heap.size, 0, none⟩ = some (.slice ao key.length cap) := cell_of_row w1 (w.heap.size) 0 _ _ _ x0
  have q0_1 : w1.cell? ⟨w.heap.size, 1, none⟩ = some (.int .i64 side) := cell_of_row w1 (w.heap.size) 1 _ _ _ x0
  have q0_2 : w1.cell? ⟨w.heap.size, 2, none⟩ = some (.int .i64 cur) := cell_of_row w1 (w.heap.size) 2 _ _ _ x0
  have q0_3 : w1.cell? ⟨w.heap.size, 3, none⟩ = some (.int .i64 next) := cell_of_row w1 (w.heap.size) 3 _ _ _ x0
  have q0_4 : w1.cell? ⟨w.heap.size, 4, none⟩ = some (.int .u64 send) := cell_of_row w1 (w.heap.size) 4 _ _ _ x0
  have q0_5 : w1.cell? ⟨w.heap.size, 5, none⟩ = some (.int .u64 ceil) := cell_of_row w1 (w.heap.size) 5 _ _ _ x0
  have q0_6 : w1.cell? ⟨w.heap.size, 6, none⟩ = some (.int .i64 sec) := cell_of_row w1 (w.heap.size) 6 _ _ _ x0
  have q0_7 : w1.cell? ⟨w.heap.size, 7, none⟩ = some (.int .i64 nano) := cell_of_row w1 (w.heap.size) 7 _ _ _ x0
  have q0_f (i : Nat) : w1.frozen? ⟨w.heap.size, i, none⟩ = false := frozen_of_row w1 (w.heap.size) i _ _ x0
  have q1_0 : w1.cell? ⟨w.heap.size + 1, 0, none⟩ = some (.int .i64 g) := cell_of_row w1 (w.heap.size + 1) 0 _ _ _ x1
  have q1_f (i : Nat) : w1.frozen? ⟨w.heap.size + 1, i, none⟩ = false := frozen_of_row w1 (w.heap.size + 1) i _ _ x1
  have q2_0 : w1.cell? ⟨w.heap.size + 2, 0, none⟩ = some (.int .u64 c) := cell_of_row w1 (w.heap.size + 2) 0 _ _ _ x2
  have q2_f (i : Nat) : w1.frozen? ⟨w.heap.size + 2, i, none⟩ = false := frozen_of_row w1 (w.heap.size + 2) i _ _ x2
  have q3_0 : w1.cell? ⟨w.heap.size + 3, 0, none⟩ = some (.int .i64 ss) := cell_of_row w1 (w.heap.size + 3) 0 _ _ _ x3
  have q3_1 : w1.cell? ⟨w.heap.size + 3, 1, none⟩ = some (.int .i64 sn) := cell_of_row w1 (w.heap.size + 3) 1 _ _ _ x3
  have q3_f (i : Nat) : w1.frozen? ⟨w.heap.size + 3, i, none⟩ = false := frozen_of_row w1 (w.heap.size + 3) i _ _ x3
  have q4_0 : w1.cell? ⟨w.heap.size + 4, 0, none⟩ = some (.int .i64 b) := cell_of_row w1 (w.heap.size + 4) 0 _ _ _ x4
  have q4_f (i : Nat) : w1.frozen? ⟨w.heap.size + 4, i, none⟩ = false := frozen_of_row w1 (w.heap.size + 4) i _ _ x4
  have HX := Lib.hid (show w1.heap[w.heap.size + 5]? = some (.cells #[.slice none 0 0, .int .i64 0, .int .i64 0, .int .i64 0, .int .u64 0, .int .u64 0, .int .i64 0, .int .i64 0] 27 (0, 0)) from x5)
  have X0 := Lib.hid x0
  have X1 := Lib.hid x1
  have X2 := Lib.hid x2
  have X3 := Lib.hid x3
  have X4 := Lib.hid x4
  have X5 := Lib.hid x5
  clear x0 x1 x2 x3 x4 x5
  go_wp2_with fail
  refine (laneBlock b _).mono ?_
  rintro e w2 ⟨rfl, hw⟩
  obtain rfl := hw.symm
  rw [HBK.out]
  go_wp2_with fail
  refine (stampValid ss sn hss _).mono ?_
  rintro e w2 ⟨rfl, hb⟩
  rw [HST.out]
  clear q0_0 q0_1 q0_2 q0_3 q0_4 q0_5 q0_6 q0_7 q0_f
  clear q1_0 q1_f
  clear q2_0 q2_f
  clear q3_0 q3_1 q3_f
  clear q4_0 q4_f
  have x0 := X0.out
  clear X0
  have x1 := X1.out
  clear X1
  have x2 := X2.out
  clear X2
  have x3 := X3.out
  clear X3
  have x4 := X4.out
  clear X4
  have x5 := X5.out
  clear X5
  have x0 : w2.heap[w.heap.size]? = some (.cells #[.slice ao key.length cap, .int .i64 side, .int .i64 cur, .int .i64 next, .int .u64 send, .int .u64 ceil, .int .i64 sec, .int .i64 nano] 27 (0, 0)) := (hb.block (w.heap.size) (by omega)).trans x0
  have x1 : w2.heap[w.heap.size + 1]? = some (.cells #[.int .i64 g] 3 (0, 0)) := (hb.block (w.heap.size + 1) (by omega)).trans x1
  have x2 : w2.heap[w.heap.size + 2]? = some (.cells #[.int .u64 c] 23 (0, 0)) := (hb.block (w.heap.size + 2) (by omega)).trans x2
  have x3 : w2.heap[w.heap.size + 3]? = some (.cells #[.int .i64 ss, .int .i64 sn] 25 (0, 0)) := (hb.block (w.heap.size + 3) (by omega)).trans x3
  have x4 : w2.heap[w.heap.size + 4]? = some (.cells #[.int .i64 b] 3 (0, 0)) := (hb.block (w.heap.size + 4) (by omega)).trans x4
  have x5 : w2.heap[w.heap.size + 5]? = some (.cells #[.slice none 0 0, .int .i64 0, .int .i64 0, .int .i64 0, .int .u64 0, .int .u64 0, .int .i64 0, .int .i64 0] 27 (0, 0)) := (hb.block (w.heap.size + 5) (by omega)).trans x5
  have hz2 := hb.size
  have hB := hB.trans (hb.mono (by omega))
  clear hb HX
  have q0_0 : w2.cell? ⟨w.heap.size, 0, none⟩ = some (.slice ao key.length cap) := cell_of_row w2 (w.heap.size) 0 _ _ _ x0
  have q0_1 : w2.cell? ⟨w.heap.size, 1, none⟩ = some (.int .i64 side) := cell_of_row w2 (w.heap.size) 1 _ _ _ x0
  have q0_2 : w2.cell? ⟨w.heap.size, 2, none⟩ = some (.int .i64 cur) := cell_of_row w2 (w.heap.size) 2 _ _ _ x0
  have q0_3 : w2.cell? ⟨w.heap.size, 3, none⟩ = some (.int .i64 next) := cell_of_row w2 (w.heap.size) 3 _ _ _ x0
  have q0_4 : w2.cell? ⟨w.heap.size, 4, none⟩ = some (.int .u64 send) := cell_of_row w2 (w.heap.size) 4 _ _ _ x0
  have q0_5 : w2.cell? ⟨w.heap.size, 5, none⟩ = some (.int .u64 ceil) := cell_of_row w2 (w.heap.size) 5 _ _ _ x0
  have q0_6 : w2.cell? ⟨w.heap.size, 6, none⟩ = some (.int .i64 sec) := cell_of_row w2 (w.heap.size) 6 _ _ _ x0
  have q0_7 : w2.cell? ⟨w.heap.size, 7, none⟩ = some (.int .i64 nano) := cell_of_row w2 (w.heap.size) 7 _ _ _ x0
  have q0_f (i : Nat) : w2.frozen? ⟨w.heap.size, i, none⟩ = false := frozen_of_row w2 (w.heap.size) i _ _ x0
  have q1_0 : w2.cell? ⟨w.heap.size + 1, 0, none⟩ = some (.int .i64 g) := cell_of_row w2 (w.heap.size + 1) 0 _ _ _ x1
  have q1_f (i : Nat) : w2.frozen? ⟨w.heap.size + 1, i, none⟩ = false := frozen_of_row w2 (w.heap.size + 1) i _ _ x1
  have q2_0 : w2.cell? ⟨w.heap.size + 2, 0, none⟩ = some (.int .u64 c) := cell_of_row w2 (w.heap.size + 2) 0 _ _ _ x2
  have q2_f (i : Nat) : w2.frozen? ⟨w.heap.size + 2, i, none⟩ = false := frozen_of_row w2 (w.heap.size + 2) i _ _ x2
  have q3_0 : w2.cell? ⟨w.heap.size + 3, 0, none⟩ = some (.int .i64 ss) := cell_of_row w2 (w.heap.size + 3) 0 _ _ _ x3
  have q3_1 : w2.cell? ⟨w.heap.size + 3, 1, none⟩ = some (.int .i64 sn) := cell_of_row w2 (w.heap.size + 3) 1 _ _ _ x3
  have q3_f (i : Nat) : w2.frozen? ⟨w.heap.size + 3, i, none⟩ = false := frozen_of_row w2 (w.heap.size + 3) i _ _ x3
  have q4_0 : w2.cell? ⟨w.heap.size + 4, 0, none⟩ = some (.int .i64 b) := cell_of_row w2 (w.heap.size + 4) 0 _ _ _ x4
  have q4_f (i : Nat) : w2.frozen? ⟨w.heap.size + 4, i, none⟩ = false := frozen_of_row w2 (w.heap.size + 4) i _ _ x4
  have X0 := Lib.hid x0
  have X1 := Lib.hid x1
  have X2 := Lib.hid x2
  have X3 := Lib.hid x3
  have X4 := Lib.hid x4
  have X5 := Lib.hid x5
  clear x0 x1 x2 x3 x4 x5
  go_wp2_with fail
  refine (stampLess sec nano ss sn _).mono ?_
  rintro e w3 ⟨rfl, hb⟩
  rw [HLS.out]
  clear q0_0 q0_1 q0_2 q0_3 q0_4 q0_5 q0_6 q0_7 q0_f
  clear q1_0 q1_f
  clear q2_0 q2_f
  clear q3_0 q3_1 q3_f
  clear q4_0 q4_f
  have x0 := X0.out
  clear X0
  have x1 := X1.out
  clear X1
  have x2 := X2.out
  clear X2
  have x3 := X3.out
  clear X3
  have x4 := X4.out
  clear X4
  have x5 := X5.out
  clear X5
  have x0 : w3.heap[w.heap.size]? = some (.cells #[.slice ao key.length cap, .int .i64 side, .int .i64 cur, .int .i64 next, .int .u64 send, .int .u64 ceil, .int .i64 sec, .int .i64 nano] 27 (0, 0)) := (hb.block (w.heap.size) (by omega)).trans x0
  have x1 : w3.heap[w.heap.size + 1]? = some (.cells #[.int .i64 g] 3 (0, 0)) := (hb.block (w.heap.size + 1) (by omega)).trans x1
  have x2 : w3.heap[w.heap.size + 2]? = some (.cells #[.int .u64 c] 23 (0, 0)) := (hb.block (w.heap.size + 2) (by omega)).trans x2
  have x3 : w3.heap[w.heap.size + 3]? = some (.cells #[.int .i64 ss, .int .i64 sn] 25 (0, 0)) := (hb.block (w.heap.size + 3) (by omega)).trans x3
  have x4 : w3.heap[w.heap.size + 4]? = some (.cells #[.int .i64 b] 3 (0, 0)) := (hb.block (w.heap.size + 4) (by omega)).trans x4
  have x5 : w3.heap[w.heap.size + 5]? = some (.cells #[.slice none 0 0, .int .i64 0, .int .i64 0, .int .i64 0, .int .u64 0, .int .u64 0, .int .i64 0, .int .i64 0] 27 (0, 0)) := (hb.block (w.heap.size + 5) (by omega)).trans x5
  have hz3 := hb.size
  have hB := hB.trans (hb.mono (by omega))
  clear hb
  have hlt0 : w.heap.size < w3.heap.size := by omega
  have hlt1 : w.heap.size + 1 < w3.heap.size := by omega
  have q0_0 : w3.cell? ⟨w.heap.size, 0, none⟩ = some (.slice ao key.length cap) := cell_of_row w3 (w.heap.size) 0 _ _ _ x0
  have q0_1 : w3.cell? ⟨w.heap.size, 1, none⟩ = some (.int .i64 side) := cell_of_row w3 (w.heap.size) 1 _ _ _ x0
  have q0_2 : w3.cell? ⟨w.heap.size, 2, none⟩ = some (.int .i64 cur) := cell_of_row w3 (w.heap.size) 2 _ _ _ x0
  have q0_3 : w3.cell? ⟨w.heap.size, 3, none⟩ = some (.int .i64 next) := cell_of_row w3 (w.heap.size) 3 _ _ _ x0
  have q0_4 : w3.cell? ⟨w.heap.size, 4, none⟩ = some (.int .u64 send) := cell_of_row w3 (w.heap.size) 4 _ _ _ x0
  have q0_5 : w3.cell? ⟨w.heap.size, 5, none⟩ = some (.int .u64 ceil) := cell_of_row w3 (w.heap.size) 5 _ _ _ x0
  have q0_6 : w3.cell? ⟨w.heap.size, 6, none⟩ = some (.int .i64 sec) := cell_of_row w3 (w.heap.size) 6 _ _ _ x0
  have q0_7 : w3.cell? ⟨w.heap.size, 7, none⟩ = some (.int .i64 nano) := cell_of_row w3 (w.heap.size) 7 _ _ _ x0
  have q0_f (i : Nat) : w3.frozen? ⟨w.heap.size, i, none⟩ = false := frozen_of_row w3 (w.heap.size) i _ _ x0
  have q1_0 : w3.cell? ⟨w.heap.size + 1, 0, none⟩ = some (.int .i64 g) := cell_of_row w3 (w.heap.size + 1) 0 _ _ _ x1
  have q1_f (i : Nat) : w3.frozen? ⟨w.heap.size + 1, i, none⟩ = false := frozen_of_row w3 (w.heap.size + 1) i _ _ x1
  have q2_0 : w3.cell? ⟨w.heap.size + 2, 0, none⟩ = some (.int .u64 c) := cell_of_row w3 (w.heap.size + 2) 0 _ _ _ x2
  have q2_f (i : Nat) : w3.frozen? ⟨w.heap.size + 2, i, none⟩ = false := frozen_of_row w3 (w.heap.size + 2) i _ _ x2
  have q3_0 : w3.cell? ⟨w.heap.size + 3, 0, none⟩ = some (.int .i64 ss) := cell_of_row w3 (w.heap.size + 3) 0 _ _ _ x3
  have q3_1 : w3.cell? ⟨w.heap.size + 3, 1, none⟩ = some (.int .i64 sn) := cell_of_row w3 (w.heap.size + 3) 1 _ _ _ x3
  have q3_f (i : Nat) : w3.frozen? ⟨w.heap.size + 3, i, none⟩ = false := frozen_of_row w3 (w.heap.size + 3) i _ _ x3
  have q4_0 : w3.cell? ⟨w.heap.size + 4, 0, none⟩ = some (.int .i64 b) := cell_of_row w3 (w.heap.size + 4) 0 _ _ _ x4
  have q4_f (i : Nat) : w3.frozen? ⟨w.heap.size + 4, i, none⟩ = false := frozen_of_row w3 (w.heap.size + 4) i _ _ x4
  have X0 := Lib.hid x0
  have X1 := Lib.hid x1
  have X2 := Lib.hid x2
  have X3 := Lib.hid x3
  have X4 := Lib.hid x4
  have X5 := Lib.hid x5
  clear x0 x1 x2 x3 x4 x5
  go_wp2_with fail
  generalize hW : w3.alloc (Obj.cells #[.int .u64 0] 23 (0, 0)) = U
  have hzW : w.heap.size + 6 ≤ w3.heap.size := by omega
  have hB2 := hB.alloc (B := w.heap.size) (by omega) (Obj.cells #[.int .u64 0] 23 (0, 0))
  rw [hW] at hB2
  have hWs : U.drew.heap.size = w3.heap.size + 1 := by rw [← hW]; exact alloc_size _ _
  have xa : U.heap[w3.heap.size]? = some (.cells #[.int .u64 0] 23 (0, 0)) := by rw [← hW]; exact heap_alloc_new _ _
  clear q0_0 q0_1 q0_2 q0_3 q0_4 q0_5 q0_6 q0_7 q0_f
  clear q1_0 q1_f
  clear q2_0 q2_f
  clear q3_0 q3_1 q3_f
  clear q4_0 q4_f
  have x0 := X0.out
  clear X0
  have x1 := X1.out
  clear X1
  have x2 := X2.out
  clear X2
  have x3 := X3.out
  clear X3
  have x4 := X4.out
  clear X4
  have x5 := X5.out
  clear X5
  have x0 : U.heap[w.heap.size]? = some (.cells #[.slice ao key.length cap, .int .i64 side, .int .i64 cur, .int .i64 next, .int .u64 send, .int .u64 ceil, .int .i64 sec, .int .i64 nano] 27 (0, 0)) := by rw [← hW]; exact (alloc_old _ _ _ (by omega)).trans x0
  have x1 : U.heap[w.heap.size + 1]? = some (.cells #[.int .i64 g] 3 (0, 0)) := by rw [← hW]; exact (alloc_old _ _ _ (by omega)).trans x1
  have x2 : U.heap[w.heap.size + 2]? = some (.cells #[.int .u64 c] 23 (0, 0)) := by rw [← hW]; exact (alloc_old _ _ _ (by omega)).trans x2
  have x3 : U.heap[w.heap.size + 3]? = some (.cells #[.int .i64 ss, .int .i64 sn] 25 (0, 0)) := by rw [← hW]; exact (alloc_old _ _ _ (by omega)).trans x3
  have x4 : U.heap[w.heap.size + 4]? = some (.cells #[.int .i64 b] 3 (0, 0)) := by rw [← hW]; exact (alloc_old _ _ _ (by omega)).trans x4
  have x5 : U.heap[w.heap.size + 5]? = some (.cells #[.slice none 0 0, .int .i64 0, .int .i64 0, .int .i64 0, .int .u64 0, .int .u64 0, .int .i64 0, .int .i64 0] 27 (0, 0)) := by rw [← hW]; exact (alloc_old _ _ _ (by omega)).trans x5
  have c0 : U.cell? ⟨w3.heap.size, 0, none⟩ = some (.int .u64 0) := cell_of_row U (w3.heap.size) 0 _ _ _ xa
  have r0_0 : U.cell? ⟨w.heap.size, 0, none⟩ = some (.slice ao key.length cap) := cell_of_row U (w.heap.size) 0 _ _ _ x0
  have r0_1 : U.cell? ⟨w.heap.size, 1, none⟩ = some (.int .i64 side) := cell_of_row U (w.heap.size) 1 _ _ _ x0
  have r0_2 : U.cell? ⟨w.heap.size, 2, none⟩ = some (.int .i64 cur) := cell_of_row U (w.heap.size) 2 _ _ _ x0
  have r0_3 : U.cell? ⟨w.heap.size, 3, none⟩ = some (.int .i64 next) := cell_of_row U (w.heap.size) 3 _ _ _ x0
  have r0_4 : U.cell? ⟨w.heap.size, 4, none⟩ = some (.int .u64 send) := cell_of_row U (w.heap.size) 4 _ _ _ x0
  have r0_5 : U.cell? ⟨w.heap.size, 5, none⟩ = some (.int .u64 ceil) := cell_of_row U (w.heap.size) 5 _ _ _ x0
  have r0_6 : U.cell? ⟨w.heap.size, 6, none⟩ = some (.int .i64 sec) := cell_of_row U (w.heap.size) 6 _ _ _ x0
  have r0_7 : U.cell? ⟨w.heap.size, 7, none⟩ = some (.int .i64 nano) := cell_of_row U (w.heap.size) 7 _ _ _ x0
  have r0_f (i : Nat) : U.frozen? ⟨w.heap.size, i, none⟩ = false := frozen_of_row U (w.heap.size) i _ _ x0
  have r1_0 : U.cell? ⟨w.heap.size + 1, 0, none⟩ = some (.int .i64 g) := cell_of_row U (w.heap.size + 1) 0 _ _ _ x1
  have r1_f (i : Nat) : U.frozen? ⟨w.heap.size + 1, i, none⟩ = false := frozen_of_row U (w.heap.size + 1) i _ _ x1
  have r2_0 : U.cell? ⟨w.heap.size + 2, 0, none⟩ = some (.int .u64 c) := cell_of_row U (w.heap.size + 2) 0 _ _ _ x2
  have r2_f (i : Nat) : U.frozen? ⟨w.heap.size + 2, i, none⟩ = false := frozen_of_row U (w.heap.size + 2) i _ _ x2
  have r3_0 : U.cell? ⟨w.heap.size + 3, 0, none⟩ = some (.int .i64 ss) := cell_of_row U (w.heap.size + 3) 0 _ _ _ x3
  have r3_1 : U.cell? ⟨w.heap.size + 3, 1, none⟩ = some (.int .i64 sn) := cell_of_row U (w.heap.size + 3) 1 _ _ _ x3
  have r3_f (i : Nat) : U.frozen? ⟨w.heap.size + 3, i, none⟩ = false := frozen_of_row U (w.heap.size + 3) i _ _ x3
  have r4_0 : U.cell? ⟨w.heap.size + 4, 0, none⟩ = some (.int .i64 b) := cell_of_row U (w.heap.size + 4) 0 _ _ _ x4
  have r4_f (i : Nat) : U.frozen? ⟨w.heap.size + 4, i, none⟩ = false := frozen_of_row U (w.heap.size + 4) i _ _ x4
  have hrW : Rd U.drew ao key := (hr.on hB2 : Rd U ao key)
  have hn1 : w3.heap.size ≠ w.heap.size + 5 := by omega
  have hn2 : w.heap.size ≠ w.heap.size + 5 := by omega
  have X5 := Lib.hid x5
  clear x0 x1 x2 x3 x4 x5 xa hW hB
  go_region_held3 (fun w' => w'.cell? ⟨w3.heap.size, 0, none⟩ = some (.int .u64 0) ∧ w'.cell? ⟨w.heap.size, 0, none⟩ = some (.slice ao key.length cap) ∧ w'.cell? ⟨w.heap.size, 1, none⟩ = some (.int .i64 side) ∧ w'.cell? ⟨w.heap.size, 2, none⟩ = some (.int .i64 cur) ∧ w'.cell? ⟨w.heap.size, 3, none⟩ = some (.int .i64 next) ∧ w'.cell? ⟨w.heap.size, 4, none⟩ = some (.int .u64 send) ∧ w'.cell? ⟨w.heap.size, 5, none⟩ = some (.int .u64 ceil) ∧ w'.cell? ⟨w.heap.size, 6, none⟩ = some (.int .i64 sec) ∧ w'.cell? ⟨w.heap.size, 7, none⟩ = some (.int .i64 nano)) (((try simp only [cell_drew, cell_far _ _ _ _ _ _ hn1, cell_far _ _ _ _ _ _ hn2]); (refine ⟨?_, ?_, ?_, ?_, ?_, ?_, ?_, ?_, ?_⟩ <;> with_reducible assumption))) ((go_at_call 23; refine (laneChanged0 ⟨key, side, cur, next, send, ceil, sec, nano⟩ ao cap false _ U.drew hs (by simp)).mono ?_; rintro e V ⟨he, hb2⟩; obtain rfl : e = .returned (.agg #[.slice none 0 0, .int .i64 0, .int .i64 0, .int .i64 0, .int .u64 0, .int .u64 0, .int .i64 0, .int .i64 0]) := he; have dc0 : V.cell? ⟨w3.heap.size, 0, none⟩ = some (.int .u64 0) := (hb2.cell (by rw [hWs]; show w3.heap.size < _; omega)).trans c0; have dr0_0 : V.cell? ⟨w.heap.size, 0, none⟩ = some (.slice ao key.length cap) := (hb2.cell (by rw [hWs]; show w.heap.size < _; omega)).trans r0_0; have dr0_1 : V.cell? ⟨w.heap.size, 1, none⟩ = some (.int .i64 side) := (hb2.cell (by rw [hWs]; show w.heap.size < _; omega)).trans r0_1; have dr0_2 : V.cell? ⟨w.heap.size, 2, none⟩ = some (.int .i64 cur) := (hb2.cell (by rw [hWs]; show w.heap.size < _; omega)).trans r0_2; have dr0_3 : V.cell? ⟨w.heap.size, 3, none⟩ = some (.int .i64 next) := (hb2.cell (by rw [hWs]; show w.heap.size < _; omega)).trans r0_3; have dr0_4 : V.cell? ⟨w.heap.size, 4, none⟩ = some (.int .u64 send) := (hb2.cell (by rw [hWs]; show w.heap.size < _; omega)).trans r0_4; have dr0_5 : V.cell? ⟨w.heap.size, 5, none⟩ = some (.int .u64 ceil) := (hb2.cell (by rw [hWs]; show w.heap.size < _; omega)).trans r0_5; have dr0_6 : V.cell? ⟨w.heap.size, 6, none⟩ = some (.int .i64 sec) := (hb2.cell (by rw [hWs]; show w.heap.size < _; omega)).trans r0_6; have dr0_7 : V.cell? ⟨w.heap.size, 7, none⟩ = some (.int .i64 nano) := (hb2.cell (by rw [hWs]; show w.heap.size < _; omega)).trans r0_7; have y : V.heap[w.heap.size + 5]? = some (.cells #[.slice none 0 0, .int .i64 0, .int .i64 0, .int .i64 0, .int .u64 0, .int .u64 0, .int .i64 0, .int .i64 0] 27 (0, 0)) := (hb2.block (w.heap.size + 5) (by rw [hWs]; omega)).trans X5.out; have b0 : V.cell? ⟨w.heap.size + 5, 0, none⟩ = some (.slice none 0 0) := cell_of_row V (w.heap.size + 5) 0 _ _ _ y; have b1 : V.cell? ⟨w.heap.size + 5, 1, none⟩ = some (.int .i64 0) := cell_of_row V (w.heap.size + 5) 1 _ _ _ y; have b2 : V.cell? ⟨w.heap.size + 5, 2, none⟩ = some (.int .i64 0) := cell_of_row V (w.heap.size + 5) 2 _ _ _ y; have b3 : V.cell? ⟨w.heap.size + 5, 3, none⟩ = some (.int .i64 0) := cell_of_row V (w.heap.size + 5) 3 _ _ _ y; have b4 : V.cell? ⟨w.heap.size + 5, 4, none⟩ = some (.int .u64 0) := cell_of_row V (w.heap.size + 5) 4 _ _ _ y; have b5 : V.cell? ⟨w.heap.size + 5, 5, none⟩ = some (.int .u64 0) := cell_of_row V (w.heap.size + 5) 5 _ _ _ y; have b6 : V.cell? ⟨w.heap.size + 5, 6, none⟩ = some (.int .i64 0) := cell_of_row V (w.heap.size + 5) 6 _ _ _ y; have b7 : V.cell? ⟨w.heap.size + 5, 7, none⟩ = some (.int .i64 0) := cell_of_row V (w.heap.size + 5) 7 _ _ _ y; have bf (i : Nat) : V.frozen? ⟨w.heap.size + 5, i, none⟩ = false := frozen_of_row V (w.heap.size + 5) i _ _ y; clear y))
  go_wp2_with fail
  refine bodyPost_ret (v := .tuple #[.agg #[.slice none 0 0, .int .i64 0, .int .i64 0, .int .i64 0, .int .u64 0, .int .u64 0, .int .i64 0, .int .i64 0], .int .u64 0]) (by simp [results, Tryz.results8, go_sem, b0, b1, b2, b3, b4, b5, b6, b7]) rfl ⟨_, _, rfl, ?_, ?_⟩
  · exact Or.inl ⟨rfl, rfl, rfl⟩
  · iterate 8 (refine Below.set ?_ _ _ _ (by omega))
    exact hB2.drew.trans (hb2.mono (by rw [hWs]; omega))
set_option maxHeartbeats 4000000 in
theorem laneAnswered_y1 (L : Ln) (ao : Option Addr) (cap : Nat) (g c ss sn b : Int) (hc0 : 0 ≤ c) (hc1 : c ≤ 18446744073709551615) (hss : ss ≤ 9223372036854775807) (w : World) (hf : L.fits) (hr : Rd w ao L.key) (hok : L.ok = true) (hbk : blkB b = true) (h1 : L.cur < g) (h2 : g ≤ 2147483647) (h3 : c ≤ 18446744073709551614) (hst : stampB ss sn = true) (hls : lessB L.sec L.nano ss sn = true) (hge : g ≤ L.next) :
   Calls Tryz.prog 8 #[L.val ao cap, .int .i64 g, .int .u64 c, .agg #[.int .i64 ss, .int .i64 sn], .int .i64 b] w fun e w' => ∃ ao' cap', e = .returned (.tuple #[(answeredL L g c ss sn b).val ao' cap', .int .u64 (atA L g c ss sn b)]) ∧ Mine w' w.heap.size 5 ao' cap' (answeredL L g c ss sn b).key ∧ Below w.heap.size w w' := by
  obtain ⟨hl, hcur0, hcur1, hnext0, hnext1, hsend0, hsend1, hceil0, hceil1, hs⟩ := hf
  obtain ⟨key, side, cur, next, send, ceil, sec, nano⟩ := L
  unfold Ln.val
  simp only at hl hcur0 hcur1 hnext0 hnext1 hsend0 hsend1 hceil0 hceil1 hs hr hok h1 hls hge ⊢
  have hma : mayA ⟨key, side, cur, next, send, ceil, sec, nano⟩ g c ss sn b = true := by simp [mayA, hok, hbk, h1, h2, h3, hst, hls]
  have ha : atA ⟨key, side, cur, next, send, ceil, sec, nano⟩ g c ss sn b = 1 := by simp [atA, hma, hge]
  have hy : answeredL ⟨key, side, cur, next, send, ceil, sec, nano⟩ g c ss sn b = Ln.keep ⟨key, side, cur, next, send, ceil, sec, nano⟩ g next (upF 1 b) (upF c b) ss sn := by simp [answeredL, hma, ha]
  rw [hy, ha]
  unfold Ln.keep
  have HOK := Lib.hid hok
  have HBK := Lib.hid hbk
  have HST := Lib.hid hst
  have HLS := Lib.hid hls
  clear hok hy ha hma hbk hst hls
  go_enter Tryz.func8, Tryz.ntmps8
  go_wp2_with fail
  refine (laneValid ⟨key, side, cur, next, send, ceil, sec, nano⟩ ao cap hs _).mono ?_
  rintro e w1 ⟨rfl, hb⟩
  rw [HOK.out]
  have hz := hb.size
  simp only [alloc_size] at hz
  have hB := (((((((Below.refl _ w).alloc (Nat.le_refl _) _).alloc (by simp only [alloc_size]; omega) _).alloc (by simp only [alloc_size]; omega) _).alloc (by simp only [alloc_size]; omega) _).alloc (by simp only [alloc_size]; omega) _).alloc (by simp only [alloc_size]; omega) _).trans (hb.mono (by simp only [alloc_size]; omega))
  have x0 : w1.heap[w.heap.size]? = some (.cells #[.slice ao key.length cap, .int .i64 side, .int .i64 cur, .int .i64 next, .int .u64 send, .int .u64 ceil, .int .i64 sec, .int .i64 nano] 27 (0, 0)) := (hb_block hb (w.heap.size) (by simp only [alloc_size]; omega)).trans (by simp only [alloc_get, alloc_size]; repeat first | rw [if_pos trivial] | rw [if_neg (by omega)] | rw [if_pos (by omega)])
  have x1 : w1.heap[w.heap.size + 1]? = some (.cells #[.int .i64 g] 3 (0, 0)) := (hb_block hb (w.heap.size + 1) (by simp only [alloc_size]; omega)).trans (by simp only [alloc_get, alloc_size]; repeat first | rw [if_pos trivial] | rw [if_neg (by omega)] | rw [if_pos (by omega)])
  have x2 : w1.heap[w.heap.size + 2]? = some (.cells #[.int .u64 c] 23 (0, 0)) := (hb_block hb (w.heap.size + 2) (by simp only [alloc_size]; omega)).trans (by simp only [alloc_get, alloc_size]; repeat first | rw [if_pos trivial] | rw [if_neg (by omega)] | rw [if_pos (by omega)])
  have x3 : w1.heap[w.heap.size + 3]? = some (.cells #[.int .i64 ss, .int .i64 sn] 25 (0, 0)) := (hb_block hb (w.heap.size + 3) (by simp only [alloc_size]; omega)).trans (by simp only [alloc_get, alloc_size]; repeat first | rw [if_pos trivial] | rw [if_neg (by omega)] | rw [if_pos (by omega)])
  have x4 : w1.heap[w.heap.size + 4]? = some (.cells #[.int .i64 b] 3 (0, 0)) := (hb_block hb (w.heap.size + 4) (by simp only [alloc_size]; omega)).trans (by simp only [alloc_get, alloc_size]; repeat first | rw [if_pos trivial] | rw [if_neg (by omega)] | rw [if_pos (by omega)])
  have x5 : w1.heap[w.heap.size + 5]? = some (.cells #[.slice none 0 0, .int .i64 0, .int .i64 0, .int .i64 0, .int .u64 0, .int .u64 0, .int .i64 0, .int .i64 0] 27 (0, 0)) := (hb_block hb (w.heap.size + 5) (by simp only [alloc_size]; omega)).trans (by simp only [alloc_get, alloc_size]; repeat first | rw [if_pos trivial] | rw [if_neg (by omega)] | rw [if_pos (by omega)])
  clear hb
  have q0_0 : w1.cell? ⟨w.heap.size, 0, none⟩ = some (.slice ao key.length cap) := cell_of_row w1 (w.heap.size) 0 _ _ _ x0
  have q0_1 : w1.cell? ⟨w.heap.size, 1, none⟩ = some (.int .i64 side) := cell_of_row w1 (w.heap.size) 1 _ _ _ x0
  have q0_2 : w1.cell? ⟨w.heap.size, 2, none⟩ = some (.int .i64 cur) := cell_of_row w1 (w.heap.size) 2 _ _ _ x0
  have q0_3 : w1.cell? ⟨w.heap.size, 3, none⟩ = some (.int .i64 next) := cell_of_row w1 (w.heap.size) 3 _ _ _ x0
  have q0_4 : w1.cell? ⟨w.heap.size, 4, none⟩ = some (.int .u64 send) := cell_of_row w1 (w.heap.size) 4 _ _ _ x0
  have q0_5 : w1.cell? ⟨w.heap.size, 5, none⟩ = some (.int .u64 ceil) := cell_of_row w1 (w.heap.size) 5 _ _ _ x0
  have q0_6 : w1.cell? ⟨w.heap.size, 6, none⟩ = some (.int .i64 sec) := cell_of_row w1 (w.heap.size) 6 _ _ _ x0
  have q0_7 : w1.cell? ⟨w.heap.size, 7, none⟩ = some (.int .i64 nano) := cell_of_row w1 (w.heap.size) 7 _ _ _ x0
  have q0_f (i : Nat) : w1.frozen? ⟨w.heap.size, i, none⟩ = false := frozen_of_row w1 (w.heap.size) i _ _ x0
  have q1_0 : w1.cell? ⟨w.heap.size + 1, 0, none⟩ = some (.int .i64 g) := cell_of_row w1 (w.heap.size + 1) 0 _ _ _ x1
  have q1_f (i : Nat) : w1.frozen? ⟨w.heap.size + 1, i, none⟩ = false := frozen_of_row w1 (w.heap.size + 1) i _ _ x1
  have q2_0 : w1.cell? ⟨w.heap.size + 2, 0, none⟩ = some (.int .u64 c) := cell_of_row w1 (w.heap.size + 2) 0 _ _ _ x2
  have q2_f (i : Nat) : w1.frozen? ⟨w.heap.size + 2, i, none⟩ = false := frozen_of_row w1 (w.heap.size + 2) i _ _ x2
  have q3_0 : w1.cell? ⟨w.heap.size + 3, 0, none⟩ = some (.int .i64 ss) := cell_of_row w1 (w.heap.size + 3) 0 _ _ _ x3
  have q3_1 : w1.cell? ⟨w.heap.size + 3, 1, none⟩ = some (.int .i64 sn) := cell_of_row w1 (w.heap.size + 3) 1 _ _ _ x3
  have q3_f (i : Nat) : w1.frozen? ⟨w.heap.size + 3, i, none⟩ = false := frozen_of_row w1 (w.heap.size + 3) i _ _ x3
  have q4_0 : w1.cell? ⟨w.heap.size + 4, 0, none⟩ = some (.int .i64 b) := cell_of_row w1 (w.heap.size + 4) 0 _ _ _ x4
  have q4_f (i : Nat) : w1.frozen? ⟨w.heap.size + 4, i, none⟩ = false := frozen_of_row w1 (w.heap.size + 4) i _ _ x4
  have HX := Lib.hid (show w1.heap[w.heap.size + 5]? = some (.cells #[.slice none 0 0, .int .i64 0, .int .i64 0, .int .i64 0, .int .u64 0, .int .u64 0, .int .i64 0, .int .i64 0] 27 (0, 0)) from x5)
  have X0 := Lib.hid x0
  have X1 := Lib.hid x1
  have X2 := Lib.hid x2
  have X3 := Lib.hid x3
  have X4 := Lib.hid x4
  have X5 := Lib.hid x5
  clear x0 x1 x2 x3 x4 x5
  go_wp2_with fail
  refine (laneBlock b _).mono ?_
  rintro e w2 ⟨rfl, hw⟩
  obtain rfl := hw.symm
  rw [HBK.out]
  go_wp2_with fail
  refine (stampValid ss sn hss _).mono ?_
  rintro e w2 ⟨rfl, hb⟩
  rw [HST.out]
  clear q0_0 q0_1 q0_2 q0_3 q0_4 q0_5 q0_6 q0_7 q0_f
  clear q1_0 q1_f
  clear q2_0 q2_f
  clear q3_0 q3_1 q3_f
  clear q4_0 q4_f
  have x0 := X0.out
  clear X0
  have x1 := X1.out
  clear X1
  have x2 := X2.out
  clear X2
  have x3 := X3.out
  clear X3
  have x4 := X4.out
  clear X4
  have x5 := X5.out
  clear X5
  have x0 : w2.heap[w.heap.size]? = some (.cells #[.slice ao key.length cap, .int .i64 side, .int .i64 cur, .int .i64 next, .int .u64 send, .int .u64 ceil, .int .i64 sec, .int .i64 nano] 27 (0, 0)) := (hb.block (w.heap.size) (by omega)).trans x0
  have x1 : w2.heap[w.heap.size + 1]? = some (.cells #[.int .i64 g] 3 (0, 0)) := (hb.block (w.heap.size + 1) (by omega)).trans x1
  have x2 : w2.heap[w.heap.size + 2]? = some (.cells #[.int .u64 c] 23 (0, 0)) := (hb.block (w.heap.size + 2) (by omega)).trans x2
  have x3 : w2.heap[w.heap.size + 3]? = some (.cells #[.int .i64 ss, .int .i64 sn] 25 (0, 0)) := (hb.block (w.heap.size + 3) (by omega)).trans x3
  have x4 : w2.heap[w.heap.size + 4]? = some (.cells #[.int .i64 b] 3 (0, 0)) := (hb.block (w.heap.size + 4) (by omega)).trans x4
  have x5 : w2.heap[w.heap.size + 5]? = some (.cells #[.slice none 0 0, .int .i64 0, .int .i64 0, .int .i64 0, .int .u64 0, .int .u64 0, .int .i64 0, .int .i64 0] 27 (0, 0)) := (hb.block (w.heap.size + 5) (by omega)).trans x5
  have hz2 := hb.size
  have hB := hB.trans (hb.mono (by omega))
  clear hb HX
  have q0_0 : w2.cell? ⟨w.heap.size, 0, none⟩ = some (.slice ao key.length cap) := cell_of_row w2 (w.heap.size) 0 _ _ _ x0
  have q0_1 : w2.cell? ⟨w.heap.size, 1, none⟩ = some (.int .i64 side) := cell_of_row w2 (w.heap.size) 1 _ _ _ x0
  have q0_2 : w2.cell? ⟨w.heap.size, 2, none⟩ = some (.int .i64 cur) := cell_of_row w2 (w.heap.size) 2 _ _ _ x0
  have q0_3 : w2.cell? ⟨w.heap.size, 3, none⟩ = some (.int .i64 next) := cell_of_row w2 (w.heap.size) 3 _ _ _ x0
  have q0_4 : w2.cell? ⟨w.heap.size, 4, none⟩ = some (.int .u64 send) := cell_of_row w2 (w.heap.size) 4 _ _ _ x0
  have q0_5 : w2.cell? ⟨w.heap.size, 5, none⟩ = some (.int .u64 ceil) := cell_of_row w2 (w.heap.size) 5 _ _ _ x0
  have q0_6 : w2.cell? ⟨w.heap.size, 6, none⟩ = some (.int .i64 sec) := cell_of_row w2 (w.heap.size) 6 _ _ _ x0
  have q0_7 : w2.cell? ⟨w.heap.size, 7, none⟩ = some (.int .i64 nano) := cell_of_row w2 (w.heap.size) 7 _ _ _ x0
  have q0_f (i : Nat) : w2.frozen? ⟨w.heap.size, i, none⟩ = false := frozen_of_row w2 (w.heap.size) i _ _ x0
  have q1_0 : w2.cell? ⟨w.heap.size + 1, 0, none⟩ = some (.int .i64 g) := cell_of_row w2 (w.heap.size + 1) 0 _ _ _ x1
  have q1_f (i : Nat) : w2.frozen? ⟨w.heap.size + 1, i, none⟩ = false := frozen_of_row w2 (w.heap.size + 1) i _ _ x1
  have q2_0 : w2.cell? ⟨w.heap.size + 2, 0, none⟩ = some (.int .u64 c) := cell_of_row w2 (w.heap.size + 2) 0 _ _ _ x2
  have q2_f (i : Nat) : w2.frozen? ⟨w.heap.size + 2, i, none⟩ = false := frozen_of_row w2 (w.heap.size + 2) i _ _ x2
  have q3_0 : w2.cell? ⟨w.heap.size + 3, 0, none⟩ = some (.int .i64 ss) := cell_of_row w2 (w.heap.size + 3) 0 _ _ _ x3
  have q3_1 : w2.cell? ⟨w.heap.size + 3, 1, none⟩ = some (.int .i64 sn) := cell_of_row w2 (w.heap.size + 3) 1 _ _ _ x3
  have q3_f (i : Nat) : w2.frozen? ⟨w.heap.size + 3, i, none⟩ = false := frozen_of_row w2 (w.heap.size + 3) i _ _ x3
  have q4_0 : w2.cell? ⟨w.heap.size + 4, 0, none⟩ = some (.int .i64 b) := cell_of_row w2 (w.heap.size + 4) 0 _ _ _ x4
  have q4_f (i : Nat) : w2.frozen? ⟨w.heap.size + 4, i, none⟩ = false := frozen_of_row w2 (w.heap.size + 4) i _ _ x4
  have X0 := Lib.hid x0
  have X1 := Lib.hid x1
  have X2 := Lib.hid x2
  have X3 := Lib.hid x3
  have X4 := Lib.hid x4
  have X5 := Lib.hid x5
  clear x0 x1 x2 x3 x4 x5
  go_wp2_with fail
  refine (stampLess sec nano ss sn _).mono ?_
  rintro e w3 ⟨rfl, hb⟩
  rw [HLS.out]
  clear q0_0 q0_1 q0_2 q0_3 q0_4 q0_5 q0_6 q0_7 q0_f
  clear q1_0 q1_f
  clear q2_0 q2_f
  clear q3_0 q3_1 q3_f
  clear q4_0 q4_f
  have x0 := X0.out
  clear X0
  have x1 := X1.out
  clear X1
  have x2 := X2.out
  clear X2
  have x3 := X3.out
  clear X3
  have x4 := X4.out
  clear X4
  have x5 := X5.out
  clear X5
  have x0 : w3.heap[w.heap.size]? = some (.cells #[.slice ao key.length cap, .int .i64 side, .int .i64 cur, .int .i64 next, .int .u64 send, .int .u64 ceil, .int .i64 sec, .int .i64 nano] 27 (0, 0)) := (hb.block (w.heap.size) (by omega)).trans x0
  have x1 : w3.heap[w.heap.size + 1]? = some (.cells #[.int .i64 g] 3 (0, 0)) := (hb.block (w.heap.size + 1) (by omega)).trans x1
  have x2 : w3.heap[w.heap.size + 2]? = some (.cells #[.int .u64 c] 23 (0, 0)) := (hb.block (w.heap.size + 2) (by omega)).trans x2
  have x3 : w3.heap[w.heap.size + 3]? = some (.cells #[.int .i64 ss, .int .i64 sn] 25 (0, 0)) := (hb.block (w.heap.size + 3) (by omega)).trans x3
  have x4 : w3.heap[w.heap.size + 4]? = some (.cells #[.int .i64 b] 3 (0, 0)) := (hb.block (w.heap.size + 4) (by omega)).trans x4
  have x5 : w3.heap[w.heap.size + 5]? = some (.cells #[.slice none 0 0, .int .i64 0, .int .i64 0, .int .i64 0, .int .u64 0, .int .u64 0, .int .i64 0, .int .i64 0] 27 (0, 0)) := (hb.block (w.heap.size + 5) (by omega)).trans x5
  have hz3 := hb.size
  have hB := hB.trans (hb.mono (by omega))
  clear hb
  have hlt0 : w.heap.size < w3.heap.size := by omega
  have hlt1 : w.heap.size + 1 < w3.heap.size := by omega
  have q0_0 : w3.cell? ⟨w.heap.size, 0, none⟩ = some (.slice ao key.length cap) := cell_of_row w3 (w.heap.size) 0 _ _ _ x0
  have q0_1 : w3.cell? ⟨w.heap.size, 1, none⟩ = some (.int .i64 side) := cell_of_row w3 (w.heap.size) 1 _ _ _ x0
  have q0_2 : w3.cell? ⟨w.heap.size, 2, none⟩ = some (.int .i64 cur) := cell_of_row w3 (w.heap.size) 2 _ _ _ x0
  have q0_3 : w3.cell? ⟨w.heap.size, 3, none⟩ = some (.int .i64 next) := cell_of_row w3 (w.heap.size) 3 _ _ _ x0
  have q0_4 : w3.cell? ⟨w.heap.size, 4, none⟩ = some (.int .u64 send) := cell_of_row w3 (w.heap.size) 4 _ _ _ x0
  have q0_5 : w3.cell? ⟨w.heap.size, 5, none⟩ = some (.int .u64 ceil) := cell_of_row w3 (w.heap.size) 5 _ _ _ x0
  have q0_6 : w3.cell? ⟨w.heap.size, 6, none⟩ = some (.int .i64 sec) := cell_of_row w3 (w.heap.size) 6 _ _ _ x0
  have q0_7 : w3.cell? ⟨w.heap.size, 7, none⟩ = some (.int .i64 nano) := cell_of_row w3 (w.heap.size) 7 _ _ _ x0
  have q0_f (i : Nat) : w3.frozen? ⟨w.heap.size, i, none⟩ = false := frozen_of_row w3 (w.heap.size) i _ _ x0
  have q1_0 : w3.cell? ⟨w.heap.size + 1, 0, none⟩ = some (.int .i64 g) := cell_of_row w3 (w.heap.size + 1) 0 _ _ _ x1
  have q1_f (i : Nat) : w3.frozen? ⟨w.heap.size + 1, i, none⟩ = false := frozen_of_row w3 (w.heap.size + 1) i _ _ x1
  have q2_0 : w3.cell? ⟨w.heap.size + 2, 0, none⟩ = some (.int .u64 c) := cell_of_row w3 (w.heap.size + 2) 0 _ _ _ x2
  have q2_f (i : Nat) : w3.frozen? ⟨w.heap.size + 2, i, none⟩ = false := frozen_of_row w3 (w.heap.size + 2) i _ _ x2
  have q3_0 : w3.cell? ⟨w.heap.size + 3, 0, none⟩ = some (.int .i64 ss) := cell_of_row w3 (w.heap.size + 3) 0 _ _ _ x3
  have q3_1 : w3.cell? ⟨w.heap.size + 3, 1, none⟩ = some (.int .i64 sn) := cell_of_row w3 (w.heap.size + 3) 1 _ _ _ x3
  have q3_f (i : Nat) : w3.frozen? ⟨w.heap.size + 3, i, none⟩ = false := frozen_of_row w3 (w.heap.size + 3) i _ _ x3
  have q4_0 : w3.cell? ⟨w.heap.size + 4, 0, none⟩ = some (.int .i64 b) := cell_of_row w3 (w.heap.size + 4) 0 _ _ _ x4
  have q4_f (i : Nat) : w3.frozen? ⟨w.heap.size + 4, i, none⟩ = false := frozen_of_row w3 (w.heap.size + 4) i _ _ x4
  have X0 := Lib.hid x0
  have X1 := Lib.hid x1
  have X2 := Lib.hid x2
  have X3 := Lib.hid x3
  have X4 := Lib.hid x4
  have X5 := Lib.hid x5
  clear x0 x1 x2 x3 x4 x5
  go_wp2_with fail
  generalize hW : w3.alloc (Obj.cells #[.int .u64 1] 23 (0, 0)) = U
  have hzW : w.heap.size + 6 ≤ w3.heap.size := by omega
  have hB2 := hB.alloc (B := w.heap.size) (by omega) (Obj.cells #[.int .u64 1] 23 (0, 0))
  rw [hW] at hB2
  have hWs : U.drew.heap.size = w3.heap.size + 1 := by rw [← hW]; exact alloc_size _ _
  have xa : U.heap[w3.heap.size]? = some (.cells #[.int .u64 1] 23 (0, 0)) := by rw [← hW]; exact heap_alloc_new _ _
  clear q0_0 q0_1 q0_2 q0_3 q0_4 q0_5 q0_6 q0_7 q0_f
  clear q1_0 q1_f
  clear q2_0 q2_f
  clear q3_0 q3_1 q3_f
  clear q4_0 q4_f
  have x0 := X0.out
  clear X0
  have x1 := X1.out
  clear X1
  have x2 := X2.out
  clear X2
  have x3 := X3.out
  clear X3
  have x4 := X4.out
  clear X4
  have x5 := X5.out
  clear X5
  have x0 : U.heap[w.heap.size]? = some (.cells #[.slice ao key.length cap, .int .i64 side, .int .i64 cur, .int .i64 next, .int .u64 send, .int .u64 ceil, .int .i64 sec, .int .i64 nano] 27 (0, 0)) := by rw [← hW]; exact (alloc_old _ _ _ (by omega)).trans x0
  have x1 : U.heap[w.heap.size + 1]? = some (.cells #[.int .i64 g] 3 (0, 0)) := by rw [← hW]; exact (alloc_old _ _ _ (by omega)).trans x1
  have x2 : U.heap[w.heap.size + 2]? = some (.cells #[.int .u64 c] 23 (0, 0)) := by rw [← hW]; exact (alloc_old _ _ _ (by omega)).trans x2
  have x3 : U.heap[w.heap.size + 3]? = some (.cells #[.int .i64 ss, .int .i64 sn] 25 (0, 0)) := by rw [← hW]; exact (alloc_old _ _ _ (by omega)).trans x3
  have x4 : U.heap[w.heap.size + 4]? = some (.cells #[.int .i64 b] 3 (0, 0)) := by rw [← hW]; exact (alloc_old _ _ _ (by omega)).trans x4
  have x5 : U.heap[w.heap.size + 5]? = some (.cells #[.slice none 0 0, .int .i64 0, .int .i64 0, .int .i64 0, .int .u64 0, .int .u64 0, .int .i64 0, .int .i64 0] 27 (0, 0)) := by rw [← hW]; exact (alloc_old _ _ _ (by omega)).trans x5
  have c0 : U.cell? ⟨w3.heap.size, 0, none⟩ = some (.int .u64 1) := cell_of_row U (w3.heap.size) 0 _ _ _ xa
  have r0_0 : U.cell? ⟨w.heap.size, 0, none⟩ = some (.slice ao key.length cap) := cell_of_row U (w.heap.size) 0 _ _ _ x0
  have r0_1 : U.cell? ⟨w.heap.size, 1, none⟩ = some (.int .i64 side) := cell_of_row U (w.heap.size) 1 _ _ _ x0
  have r0_2 : U.cell? ⟨w.heap.size, 2, none⟩ = some (.int .i64 cur) := cell_of_row U (w.heap.size) 2 _ _ _ x0
  have r0_3 : U.cell? ⟨w.heap.size, 3, none⟩ = some (.int .i64 next) := cell_of_row U (w.heap.size) 3 _ _ _ x0
  have r0_4 : U.cell? ⟨w.heap.size, 4, none⟩ = some (.int .u64 send) := cell_of_row U (w.heap.size) 4 _ _ _ x0
  have r0_5 : U.cell? ⟨w.heap.size, 5, none⟩ = some (.int .u64 ceil) := cell_of_row U (w.heap.size) 5 _ _ _ x0
  have r0_6 : U.cell? ⟨w.heap.size, 6, none⟩ = some (.int .i64 sec) := cell_of_row U (w.heap.size) 6 _ _ _ x0
  have r0_7 : U.cell? ⟨w.heap.size, 7, none⟩ = some (.int .i64 nano) := cell_of_row U (w.heap.size) 7 _ _ _ x0
  have r0_f (i : Nat) : U.frozen? ⟨w.heap.size, i, none⟩ = false := frozen_of_row U (w.heap.size) i _ _ x0
  have r1_0 : U.cell? ⟨w.heap.size + 1, 0, none⟩ = some (.int .i64 g) := cell_of_row U (w.heap.size + 1) 0 _ _ _ x1
  have r1_f (i : Nat) : U.frozen? ⟨w.heap.size + 1, i, none⟩ = false := frozen_of_row U (w.heap.size + 1) i _ _ x1
  have r2_0 : U.cell? ⟨w.heap.size + 2, 0, none⟩ = some (.int .u64 c) := cell_of_row U (w.heap.size + 2) 0 _ _ _ x2
  have r2_f (i : Nat) : U.frozen? ⟨w.heap.size + 2, i, none⟩ = false := frozen_of_row U (w.heap.size + 2) i _ _ x2
  have r3_0 : U.cell? ⟨w.heap.size + 3, 0, none⟩ = some (.int .i64 ss) := cell_of_row U (w.heap.size + 3) 0 _ _ _ x3
  have r3_1 : U.cell? ⟨w.heap.size + 3, 1, none⟩ = some (.int .i64 sn) := cell_of_row U (w.heap.size + 3) 1 _ _ _ x3
  have r3_f (i : Nat) : U.frozen? ⟨w.heap.size + 3, i, none⟩ = false := frozen_of_row U (w.heap.size + 3) i _ _ x3
  have r4_0 : U.cell? ⟨w.heap.size + 4, 0, none⟩ = some (.int .i64 b) := cell_of_row U (w.heap.size + 4) 0 _ _ _ x4
  have r4_f (i : Nat) : U.frozen? ⟨w.heap.size + 4, i, none⟩ = false := frozen_of_row U (w.heap.size + 4) i _ _ x4
  have hrW : Rd U.drew ao key := (hr.on hB2 : Rd U ao key)
  have hn1 : w3.heap.size ≠ w.heap.size + 5 := by omega
  have hn2 : w.heap.size ≠ w.heap.size + 5 := by omega
  have X5 := Lib.hid x5
  clear x0 x1 x2 x3 x4 x5 xa hW hB
  have one0 : (0 : Int) ≤ 1 := by decide
  have one1 : (1 : Int) ≤ 18446744073709551615 := by decide
  have hclo : ∀ (V : World) (gg : Nat) (ar : Option Addr) (cr : Nat), Below U.drew.heap.size U.drew V → U.drew.heap.size ≤ gg → V.heap[gg]? = some (.cells #[.slice ar key.length cr, .int .i64 side, .int .i64 cur, .int .i64 next, .int .u64 send, .int .u64 ceil, .int .i64 sec, .int .i64 nano] 27 (0, 0)) → Calls Tryz.prog 29 (#[.pointer (some ⟨gg, 0, none⟩)] ++ #[.pointer (some ⟨w.heap.size + 1, 0, none⟩), .pointer (some ⟨w3.heap.size, 0, none⟩), .pointer (some ⟨w.heap.size + 4, 0, none⟩), .pointer (some ⟨w.heap.size + 2, 0, none⟩), .pointer (some ⟨w.heap.size + 3, 0, none⟩)]) V (Turns V gg #[.slice ar key.length cr, .int .i64 side, .int .i64 g, .int .i64 next, .int .u64 (upF 1 b), .int .u64 (upF c b), .int .i64 ss, .int .i64 sn]) := by
    intro V gg ar cr hB hg hx
    rw [hWs] at hg
    have t1 : V.cell? ⟨w.heap.size + 1, 0, none⟩ = some (.int .i64 g) := (hB.cell (by rw [hWs]; show w.heap.size + 1 < _; omega)).trans r1_0
    have t2 : V.cell? ⟨w3.heap.size, 0, none⟩ = some (.int .u64 1) := (hB.cell (by rw [hWs]; show w3.heap.size < _; omega)).trans c0
    have t3 : V.cell? ⟨w.heap.size + 4, 0, none⟩ = some (.int .i64 b) := (hB.cell (by rw [hWs]; show w.heap.size + 4 < _; omega)).trans r4_0
    have t4 : V.cell? ⟨w.heap.size + 2, 0, none⟩ = some (.int .u64 c) := (hB.cell (by rw [hWs]; show w.heap.size + 2 < _; omega)).trans r2_0
    have t5 : V.cell? ⟨w.heap.size + 3, 0, none⟩ = some (.int .i64 ss) := (hB.cell (by rw [hWs]; show w.heap.size + 3 < _; omega)).trans r3_0
    have t6 : V.cell? ⟨w.heap.size + 3, 1, none⟩ = some (.int .i64 sn) := (hB.cell (by rw [hWs]; show w.heap.size + 3 < _; omega)).trans r3_1
    have n1 : w.heap.size + 1 ≠ gg := by omega
    have n2 : w3.heap.size ≠ gg := by omega
    have n3 : w.heap.size + 4 ≠ gg := by omega
    have n4 : w.heap.size + 2 ≠ gg := by omega
    have n5 : w.heap.size + 3 ≠ gg := by omega
    exact cloAnswered V gg ar cr key side cur next send ceil sec nano hx (w.heap.size + 1) g (w3.heap.size) 1 (w.heap.size + 4) b (w.heap.size + 2) c (w.heap.size + 3) ss sn n1 t1 n2 t2 one0 one1 n3 t3 n4 t4 hc0 hc1 n5 t5 t6
  have HC := Lib.hid hclo
  clear hclo
  go_region_held3 (fun w' => w'.cell? ⟨w3.heap.size, 0, none⟩ = some (.int .u64 1) ∧ w'.cell? ⟨w.heap.size, 0, none⟩ = some (.slice ao key.length cap) ∧ w'.cell? ⟨w.heap.size, 1, none⟩ = some (.int .i64 side) ∧ w'.cell? ⟨w.heap.size, 2, none⟩ = some (.int .i64 cur) ∧ w'.cell? ⟨w.heap.size, 3, none⟩ = some (.int .i64 next) ∧ w'.cell? ⟨w.heap.size, 4, none⟩ = some (.int .u64 send) ∧ w'.cell? ⟨w.heap.size, 5, none⟩ = some (.int .u64 ceil) ∧ w'.cell? ⟨w.heap.size, 6, none⟩ = some (.int .i64 sec) ∧ w'.cell? ⟨w.heap.size, 7, none⟩ = some (.int .i64 nano)) (((try simp only [cell_drew, cell_far _ _ _ _ _ _ hn1, cell_far _ _ _ _ _ _ hn2]); (refine ⟨?_, ?_, ?_, ?_, ?_, ?_, ?_, ?_, ?_⟩ <;> with_reducible assumption))) ((go_at_call 23; refine (laneChanged1 ⟨key, side, cur, next, send, ceil, sec, nano⟩ g next (upF 1 b) (upF c b) ss sn ao cap 29 _ U.drew hs HOK.out hrW (fun _ _ => rfl) HC.out).mono ?_; rintro e V ⟨ar, cr, he, hm, hb2⟩; obtain rfl : e = .returned (.agg #[.slice ar key.length cr, .int .i64 side, .int .i64 g, .int .i64 next, .int .u64 (upF 1 b), .int .u64 (upF c b), .int .i64 ss, .int .i64 sn]) := he; have dc0 : V.cell? ⟨w3.heap.size, 0, none⟩ = some (.int .u64 1) := (hb2.cell (by rw [hWs]; show w3.heap.size < _; omega)).trans c0; have dr0_0 : V.cell? ⟨w.heap.size, 0, none⟩ = some (.slice ao key.length cap) := (hb2.cell (by rw [hWs]; show w.heap.size < _; omega)).trans r0_0; have dr0_1 : V.cell? ⟨w.heap.size, 1, none⟩ = some (.int .i64 side) := (hb2.cell (by rw [hWs]; show w.heap.size < _; omega)).trans r0_1; have dr0_2 : V.cell? ⟨w.heap.size, 2, none⟩ = some (.int .i64 cur) := (hb2.cell (by rw [hWs]; show w.heap.size < _; omega)).trans r0_2; have dr0_3 : V.cell? ⟨w.heap.size, 3, none⟩ = some (.int .i64 next) := (hb2.cell (by rw [hWs]; show w.heap.size < _; omega)).trans r0_3; have dr0_4 : V.cell? ⟨w.heap.size, 4, none⟩ = some (.int .u64 send) := (hb2.cell (by rw [hWs]; show w.heap.size < _; omega)).trans r0_4; have dr0_5 : V.cell? ⟨w.heap.size, 5, none⟩ = some (.int .u64 ceil) := (hb2.cell (by rw [hWs]; show w.heap.size < _; omega)).trans r0_5; have dr0_6 : V.cell? ⟨w.heap.size, 6, none⟩ = some (.int .i64 sec) := (hb2.cell (by rw [hWs]; show w.heap.size < _; omega)).trans r0_6; have dr0_7 : V.cell? ⟨w.heap.size, 7, none⟩ = some (.int .i64 nano) := (hb2.cell (by rw [hWs]; show w.heap.size < _; omega)).trans r0_7; have y : V.heap[w.heap.size + 5]? = some (.cells #[.slice none 0 0, .int .i64 0, .int .i64 0, .int .i64 0, .int .u64 0, .int .u64 0, .int .i64 0, .int .i64 0] 27 (0, 0)) := (hb2.block (w.heap.size + 5) (by rw [hWs]; omega)).trans X5.out; have b0 : V.cell? ⟨w.heap.size + 5, 0, none⟩ = some (.slice none 0 0) := cell_of_row V (w.heap.size + 5) 0 _ _ _ y; have b1 : V.cell? ⟨w.heap.size + 5, 1, none⟩ = some (.int .i64 0) := cell_of_row V (w.heap.size + 5) 1 _ _ _ y; have b2 : V.cell? ⟨w.heap.size + 5, 2, none⟩ = some (.int .i64 0) := cell_of_row V (w.heap.size + 5) 2 _ _ _ y; have b3 : V.cell? ⟨w.heap.size + 5, 3, none⟩ = some (.int .i64 0) := cell_of_row V (w.heap.size + 5) 3 _ _ _ y; have b4 : V.cell? ⟨w.heap.size + 5, 4, none⟩ = some (.int .u64 0) := cell_of_row V (w.heap.size + 5) 4 _ _ _ y; have b5 : V.cell? ⟨w.heap.size + 5, 5, none⟩ = some (.int .u64 0) := cell_of_row V (w.heap.size + 5) 5 _ _ _ y; have b6 : V.cell? ⟨w.heap.size + 5, 6, none⟩ = some (.int .i64 0) := cell_of_row V (w.heap.size + 5) 6 _ _ _ y; have b7 : V.cell? ⟨w.heap.size + 5, 7, none⟩ = some (.int .i64 0) := cell_of_row V (w.heap.size + 5) 7 _ _ _ y; have bf (i : Nat) : V.frozen? ⟨w.heap.size + 5, i, none⟩ = false := frozen_of_row V (w.heap.size + 5) i _ _ y; clear y))
  go_wp2_with fail
  refine bodyPost_ret (v := .tuple #[.agg #[.slice ar key.length cr, .int .i64 side, .int .i64 g, .int .i64 next, .int .u64 (upF 1 b), .int .u64 (upF c b), .int .i64 ss, .int .i64 sn], .int .u64 1]) (by simp [results, Tryz.results8, go_sem, b0, b1, b2, b3, b4, b5, b6, b7]) rfl ⟨_, _, rfl, ?_, ?_⟩
  · refine Mine.from (B := w.heap.size + 6) ?_ (by omega)
    iterate 8 (refine Mine.setCell ?_ _ _ _ (by omega))
    exact Mine.from hm (by rw [hWs]; omega)
  · iterate 8 (refine Below.set ?_ _ _ _ (by omega))
    exact hB2.drew.trans (hb2.mono (by rw [hWs]; omega))
set_option maxHeartbeats 4000000 in
theorem laneAnswered_y0 (L : Ln) (ao : Option Addr) (cap : Nat) (g c ss sn b : Int) (hc0 : 0 ≤ c) (hc1 : c ≤ 18446744073709551615) (hss : ss ≤ 9223372036854775807) (w : World) (hf : L.fits) (hr : Rd w ao L.key) (hok : L.ok = true) (hbk : blkB b = true) (h1 : L.cur < g) (h2 : g ≤ 2147483647) (h3 : c ≤ 18446744073709551614) (hst : stampB ss sn = true) (hls : lessB L.sec L.nano ss sn = true) (hge : ¬ g ≤ L.next) :
   Calls Tryz.prog 8 #[L.val ao cap, .int .i64 g, .int .u64 c, .agg #[.int .i64 ss, .int .i64 sn], .int .i64 b] w fun e w' => ∃ ao' cap', e = .returned (.tuple #[(answeredL L g c ss sn b).val ao' cap', .int .u64 (atA L g c ss sn b)]) ∧ Mine w' w.heap.size 5 ao' cap' (answeredL L g c ss sn b).key ∧ Below w.heap.size w w' := by
  obtain ⟨hl, hcur0, hcur1, hnext0, hnext1, hsend0, hsend1, hceil0, hceil1, hs⟩ := hf
  obtain ⟨key, side, cur, next, send, ceil, sec, nano⟩ := L
  unfold Ln.val
  simp only at hl hcur0 hcur1 hnext0 hnext1 hsend0 hsend1 hceil0 hceil1 hs hr hok h1 hls hge ⊢
  have hma : mayA ⟨key, side, cur, next, send, ceil, sec, nano⟩ g c ss sn b = true := by simp [mayA, hok, hbk, h1, h2, h3, hst, hls]
  have ha : atA ⟨key, side, cur, next, send, ceil, sec, nano⟩ g c ss sn b = 0 := by simp [atA, hma, hge]
  have hy : answeredL ⟨key, side, cur, next, send, ceil, sec, nano⟩ g c ss sn b = Ln.keep ⟨key, side, cur, next, send, ceil, sec, nano⟩ g next (upF 0 b) (upF c b) ss sn := by simp [answeredL, hma, ha]
  rw [hy, ha]
  unfold Ln.keep
  have HOK := Lib.hid hok
  have HBK := Lib.hid hbk
  have HST := Lib.hid hst
  have HLS := Lib.hid hls
  clear hok hy ha hma hbk hst hls
  go_enter Tryz.func8, Tryz.ntmps8
  go_wp2_with fail
  refine (laneValid ⟨key, side, cur, next, send, ceil, sec, nano⟩ ao cap hs _).mono ?_
  rintro e w1 ⟨rfl, hb⟩
  rw [HOK.out]
  have hz := hb.size
  simp only [alloc_size] at hz
  have hB := (((((((Below.refl _ w).alloc (Nat.le_refl _) _).alloc (by simp only [alloc_size]; omega) _).alloc (by simp only [alloc_size]; omega) _).alloc (by simp only [alloc_size]; omega) _).alloc (by simp only [alloc_size]; omega) _).alloc (by simp only [alloc_size]; omega) _).trans (hb.mono (by simp only [alloc_size]; omega))
  have x0 : w1.heap[w.heap.size]? = some (.cells #[.slice ao key.length cap, .int .i64 side, .int .i64 cur, .int .i64 next, .int .u64 send, .int .u64 ceil, .int .i64 sec, .int .i64 nano] 27 (0, 0)) := (hb_block hb (w.heap.size) (by simp only [alloc_size]; omega)).trans (by simp only [alloc_get, alloc_size]; repeat first | rw [if_pos trivial] | rw [if_neg (by omega)] | rw [if_pos (by omega)])
  have x1 : w1.heap[w.heap.size + 1]? = some (.cells #[.int .i64 g] 3 (0, 0)) := (hb_block hb (w.heap.size + 1) (by simp only [alloc_size]; omega)).trans (by simp only [alloc_get, alloc_size]; repeat first | rw [if_pos trivial] | rw [if_neg (by omega)] | rw [if_pos (by omega)])
  have x2 : w1.heap[w.heap.size + 2]? = some (.cells #[.int .u64 c] 23 (0, 0)) := (hb_block hb (w.heap.size + 2) (by simp only [alloc_size]; omega)).trans (by simp only [alloc_get, alloc_size]; repeat first | rw [if_pos trivial] | rw [if_neg (by omega)] | rw [if_pos (by omega)])
  have x3 : w1.heap[w.heap.size + 3]? = some (.cells #[.int .i64 ss, .int .i64 sn] 25 (0, 0)) := (hb_block hb (w.heap.size + 3) (by simp only [alloc_size]; omega)).trans (by simp only [alloc_get, alloc_size]; repeat first | rw [if_pos trivial] | rw [if_neg (by omega)] | rw [if_pos (by omega)])
  have x4 : w1.heap[w.heap.size + 4]? = some (.cells #[.int .i64 b] 3 (0, 0)) := (hb_block hb (w.heap.size + 4) (by simp only [alloc_size]; omega)).trans (by simp only [alloc_get, alloc_size]; repeat first | rw [if_pos trivial] | rw [if_neg (by omega)] | rw [if_pos (by omega)])
  have x5 : w1.heap[w.heap.size + 5]? = some (.cells #[.slice none 0 0, .int .i64 0, .int .i64 0, .int .i64 0, .int .u64 0, .int .u64 0, .int .i64 0, .int .i64 0] 27 (0, 0)) := (hb_block hb (w.heap.size + 5) (by simp only [alloc_size]; omega)).trans (by simp only [alloc_get, alloc_size]; repeat first | rw [if_pos trivial] | rw [if_neg (by omega)] | rw [if_pos (by omega)])
  clear hb
  have q0_0 : w1.cell? ⟨w.heap.size, 0, none⟩ = some (.slice ao key.length cap) := cell_of_row w1 (w.heap.size) 0 _ _ _ x0
  have q0_1 : w1.cell? ⟨w.heap.size, 1, none⟩ = some (.int .i64 side) := cell_of_row w1 (w.heap.size) 1 _ _ _ x0
  have q0_2 : w1.cell? ⟨w.heap.size, 2, none⟩ = some (.int .i64 cur) := cell_of_row w1 (w.heap.size) 2 _ _ _ x0
  have q0_3 : w1.cell? ⟨w.heap.size, 3, none⟩ = some (.int .i64 next) := cell_of_row w1 (w.heap.size) 3 _ _ _ x0
  have q0_4 : w1.cell? ⟨w.heap.size, 4, none⟩ = some (.int .u64 send) := cell_of_row w1 (w.heap.size) 4 _ _ _ x0
  have q0_5 : w1.cell? ⟨w.heap.size, 5, none⟩ = some (.int .u64 ceil) := cell_of_row w1 (w.heap.size) 5 _ _ _ x0
  have q0_6 : w1.cell? ⟨w.heap.size, 6, none⟩ = some (.int .i64 sec) := cell_of_row w1 (w.heap.size) 6 _ _ _ x0
  have q0_7 : w1.cell? ⟨w.heap.size, 7, none⟩ = some (.int .i64 nano) := cell_of_row w1 (w.heap.size) 7 _ _ _ x0
  have q0_f (i : Nat) : w1.frozen? ⟨w.heap.size, i, none⟩ = false := frozen_of_row w1 (w.heap.size) i _ _ x0
  have q1_0 : w1.cell? ⟨w.heap.size + 1, 0, none⟩ = some (.int .i64 g) := cell_of_row w1 (w.heap.size + 1) 0 _ _ _ x1
  have q1_f (i : Nat) : w1.frozen? ⟨w.heap.size + 1, i, none⟩ = false := frozen_of_row w1 (w.heap.size + 1) i _ _ x1
  have q2_0 : w1.cell? ⟨w.heap.size + 2, 0, none⟩ = some (.int .u64 c) := cell_of_row w1 (w.heap.size + 2) 0 _ _ _ x2
  have q2_f (i : Nat) : w1.frozen? ⟨w.heap.size + 2, i, none⟩ = false := frozen_of_row w1 (w.heap.size + 2) i _ _ x2
  have q3_0 : w1.cell? ⟨w.heap.size + 3, 0, none⟩ = some (.int .i64 ss) := cell_of_row w1 (w.heap.size + 3) 0 _ _ _ x3
  have q3_1 : w1.cell? ⟨w.heap.size + 3, 1, none⟩ = some (.int .i64 sn) := cell_of_row w1 (w.heap.size + 3) 1 _ _ _ x3
  have q3_f (i : Nat) : w1.frozen? ⟨w.heap.size + 3, i, none⟩ = false := frozen_of_row w1 (w.heap.size + 3) i _ _ x3
  have q4_0 : w1.cell? ⟨w.heap.size + 4, 0, none⟩ = some (.int .i64 b) := cell_of_row w1 (w.heap.size + 4) 0 _ _ _ x4
  have q4_f (i : Nat) : w1.frozen? ⟨w.heap.size + 4, i, none⟩ = false := frozen_of_row w1 (w.heap.size + 4) i _ _ x4
  have HX := Lib.hid (show w1.heap[w.heap.size + 5]? = some (.cells #[.slice none 0 0, .int .i64 0, .int .i64 0, .int .i64 0, .int .u64 0, .int .u64 0, .int .i64 0, .int .i64 0] 27 (0, 0)) from x5)
  have X0 := Lib.hid x0
  have X1 := Lib.hid x1
  have X2 := Lib.hid x2
  have X3 := Lib.hid x3
  have X4 := Lib.hid x4
  have X5 := Lib.hid x5
  clear x0 x1 x2 x3 x4 x5
  go_wp2_with fail
  refine (laneBlock b _).mono ?_
  rintro e w2 ⟨rfl, hw⟩
  obtain rfl := hw.symm
  rw [HBK.out]
  go_wp2_with fail
  refine (stampValid ss sn hss _).mono ?_
  rintro e w2 ⟨rfl, hb⟩
  rw [HST.out]
  clear q0_0 q0_1 q0_2 q0_3 q0_4 q0_5 q0_6 q0_7 q0_f
  clear q1_0 q1_f
  clear q2_0 q2_f
  clear q3_0 q3_1 q3_f
  clear q4_0 q4_f
  have x0 := X0.out
  clear X0
  have x1 := X1.out
  clear X1
  have x2 := X2.out
  clear X2
  have x3 := X3.out
  clear X3
  have x4 := X4.out
  clear X4
  have x5 := X5.out
  clear X5
  have x0 : w2.heap[w.heap.size]? = some (.cells #[.slice ao key.length cap, .int .i64 side, .int .i64 cur, .int .i64 next, .int .u64 send, .int .u64 ceil, .int .i64 sec, .int .i64 nano] 27 (0, 0)) := (hb.block (w.heap.size) (by omega)).trans x0
  have x1 : w2.heap[w.heap.size + 1]? = some (.cells #[.int .i64 g] 3 (0, 0)) := (hb.block (w.heap.size + 1) (by omega)).trans x1
  have x2 : w2.heap[w.heap.size + 2]? = some (.cells #[.int .u64 c] 23 (0, 0)) := (hb.block (w.heap.size + 2) (by omega)).trans x2
  have x3 : w2.heap[w.heap.size + 3]? = some (.cells #[.int .i64 ss, .int .i64 sn] 25 (0, 0)) := (hb.block (w.heap.size + 3) (by omega)).trans x3
  have x4 : w2.heap[w.heap.size + 4]? = some (.cells #[.int .i64 b] 3 (0, 0)) := (hb.block (w.heap.size + 4) (by omega)).trans x4
  have x5 : w2.heap[w.heap.size + 5]? = some (.cells #[.slice none 0 0, .int .i64 0, .int .i64 0, .int .i64 0, .int .u64 0, .int .u64 0, .int .i64 0, .int .i64 0] 27 (0, 0)) := (hb.block (w.heap.size + 5) (by omega)).trans x5
  have hz2 := hb.size
  have hB := hB.trans (hb.mono (by omega))
  clear hb HX
  have q0_0 : w2.cell? ⟨w.heap.size, 0, none⟩ = some (.slice ao key.length cap) := cell_of_row w2 (w.heap.size) 0 _ _ _ x0
  have q0_1 : w2.cell? ⟨w.heap.size, 1, none⟩ = some (.int .i64 side) := cell_of_row w2 (w.heap.size) 1 _ _ _ x0
  have q0_2 : w2.cell? ⟨w.heap.size, 2, none⟩ = some (.int .i64 cur) := cell_of_row w2 (w.heap.size) 2 _ _ _ x0
  have q0_3 : w2.cell? ⟨w.heap.size, 3, none⟩ = some (.int .i64 next) := cell_of_row w2 (w.heap.size) 3 _ _ _ x0
  have q0_4 : w2.cell? ⟨w.heap.size, 4, none⟩ = some (.int .u64 send) := cell_of_row w2 (w.heap.size) 4 _ _ _ x0
  have q0_5 : w2.cell? ⟨w.heap.size, 5, none⟩ = some (.int .u64 ceil) := cell_of_row w2 (w.heap.size) 5 _ _ _ x0
  have q0_6 : w2.cell? ⟨w.heap.size, 6, none⟩ = some (.int .i64 sec) := cell_of_row w2 (w.heap.size) 6 _ _ _ x0
  have q0_7 : w2.cell? ⟨w.heap.size, 7, none⟩ = some (.int .i64 nano) := cell_of_row w2 (w.heap.size) 7 _ _ _ x0
  have q0_f (i : Nat) : w2.frozen? ⟨w.heap.size, i, none⟩ = false := frozen_of_row w2 (w.heap.size) i _ _ x0
  have q1_0 : w2.cell? ⟨w.heap.size + 1, 0, none⟩ = some (.int .i64 g) := cell_of_row w2 (w.heap.size + 1) 0 _ _ _ x1
  have q1_f (i : Nat) : w2.frozen? ⟨w.heap.size + 1, i, none⟩ = false := frozen_of_row w2 (w.heap.size + 1) i _ _ x1
  have q2_0 : w2.cell? ⟨w.heap.size + 2, 0, none⟩ = some (.int .u64 c) := cell_of_row w2 (w.heap.size + 2) 0 _ _ _ x2
  have q2_f (i : Nat) : w2.frozen? ⟨w.heap.size + 2, i, none⟩ = false := frozen_of_row w2 (w.heap.size + 2) i _ _ x2
  have q3_0 : w2.cell? ⟨w.heap.size + 3, 0, none⟩ = some (.int .i64 ss) := cell_of_row w2 (w.heap.size + 3) 0 _ _ _ x3
  have q3_1 : w2.cell? ⟨w.heap.size + 3, 1, none⟩ = some (.int .i64 sn) := cell_of_row w2 (w.heap.size + 3) 1 _ _ _ x3
  have q3_f (i : Nat) : w2.frozen? ⟨w.heap.size + 3, i, none⟩ = false := frozen_of_row w2 (w.heap.size + 3) i _ _ x3
  have q4_0 : w2.cell? ⟨w.heap.size + 4, 0, none⟩ = some (.int .i64 b) := cell_of_row w2 (w.heap.size + 4) 0 _ _ _ x4
  have q4_f (i : Nat) : w2.frozen? ⟨w.heap.size + 4, i, none⟩ = false := frozen_of_row w2 (w.heap.size + 4) i _ _ x4
  have X0 := Lib.hid x0
  have X1 := Lib.hid x1
  have X2 := Lib.hid x2
  have X3 := Lib.hid x3
  have X4 := Lib.hid x4
  have X5 := Lib.hid x5
  clear x0 x1 x2 x3 x4 x5
  go_wp2_with fail
  refine (stampLess sec nano ss sn _).mono ?_
  rintro e w3 ⟨rfl, hb⟩
  rw [HLS.out]
  clear q0_0 q0_1 q0_2 q0_3 q0_4 q0_5 q0_6 q0_7 q0_f
  clear q1_0 q1_f
  clear q2_0 q2_f
  clear q3_0 q3_1 q3_f
  clear q4_0 q4_f
  have x0 := X0.out
  clear X0
  have x1 := X1.out
  clear X1
  have x2 := X2.out
  clear X2
  have x3 := X3.out
  clear X3
  have x4 := X4.out
  clear X4
  have x5 := X5.out
  clear X5
  have x0 : w3.heap[w.heap.size]? = some (.cells #[.slice ao key.length cap, .int .i64 side, .int .i64 cur, .int .i64 next, .int .u64 send, .int .u64 ceil, .int .i64 sec, .int .i64 nano] 27 (0, 0)) := (hb.block (w.heap.size) (by omega)).trans x0
  have x1 : w3.heap[w.heap.size + 1]? = some (.cells #[.int .i64 g] 3 (0, 0)) := (hb.block (w.heap.size + 1) (by omega)).trans x1
  have x2 : w3.heap[w.heap.size + 2]? = some (.cells #[.int .u64 c] 23 (0, 0)) := (hb.block (w.heap.size + 2) (by omega)).trans x2
  have x3 : w3.heap[w.heap.size + 3]? = some (.cells #[.int .i64 ss, .int .i64 sn] 25 (0, 0)) := (hb.block (w.heap.size + 3) (by omega)).trans x3
  have x4 : w3.heap[w.heap.size + 4]? = some (.cells #[.int .i64 b] 3 (0, 0)) := (hb.block (w.heap.size + 4) (by omega)).trans x4
  have x5 : w3.heap[w.heap.size + 5]? = some (.cells #[.slice none 0 0, .int .i64 0, .int .i64 0, .int .i64 0, .int .u64 0, .int .u64 0, .int .i64 0, .int .i64 0] 27 (0, 0)) := (hb.block (w.heap.size + 5) (by omega)).trans x5
  have hz3 := hb.size
  have hB := hB.trans (hb.mono (by omega))
  clear hb
  have hlt0 : w.heap.size < w3.heap.size := by omega
  have hlt1 : w.heap.size + 1 < w3.heap.size := by omega
  have q0_0 : w3.cell? ⟨w.heap.size, 0, none⟩ = some (.slice ao key.length cap) := cell_of_row w3 (w.heap.size) 0 _ _ _ x0
  have q0_1 : w3.cell? ⟨w.heap.size, 1, none⟩ = some (.int .i64 side) := cell_of_row w3 (w.heap.size) 1 _ _ _ x0
  have q0_2 : w3.cell? ⟨w.heap.size, 2, none⟩ = some (.int .i64 cur) := cell_of_row w3 (w.heap.size) 2 _ _ _ x0
  have q0_3 : w3.cell? ⟨w.heap.size, 3, none⟩ = some (.int .i64 next) := cell_of_row w3 (w.heap.size) 3 _ _ _ x0
  have q0_4 : w3.cell? ⟨w.heap.size, 4, none⟩ = some (.int .u64 send) := cell_of_row w3 (w.heap.size) 4 _ _ _ x0
  have q0_5 : w3.cell? ⟨w.heap.size, 5, none⟩ = some (.int .u64 ceil) := cell_of_row w3 (w.heap.size) 5 _ _ _ x0
  have q0_6 : w3.cell? ⟨w.heap.size, 6, none⟩ = some (.int .i64 sec) := cell_of_row w3 (w.heap.size) 6 _ _ _ x0
  have q0_7 : w3.cell? ⟨w.heap.size, 7, none⟩ = some (.int .i64 nano) := cell_of_row w3 (w.heap.size) 7 _ _ _ x0
  have q0_f (i : Nat) : w3.frozen? ⟨w.heap.size, i, none⟩ = false := frozen_of_row w3 (w.heap.size) i _ _ x0
  have q1_0 : w3.cell? ⟨w.heap.size + 1, 0, none⟩ = some (.int .i64 g) := cell_of_row w3 (w.heap.size + 1) 0 _ _ _ x1
  have q1_f (i : Nat) : w3.frozen? ⟨w.heap.size + 1, i, none⟩ = false := frozen_of_row w3 (w.heap.size + 1) i _ _ x1
  have q2_0 : w3.cell? ⟨w.heap.size + 2, 0, none⟩ = some (.int .u64 c) := cell_of_row w3 (w.heap.size + 2) 0 _ _ _ x2
  have q2_f (i : Nat) : w3.frozen? ⟨w.heap.size + 2, i, none⟩ = false := frozen_of_row w3 (w.heap.size + 2) i _ _ x2
  have q3_0 : w3.cell? ⟨w.heap.size + 3, 0, none⟩ = some (.int .i64 ss) := cell_of_row w3 (w.heap.size + 3) 0 _ _ _ x3
  have q3_1 : w3.cell? ⟨w.heap.size + 3, 1, none⟩ = some (.int .i64 sn) := cell_of_row w3 (w.heap.size + 3) 1 _ _ _ x3
  have q3_f (i : Nat) : w3.frozen? ⟨w.heap.size + 3, i, none⟩ = false := frozen_of_row w3 (w.heap.size + 3) i _ _ x3
  have q4_0 : w3.cell? ⟨w.heap.size + 4, 0, none⟩ = some (.int .i64 b) := cell_of_row w3 (w.heap.size + 4) 0 _ _ _ x4
  have q4_f (i : Nat) : w3.frozen? ⟨w.heap.size + 4, i, none⟩ = false := frozen_of_row w3 (w.heap.size + 4) i _ _ x4
  have X0 := Lib.hid x0
  have X1 := Lib.hid x1
  have X2 := Lib.hid x2
  have X3 := Lib.hid x3
  have X4 := Lib.hid x4
  have X5 := Lib.hid x5
  clear x0 x1 x2 x3 x4 x5
  go_wp2_with fail
  generalize hW : w3.alloc (Obj.cells #[.int .u64 0] 23 (0, 0)) = U
  have hzW : w.heap.size + 6 ≤ w3.heap.size := by omega
  have hB2 := hB.alloc (B := w.heap.size) (by omega) (Obj.cells #[.int .u64 0] 23 (0, 0))
  rw [hW] at hB2
  have hWs : U.drew.heap.size = w3.heap.size + 1 := by rw [← hW]; exact alloc_size _ _
  have xa : U.heap[w3.heap.size]? = some (.cells #[.int .u64 0] 23 (0, 0)) := by rw [← hW]; exact heap_alloc_new _ _
  clear q0_0 q0_1 q0_2 q0_3 q0_4 q0_5 q0_6 q0_7 q0_f
  clear q1_0 q1_f
  clear q2_0 q2_f
  clear q3_0 q3_1 q3_f
  clear q4_0 q4_f
  have x0 := X0.out
  clear X0
  have x1 := X1.out
  clear X1
  have x2 := X2.out
  clear X2
  have x3 := X3.out
  clear X3
  have x4 := X4.out
  clear X4
  have x5 := X5.out
  clear X5
  have x0 : U.heap[w.heap.size]? = some (.cells #[.slice ao key.length cap, .int .i64 side, .int .i64 cur, .int .i64 next, .int .u64 send, .int .u64 ceil, .int .i64 sec, .int .i64 nano] 27 (0, 0)) := by rw [← hW]; exact (alloc_old _ _ _ (by omega)).trans x0
  have x1 : U.heap[w.heap.size + 1]? = some (.cells #[.int .i64 g] 3 (0, 0)) := by rw [← hW]; exact (alloc_old _ _ _ (by omega)).trans x1
  have x2 : U.heap[w.heap.size + 2]? = some (.cells #[.int .u64 c] 23 (0, 0)) := by rw [← hW]; exact (alloc_old _ _ _ (by omega)).trans x2
  have x3 : U.heap[w.heap.size + 3]? = some (.cells #[.int .i64 ss, .int .i64 sn] 25 (0, 0)) := by rw [← hW]; exact (alloc_old _ _ _ (by omega)).trans x3
  have x4 : U.heap[w.heap.size + 4]? = some (.cells #[.int .i64 b] 3 (0, 0)) := by rw [← hW]; exact (alloc_old _ _ _ (by omega)).trans x4
  have x5 : U.heap[w.heap.size + 5]? = some (.cells #[.slice none 0 0, .int .i64 0, .int .i64 0, .int .i64 0, .int .u64 0, .int .u64 0, .int .i64 0, .int .i64 0] 27 (0, 0)) := by rw [← hW]; exact (alloc_old _ _ _ (by omega)).trans x5
  have c0 : U.cell? ⟨w3.heap.size, 0, none⟩ = some (.int .u64 0) := cell_of_row U (w3.heap.size) 0 _ _ _ xa
  have r0_0 : U.cell? ⟨w.heap.size, 0, none⟩ = some (.slice ao key.length cap) := cell_of_row U (w.heap.size) 0 _ _ _ x0
  have r0_1 : U.cell? ⟨w.heap.size, 1, none⟩ = some (.int .i64 side) := cell_of_row U (w.heap.size) 1 _ _ _ x0
  have r0_2 : U.cell? ⟨w.heap.size, 2, none⟩ = some (.int .i64 cur) := cell_of_row U (w.heap.size) 2 _ _ _ x0
  have r0_3 : U.cell? ⟨w.heap.size, 3, none⟩ = some (.int .i64 next) := cell_of_row U (w.heap.size) 3 _ _ _ x0
  have r0_4 : U.cell? ⟨w.heap.size, 4, none⟩ = some (.int .u64 send) := cell_of_row U (w.heap.size) 4 _ _ _ x0
  have r0_5 : U.cell? ⟨w.heap.size, 5, none⟩ = some (.int .u64 ceil) := cell_of_row U (w.heap.size) 5 _ _ _ x0
  have r0_6 : U.cell? ⟨w.heap.size, 6, none⟩ = some (.int .i64 sec) := cell_of_row U (w.heap.size) 6 _ _ _ x0
  have r0_7 : U.cell? ⟨w.heap.size, 7, none⟩ = some (.int .i64 nano) := cell_of_row U (w.heap.size) 7 _ _ _ x0
  have r0_f (i : Nat) : U.frozen? ⟨w.heap.size, i, none⟩ = false := frozen_of_row U (w.heap.size) i _ _ x0
  have r1_0 : U.cell? ⟨w.heap.size + 1, 0, none⟩ = some (.int .i64 g) := cell_of_row U (w.heap.size + 1) 0 _ _ _ x1
  have r1_f (i : Nat) : U.frozen? ⟨w.heap.size + 1, i, none⟩ = false := frozen_of_row U (w.heap.size + 1) i _ _ x1
  have r2_0 : U.cell? ⟨w.heap.size + 2, 0, none⟩ = some (.int .u64 c) := cell_of_row U (w.heap.size + 2) 0 _ _ _ x2
  have r2_f (i : Nat) : U.frozen? ⟨w.heap.size + 2, i, none⟩ = false := frozen_of_row U (w.heap.size + 2) i _ _ x2
  have r3_0 : U.cell? ⟨w.heap.size + 3, 0, none⟩ = some (.int .i64 ss) := cell_of_row U (w.heap.size + 3) 0 _ _ _ x3
  have r3_1 : U.cell? ⟨w.heap.size + 3, 1, none⟩ = some (.int .i64 sn) := cell_of_row U (w.heap.size + 3) 1 _ _ _ x3
  have r3_f (i : Nat) : U.frozen? ⟨w.heap.size + 3, i, none⟩ = false := frozen_of_row U (w.heap.size + 3) i _ _ x3
  have r4_0 : U.cell? ⟨w.heap.size + 4, 0, none⟩ = some (.int .i64 b) := cell_of_row U (w.heap.size + 4) 0 _ _ _ x4
  have r4_f (i : Nat) : U.frozen? ⟨w.heap.size + 4, i, none⟩ = false := frozen_of_row U (w.heap.size + 4) i _ _ x4
  have hrW : Rd U.drew ao key := (hr.on hB2 : Rd U ao key)
  have hn1 : w3.heap.size ≠ w.heap.size + 5 := by omega
  have hn2 : w.heap.size ≠ w.heap.size + 5 := by omega
  have X5 := Lib.hid x5
  clear x0 x1 x2 x3 x4 x5 xa hW hB
  have one0 : (0 : Int) ≤ 0 := by decide
  have one1 : (0 : Int) ≤ 18446744073709551615 := by decide
  have hclo : ∀ (V : World) (gg : Nat) (ar : Option Addr) (cr : Nat), Below U.drew.heap.size U.drew V → U.drew.heap.size ≤ gg → V.heap[gg]? = some (.cells #[.slice ar key.length cr, .int .i64 side, .int .i64 cur, .int .i64 next, .int .u64 send, .int .u64 ceil, .int .i64 sec, .int .i64 nano] 27 (0, 0)) → Calls Tryz.prog 29 (#[.pointer (some ⟨gg, 0, none⟩)] ++ #[.pointer (some ⟨w.heap.size + 1, 0, none⟩), .pointer (some ⟨w3.heap.size, 0, none⟩), .pointer (some ⟨w.heap.size + 4, 0, none⟩), .pointer (some ⟨w.heap.size + 2, 0, none⟩), .pointer (some ⟨w.heap.size + 3, 0, none⟩)]) V (Turns V gg #[.slice ar key.length cr, .int .i64 side, .int .i64 g, .int .i64 next, .int .u64 (upF 0 b), .int .u64 (upF c b), .int .i64 ss, .int .i64 sn]) := by
    intro V gg ar cr hB hg hx
    rw [hWs] at hg
    have t1 : V.cell? ⟨w.heap.size + 1, 0, none⟩ = some (.int .i64 g) := (hB.cell (by rw [hWs]; show w.heap.size + 1 < _; omega)).trans r1_0
    have t2 : V.cell? ⟨w3.heap.size, 0, none⟩ = some (.int .u64 0) := (hB.cell (by rw [hWs]; show w3.heap.size < _; omega)).trans c0
    have t3 : V.cell? ⟨w.heap.size + 4, 0, none⟩ = some (.int .i64 b) := (hB.cell (by rw [hWs]; show w.heap.size + 4 < _; omega)).trans r4_0
    have t4 : V.cell? ⟨w.heap.size + 2, 0, none⟩ = some (.int .u64 c) := (hB.cell (by rw [hWs]; show w.heap.size + 2 < _; omega)).trans r2_0
    have t5 : V.cell? ⟨w.heap.size + 3, 0, none⟩ = some (.int .i64 ss) := (hB.cell (by rw [hWs]; show w.heap.size + 3 < _; omega)).trans r3_0
    have t6 : V.cell? ⟨w.heap.size + 3, 1, none⟩ = some (.int .i64 sn) := (hB.cell (by rw [hWs]; show w.heap.size + 3 < _; omega)).trans r3_1
    have n1 : w.heap.size + 1 ≠ gg := by omega
    have n2 : w3.heap.size ≠ gg := by omega
    have n3 : w.heap.size + 4 ≠ gg := by omega
    have n4 : w.heap.size + 2 ≠ gg := by omega
    have n5 : w.heap.size + 3 ≠ gg := by omega
    exact cloAnswered V gg ar cr key side cur next send ceil sec nano hx (w.heap.size + 1) g (w3.heap.size) 0 (w.heap.size + 4) b (w.heap.size + 2) c (w.heap.size + 3) ss sn n1 t1 n2 t2 one0 one1 n3 t3 n4 t4 hc0 hc1 n5 t5 t6
  have HC := Lib.hid hclo
  clear hclo
  go_region_held3 (fun w' => w'.cell? ⟨w3.heap.size, 0, none⟩ = some (.int .u64 0) ∧ w'.cell? ⟨w.heap.size, 0, none⟩ = some (.slice ao key.length cap) ∧ w'.cell? ⟨w.heap.size, 1, none⟩ = some (.int .i64 side) ∧ w'.cell? ⟨w.heap.size, 2, none⟩ = some (.int .i64 cur) ∧ w'.cell? ⟨w.heap.size, 3, none⟩ = some (.int .i64 next) ∧ w'.cell? ⟨w.heap.size, 4, none⟩ = some (.int .u64 send) ∧ w'.cell? ⟨w.heap.size, 5, none⟩ = some (.int .u64 ceil) ∧ w'.cell? ⟨w.heap.size, 6, none⟩ = some (.int .i64 sec) ∧ w'.cell? ⟨w.heap.size, 7, none⟩ = some (.int .i64 nano)) (((try simp only [cell_drew, cell_far _ _ _ _ _ _ hn1, cell_far _ _ _ _ _ _ hn2]); (refine ⟨?_, ?_, ?_, ?_, ?_, ?_, ?_, ?_, ?_⟩ <;> with_reducible assumption))) ((go_at_call 23; refine (laneChanged1 ⟨key, side, cur, next, send, ceil, sec, nano⟩ g next (upF 0 b) (upF c b) ss sn ao cap 29 _ U.drew hs HOK.out hrW (fun _ _ => rfl) HC.out).mono ?_; rintro e V ⟨ar, cr, he, hm, hb2⟩; obtain rfl : e = .returned (.agg #[.slice ar key.length cr, .int .i64 side, .int .i64 g, .int .i64 next, .int .u64 (upF 0 b), .int .u64 (upF c b), .int .i64 ss, .int .i64 sn]) := he; have dc0 : V.cell? ⟨w3.heap.size, 0, none⟩ = some (.int .u64 0) := (hb2.cell (by rw [hWs]; show w3.heap.size < _; omega)).trans c0; have dr0_0 : V.cell? ⟨w.heap.size, 0, none⟩ = some (.slice ao key.length cap) := (hb2.cell (by rw [hWs]; show w.heap.size < _; omega)).trans r0_0; have dr0_1 : V.cell? ⟨w.heap.size, 1, none⟩ = some (.int .i64 side) := (hb2.cell (by rw [hWs]; show w.heap.size < _; omega)).trans r0_1; have dr0_2 : V.cell? ⟨w.heap.size, 2, none⟩ = some (.int .i64 cur) := (hb2.cell (by rw [hWs]; show w.heap.size < _; omega)).trans r0_2; have dr0_3 : V.cell? ⟨w.heap.size, 3, none⟩ = some (.int .i64 next) := (hb2.cell (by rw [hWs]; show w.heap.size < _; omega)).trans r0_3; have dr0_4 : V.cell? ⟨w.heap.size, 4, none⟩ = some (.int .u64 send) := (hb2.cell (by rw [hWs]; show w.heap.size < _; omega)).trans r0_4; have dr0_5 : V.cell? ⟨w.heap.size, 5, none⟩ = some (.int .u64 ceil) := (hb2.cell (by rw [hWs]; show w.heap.size < _; omega)).trans r0_5; have dr0_6 : V.cell? ⟨w.heap.size, 6, none⟩ = some (.int .i64 sec) := (hb2.cell (by rw [hWs]; show w.heap.size < _; omega)).trans r0_6; have dr0_7 : V.cell? ⟨w.heap.size, 7, none⟩ = some (.int .i64 nano) := (hb2.cell (by rw [hWs]; show w.heap.size < _; omega)).trans r0_7; have y : V.heap[w.heap.size + 5]? = some (.cells #[.slice none 0 0, .int .i64 0, .int .i64 0, .int .i64 0, .int .u64 0, .int .u64 0, .int .i64 0, .int .i64 0] 27 (0, 0)) := (hb2.block (w.heap.size + 5) (by rw [hWs]; omega)).trans X5.out; have b0 : V.cell? ⟨w.heap.size + 5, 0, none⟩ = some (.slice none 0 0) := cell_of_row V (w.heap.size + 5) 0 _ _ _ y; have b1 : V.cell? ⟨w.heap.size + 5, 1, none⟩ = some (.int .i64 0) := cell_of_row V (w.heap.size + 5) 1 _ _ _ y; have b2 : V.cell? ⟨w.heap.size + 5, 2, none⟩ = some (.int .i64 0) := cell_of_row V (w.heap.size + 5) 2 _ _ _ y; have b3 : V.cell? ⟨w.heap.size + 5, 3, none⟩ = some (.int .i64 0) := cell_of_row V (w.heap.size + 5) 3 _ _ _ y; have b4 : V.cell? ⟨w.heap.size + 5, 4, none⟩ = some (.int .u64 0) := cell_of_row V (w.heap.size + 5) 4 _ _ _ y; have b5 : V.cell? ⟨w.heap.size + 5, 5, none⟩ = some (.int .u64 0) := cell_of_row V (w.heap.size + 5) 5 _ _ _ y; have b6 : V.cell? ⟨w.heap.size + 5, 6, none⟩ = some (.int .i64 0) := cell_of_row V (w.heap.size + 5) 6 _ _ _ y; have b7 : V.cell? ⟨w.heap.size + 5, 7, none⟩ = some (.int .i64 0) := cell_of_row V (w.heap.size + 5) 7 _ _ _ y; have bf (i : Nat) : V.frozen? ⟨w.heap.size + 5, i, none⟩ = false := frozen_of_row V (w.heap.size + 5) i _ _ y; clear y))
  go_wp2_with fail
  refine bodyPost_ret (v := .tuple #[.agg #[.slice ar key.length cr, .int .i64 side, .int .i64 g, .int .i64 next, .int .u64 (upF 0 b), .int .u64 (upF c b), .int .i64 ss, .int .i64 sn], .int .u64 0]) (by simp [results, Tryz.results8, go_sem, b0, b1, b2, b3, b4, b5, b6, b7]) rfl ⟨_, _, rfl, ?_, ?_⟩
  · refine Mine.from (B := w.heap.size + 6) ?_ (by omega)
    iterate 8 (refine Mine.setCell ?_ _ _ _ (by omega))
    exact Mine.from hm (by rw [hWs]; omega)
  · iterate 8 (refine Below.set ?_ _ _ _ (by omega))
    exact hB2.drew.trans (hb2.mono (by rw [hWs]; omega))
set_option maxHeartbeats 4000000 in
theorem laneAnswered (L : Ln) (ao : Option Addr) (cap : Nat) (g c ss sn b : Int) (hc0 : 0 ≤ c) (hc1 : c ≤ 18446744073709551615) (hss : ss ≤ 9223372036854775807) (w : World) (hf : L.fits) (hr : Rd w ao L.key) :
   Calls Tryz.prog 8 #[L.val ao cap, .int .i64 g, .int .u64 c, .agg #[.int .i64 ss, .int .i64 sn], .int .i64 b] w fun e w' => ∃ ao' cap', e = .returned (.tuple #[(answeredL L g c ss sn b).val ao' cap', .int .u64 (atA L g c ss sn b)]) ∧ Mine w' w.heap.size 5 ao' cap' (answeredL L g c ss sn b).key ∧ Below w.heap.size w w' := by
  by_cases hok : L.ok = true
  · by_cases hbk : blkB b = true
    · by_cases h1 : L.cur < g
      · by_cases h2 : g ≤ 2147483647
        · by_cases h3 : c ≤ 18446744073709551614
          · by_cases hst : stampB ss sn = true
            · by_cases hls : lessB L.sec L.nano ss sn = true
              · by_cases hge : g ≤ L.next
                · exact laneAnswered_y1 L ao cap g c ss sn b hc0 hc1 hss w hf hr hok hbk h1 h2 h3 hst hls hge
                · exact laneAnswered_y0 L ao cap g c ss sn b hc0 hc1 hss w hf hr hok hbk h1 h2 h3 hst hls hge
              · exact laneAnswered_n6 L ao cap g c ss sn b hc0 hc1 hss w hf hr hok hbk h1 h2 h3 hst (by simpa using hls)
            · exact laneAnswered_n5 L ao cap g c ss sn b hc0 hc1 hss w hf hr hok hbk h1 h2 h3 (by simpa using hst)
          · exact laneAnswered_n4 L ao cap g c ss sn b hc0 hc1 hss w hf hr hok hbk h1 h2 h3
        · exact laneAnswered_n3 L ao cap g c ss sn b hc0 hc1 hss w hf hr hok hbk h1 h2
      · exact laneAnswered_n2 L ao cap g c ss sn b hc0 hc1 hss w hf hr hok hbk h1
    · exact laneAnswered_n1 L ao cap g c ss sn b hc0 hc1 hss w hf hr hok (by simpa using hbk)
  · exact laneAnswered_n0 L ao cap g c ss sn b hc0 hc1 hss w hf hr  (by simpa using hok)
set_option maxHeartbeats 1600000 in
theorem laneRaise_n0 (L : Ln) (ao : Option Addr) (cap : Nat) (c b : Int) (_hc0 : 0 ≤ c) (_hc1 : c ≤ 18446744073709551615) (w : World) (hf : L.fits) (hr : Rd w ao L.key) (hb : blkB b = false) :
   Calls Tryz.prog 13 #[L.val ao cap, .int .u64 c, .int .i64 b] w fun e w' => ∃ ao' cap', e = .returned ((raiseL L c b).val ao' cap') ∧ Mine w' w.heap.size 5 ao' cap' (raiseL L c b).key ∧ Below w.heap.size w w' := by
  obtain ⟨hl, hcur0, hcur1, hnext0, hnext1, hsend0, hsend1, hceil0, hceil1, hs⟩ := hf
  obtain ⟨key, side, cur, next, send, ceil, sec, nano⟩ := L
  unfold Ln.val
  simp only at hl hcur0 hcur1 hnext0 hnext1 hsend0 hsend1 hceil0 hceil1 hs hr ⊢
  have hz : raiseL ⟨key, side, cur, next, send, ceil, sec, nano⟩ c b = Ln.zero := by
    have : mayS ⟨key, side, cur, next, send, ceil, sec, nano⟩ c b = false := by simp [mayS, hb]
    simp [raiseL, this]
  rw [hz]
  unfold Ln.zero
  have HB := Lib.hid (show blkB b = false from hb)
  clear hb hz
  go_enter Tryz.func13, Tryz.ntmps13
  go_wp2_with fail
  refine (laneBlock b _).mono ?_
  rintro e w1 ⟨rfl, rfl⟩
  rw [HB.out]
  go_wp2_with fail
  refine (laneChanged0 ⟨key, side, cur, next, send, ceil, sec, nano⟩ ao cap false _ _ hs (by simp)).mono ?_
  rintro e w2 ⟨he, hb2⟩
  obtain rfl : e = .returned (.agg #[.slice none 0 0, .int .i64 0, .int .i64 0, .int .i64 0, .int .u64 0, .int .u64 0, .int .i64 0, .int .i64 0]) := he
  have y : w2.heap[w.heap.size + 3]? = some (.cells #[.slice none 0 0, .int .i64 0, .int .i64 0, .int .i64 0, .int .u64 0, .int .u64 0, .int .i64 0, .int .i64 0] 27 (0, 0)) := (hb_block hb2 (w.heap.size + 3) (by simp only [alloc_size]; omega)).trans (by simp only [alloc_get, alloc_size]; repeat first | rw [if_pos trivial] | rw [if_neg (by omega)] | rw [if_pos (by omega)])
  have b0 : w2.cell? ⟨w.heap.size + 3, 0, none⟩ = some (.slice none 0 0) := cell_of_row w2 (w.heap.size + 3) 0 _ _ _ y
  have b1 : w2.cell? ⟨w.heap.size + 3, 1, none⟩ = some (.int .i64 0) := cell_of_row w2 (w.heap.size + 3) 1 _ _ _ y
  have b2 : w2.cell? ⟨w.heap.size + 3, 2, none⟩ = some (.int .i64 0) := cell_of_row w2 (w.heap.size + 3) 2 _ _ _ y
  have b3 : w2.cell? ⟨w.heap.size + 3, 3, none⟩ = some (.int .i64 0) := cell_of_row w2 (w.heap.size + 3) 3 _ _ _ y
  have b4 : w2.cell? ⟨w.heap.size + 3, 4, none⟩ = some (.int .u64 0) := cell_of_row w2 (w.heap.size + 3) 4 _ _ _ y
  have b5 : w2.cell? ⟨w.heap.size + 3, 5, none⟩ = some (.int .u64 0) := cell_of_row w2 (w.heap.size + 3) 5 _ _ _ y
  have b6 : w2.cell? ⟨w.heap.size + 3, 6, none⟩ = some (.int .i64 0) := cell_of_row w2 (w.heap.size + 3) 6 _ _ _ y
  have b7 : w2.cell? ⟨w.heap.size + 3, 7, none⟩ = some (.int .i64 0) := cell_of_row w2 (w.heap.size + 3) 7 _ _ _ y
  have bf (i : Nat) : w2.frozen? ⟨w.heap.size + 3, i, none⟩ = false := frozen_of_row w2 (w.heap.size + 3) i _ _ y
  clear y
  go_wp2_with fail
  refine bodyPost_ret (v := .agg #[.slice none 0 0, .int .i64 0, .int .i64 0, .int .i64 0, .int .u64 0, .int .u64 0, .int .i64 0, .int .i64 0]) (by simp [results, Tryz.results13, go_sem, b0, b1, b2, b3, b4, b5, b6, b7]) rfl ⟨_, _, rfl, ?_, ?_⟩
  · exact Or.inl ⟨rfl, rfl, rfl⟩
  · iterate 8 (refine Below.set ?_ _ _ _ (by omega))
    exact (((((Below.refl _ w).alloc (Nat.le_refl _) _).alloc (by simp only [alloc_size]; omega) _).alloc (by simp only [alloc_size]; omega) _).alloc (by simp only [alloc_size]; omega) _).trans (hb2.mono (by simp only [alloc_size]; omega))
set_option maxHeartbeats 1600000 in
theorem laneRaise_n1 (L : Ln) (ao : Option Addr) (cap : Nat) (c b : Int) (_hc0 : 0 ≤ c) (_hc1 : c ≤ 18446744073709551615) (w : World) (hf : L.fits) (hr : Rd w ao L.key) (hb : blkB b = true) (h1 : ¬ L.ceil ≤ c) :
   Calls Tryz.prog 13 #[L.val ao cap, .int .u64 c, .int .i64 b] w fun e w' => ∃ ao' cap', e = .returned ((raiseL L c b).val ao' cap') ∧ Mine w' w.heap.size 5 ao' cap' (raiseL L c b).key ∧ Below w.heap.size w w' := by
  obtain ⟨hl, hcur0, hcur1, hnext0, hnext1, hsend0, hsend1, hceil0, hceil1, hs⟩ := hf
  obtain ⟨key, side, cur, next, send, ceil, sec, nano⟩ := L
  unfold Ln.val
  simp only at hl hcur0 hcur1 hnext0 hnext1 hsend0 hsend1 hceil0 hceil1 hs hr h1 ⊢
  have hz : raiseL ⟨key, side, cur, next, send, ceil, sec, nano⟩ c b = Ln.zero := by
    have : mayS ⟨key, side, cur, next, send, ceil, sec, nano⟩ c b = false := by simp [mayS, hb, h1]
    simp [raiseL, this]
  rw [hz]
  unfold Ln.zero
  have HB := Lib.hid (show blkB b = true from hb)
  clear hb hz
  go_enter Tryz.func13, Tryz.ntmps13
  go_wp2_with fail
  refine (laneBlock b _).mono ?_
  rintro e w1 ⟨rfl, rfl⟩
  rw [HB.out]
  go_wp2_with fail
  refine (laneChanged0 ⟨key, side, cur, next, send, ceil, sec, nano⟩ ao cap false _ _ hs (by simp)).mono ?_
  rintro e w2 ⟨he, hb2⟩
  obtain rfl : e = .returned (.agg #[.slice none 0 0, .int .i64 0, .int .i64 0, .int .i64 0, .int .u64 0, .int .u64 0, .int .i64 0, .int .i64 0]) := he
  have y : w2.heap[w.heap.size + 3]? = some (.cells #[.slice none 0 0, .int .i64 0, .int .i64 0, .int .i64 0, .int .u64 0, .int .u64 0, .int .i64 0, .int .i64 0] 27 (0, 0)) := (hb_block hb2 (w.heap.size + 3) (by simp only [alloc_size]; omega)).trans (by simp only [alloc_get, alloc_size]; repeat first | rw [if_pos trivial] | rw [if_neg (by omega)] | rw [if_pos (by omega)])
  have b0 : w2.cell? ⟨w.heap.size + 3, 0, none⟩ = some (.slice none 0 0) := cell_of_row w2 (w.heap.size + 3) 0 _ _ _ y
  have b1 : w2.cell? ⟨w.heap.size + 3, 1, none⟩ = some (.int .i64 0) := cell_of_row w2 (w.heap.size + 3) 1 _ _ _ y
  have b2 : w2.cell? ⟨w.heap.size + 3, 2, none⟩ = some (.int .i64 0) := cell_of_row w2 (w.heap.size + 3) 2 _ _ _ y
  have b3 : w2.cell? ⟨w.heap.size + 3, 3, none⟩ = some (.int .i64 0) := cell_of_row w2 (w.heap.size + 3) 3 _ _ _ y
  have b4 : w2.cell? ⟨w.heap.size + 3, 4, none⟩ = some (.int .u64 0) := cell_of_row w2 (w.heap.size + 3) 4 _ _ _ y
  have b5 : w2.cell? ⟨w.heap.size + 3, 5, none⟩ = some (.int .u64 0) := cell_of_row w2 (w.heap.size + 3) 5 _ _ _ y
  have b6 : w2.cell? ⟨w.heap.size + 3, 6, none⟩ = some (.int .i64 0) := cell_of_row w2 (w.heap.size + 3) 6 _ _ _ y
  have b7 : w2.cell? ⟨w.heap.size + 3, 7, none⟩ = some (.int .i64 0) := cell_of_row w2 (w.heap.size + 3) 7 _ _ _ y
  have bf (i : Nat) : w2.frozen? ⟨w.heap.size + 3, i, none⟩ = false := frozen_of_row w2 (w.heap.size + 3) i _ _ y
  clear y
  go_wp2_with fail
  refine bodyPost_ret (v := .agg #[.slice none 0 0, .int .i64 0, .int .i64 0, .int .i64 0, .int .u64 0, .int .u64 0, .int .i64 0, .int .i64 0]) (by simp [results, Tryz.results13, go_sem, b0, b1, b2, b3, b4, b5, b6, b7]) rfl ⟨_, _, rfl, ?_, ?_⟩
  · exact Or.inl ⟨rfl, rfl, rfl⟩
  · iterate 8 (refine Below.set ?_ _ _ _ (by omega))
    exact (((((Below.refl _ w).alloc (Nat.le_refl _) _).alloc (by simp only [alloc_size]; omega) _).alloc (by simp only [alloc_size]; omega) _).alloc (by simp only [alloc_size]; omega) _).trans (hb2.mono (by simp only [alloc_size]; omega))
set_option maxHeartbeats 1600000 in
theorem laneRaise_n2 (L : Ln) (ao : Option Addr) (cap : Nat) (c b : Int) (hc0 : 0 ≤ c) (hc1 : c ≤ 18446744073709551615) (w : World) (hf : L.fits) (hr : Rd w ao L.key) (hb : blkB b = true) (h1 : L.ceil ≤ c) (h2 : ¬ c ≤ 18446744073709551614) :
   Calls Tryz.prog 13 #[L.val ao cap, .int .u64 c, .int .i64 b] w fun e w' => ∃ ao' cap', e = .returned ((raiseL L c b).val ao' cap') ∧ Mine w' w.heap.size 5 ao' cap' (raiseL L c b).key ∧ Below w.heap.size w w' := by
  obtain ⟨hl, hcur0, hcur1, hnext0, hnext1, hsend0, hsend1, hceil0, hceil1, hs⟩ := hf
  obtain ⟨key, side, cur, next, send, ceil, sec, nano⟩ := L
  unfold Ln.val
  simp only at hl hcur0 hcur1 hnext0 hnext1 hsend0 hsend1 hceil0 hceil1 hs hr h1 h2 ⊢
  obtain rfl : c = 18446744073709551615 := by omega
  clear h2 hc0 hc1
  have hz : raiseL ⟨key, side, cur, next, send, ceil, sec, nano⟩ 18446744073709551615 b = Ln.zero := by
    have : mayS ⟨key, side, cur, next, send, ceil, sec, nano⟩ 18446744073709551615 b = false := by simp [mayS, hb, h1]
    simp [raiseL, this]
  rw [hz]
  unfold Ln.zero
  have HB := Lib.hid (show blkB b = true from hb)
  clear hb hz
  go_enter Tryz.func13, Tryz.ntmps13
  go_wp2_with fail
  refine (laneBlock b _).mono ?_
  rintro e w1 ⟨rfl, rfl⟩
  rw [HB.out]
  go_wp2_with fail
  refine (laneChanged0 ⟨key, side, cur, next, send, ceil, sec, nano⟩ ao cap false _ _ hs (by simp)).mono ?_
  rintro e w2 ⟨he, hb2⟩
  obtain rfl : e = .returned (.agg #[.slice none 0 0, .int .i64 0, .int .i64 0, .int .i64 0, .int .u64 0, .int .u64 0, .int .i64 0, .int .i64 0]) := he
  have y : w2.heap[w.heap.size + 3]? = some (.cells #[.slice none 0 0, .int .i64 0, .int .i64 0, .int .i64 0, .int .u64 0, .int .u64 0, .int .i64 0, .int .i64 0] 27 (0, 0)) := (hb_block hb2 (w.heap.size + 3) (by simp only [alloc_size]; omega)).trans (by simp only [alloc_get, alloc_size]; repeat first | rw [if_pos trivial] | rw [if_neg (by omega)] | rw [if_pos (by omega)])
  have b0 : w2.cell? ⟨w.heap.size + 3, 0, none⟩ = some (.slice none 0 0) := cell_of_row w2 (w.heap.size + 3) 0 _ _ _ y
  have b1 : w2.cell? ⟨w.heap.size + 3, 1, none⟩ = some (.int .i64 0) := cell_of_row w2 (w.heap.size + 3) 1 _ _ _ y
  have b2 : w2.cell? ⟨w.heap.size + 3, 2, none⟩ = some (.int .i64 0) := cell_of_row w2 (w.heap.size + 3) 2 _ _ _ y
  have b3 : w2.cell? ⟨w.heap.size + 3, 3, none⟩ = some (.int .i64 0) := cell_of_row w2 (w.heap.size + 3) 3 _ _ _ y
  have b4 : w2.cell? ⟨w.heap.size + 3, 4, none⟩ = some (.int .u64 0) := cell_of_row w2 (w.heap.size + 3) 4 _ _ _ y
  have b5 : w2.cell? ⟨w.heap.size + 3, 5, none⟩ = some (.int .u64 0) := cell_of_row w2 (w.heap.size + 3) 5 _ _ _ y
  have b6 : w2.cell? ⟨w.heap.size + 3, 6, none⟩ = some (.int .i64 0) := cell_of_row w2 (w.heap.size + 3) 6 _ _ _ y
  have b7 : w2.cell? ⟨w.heap.size + 3, 7, none⟩ = some (.int .i64 0) := cell_of_row w2 (w.heap.size + 3) 7 _ _ _ y
  have bf (i : Nat) : w2.frozen? ⟨w.heap.size + 3, i, none⟩ = false := frozen_of_row w2 (w.heap.size + 3) i _ _ y
  clear y
  go_wp2_with fail
  refine bodyPost_ret (v := .agg #[.slice none 0 0, .int .i64 0, .int .i64 0, .int .i64 0, .int .u64 0, .int .u64 0, .int .i64 0, .int .i64 0]) (by simp [results, Tryz.results13, go_sem, b0, b1, b2, b3, b4, b5, b6, b7]) rfl ⟨_, _, rfl, ?_, ?_⟩
  · exact Or.inl ⟨rfl, rfl, rfl⟩
  · iterate 8 (refine Below.set ?_ _ _ _ (by omega))
    exact (((((Below.refl _ w).alloc (Nat.le_refl _) _).alloc (by simp only [alloc_size]; omega) _).alloc (by simp only [alloc_size]; omega) _).alloc (by simp only [alloc_size]; omega) _).trans (hb2.mono (by simp only [alloc_size]; omega))
set_option maxHeartbeats 1600000 in
theorem laneRaise_no (L : Ln) (ao : Option Addr) (cap : Nat) (c b : Int) (_hc0 : 0 ≤ c) (_hc1 : c ≤ 18446744073709551615) (w : World) (hf : L.fits) (hr : Rd w ao L.key) (hb : blkB b = true) (h1 : L.ceil ≤ c) (h2 : c ≤ 18446744073709551614) (hok' : L.ok = false) :
   Calls Tryz.prog 13 #[L.val ao cap, .int .u64 c, .int .i64 b] w fun e w' => ∃ ao' cap', e = .returned ((raiseL L c b).val ao' cap') ∧ Mine w' w.heap.size 5 ao' cap' (raiseL L c b).key ∧ Below w.heap.size w w' := by
  obtain ⟨hl, hcur0, hcur1, hnext0, hnext1, hsend0, hsend1, hceil0, hceil1, hs⟩ := hf
  obtain ⟨key, side, cur, next, send, ceil, sec, nano⟩ := L
  unfold Ln.val
  simp only at hl hcur0 hcur1 hnext0 hnext1 hsend0 hsend1 hceil0 hceil1 hs hr h1 h2 hok' ⊢
  have hno : (true && Ln.ok ⟨key, side, cur, next, send, ceil, sec, nano⟩) = false := by simpa using hok'
  have hz : raiseL ⟨key, side, cur, next, send, ceil, sec, nano⟩ c b = Ln.zero := by
    have : mayS ⟨key, side, cur, next, send, ceil, sec, nano⟩ c b = false := by simp [mayS, hb, h1, h2, hok']
    simp [raiseL, this]
  rw [hz]
  unfold Ln.zero
  have HB := Lib.hid (show blkB b = true from hb)
  clear hb hz
  go_enter Tryz.func13, Tryz.ntmps13
  go_wp2_with fail
  refine (laneBlock b _).mono ?_
  rintro e w1 ⟨rfl, rfl⟩
  rw [HB.out]
  go_wp2_with fail
  refine (laneChanged0 ⟨key, side, cur, next, send, ceil, sec, nano⟩ ao cap true _ _ hs hno).mono ?_
  rintro e w2 ⟨he, hb2⟩
  obtain rfl : e = .returned (.agg #[.slice none 0 0, .int .i64 0, .int .i64 0, .int .i64 0, .int .u64 0, .int .u64 0, .int .i64 0, .int .i64 0]) := he
  have y : w2.heap[w.heap.size + 3]? = some (.cells #[.slice none 0 0, .int .i64 0, .int .i64 0, .int .i64 0, .int .u64 0, .int .u64 0, .int .i64 0, .int .i64 0] 27 (0, 0)) := (hb_block hb2 (w.heap.size + 3) (by simp only [alloc_size]; omega)).trans (by simp only [alloc_get, alloc_size]; repeat first | rw [if_pos trivial] | rw [if_neg (by omega)] | rw [if_pos (by omega)])
  have b0 : w2.cell? ⟨w.heap.size + 3, 0, none⟩ = some (.slice none 0 0) := cell_of_row w2 (w.heap.size + 3) 0 _ _ _ y
  have b1 : w2.cell? ⟨w.heap.size + 3, 1, none⟩ = some (.int .i64 0) := cell_of_row w2 (w.heap.size + 3) 1 _ _ _ y
  have b2 : w2.cell? ⟨w.heap.size + 3, 2, none⟩ = some (.int .i64 0) := cell_of_row w2 (w.heap.size + 3) 2 _ _ _ y
  have b3 : w2.cell? ⟨w.heap.size + 3, 3, none⟩ = some (.int .i64 0) := cell_of_row w2 (w.heap.size + 3) 3 _ _ _ y
  have b4 : w2.cell? ⟨w.heap.size + 3, 4, none⟩ = some (.int .u64 0) := cell_of_row w2 (w.heap.size + 3) 4 _ _ _ y
  have b5 : w2.cell? ⟨w.heap.size + 3, 5, none⟩ = some (.int .u64 0) := cell_of_row w2 (w.heap.size + 3) 5 _ _ _ y
  have b6 : w2.cell? ⟨w.heap.size + 3, 6, none⟩ = some (.int .i64 0) := cell_of_row w2 (w.heap.size + 3) 6 _ _ _ y
  have b7 : w2.cell? ⟨w.heap.size + 3, 7, none⟩ = some (.int .i64 0) := cell_of_row w2 (w.heap.size + 3) 7 _ _ _ y
  have bf (i : Nat) : w2.frozen? ⟨w.heap.size + 3, i, none⟩ = false := frozen_of_row w2 (w.heap.size + 3) i _ _ y
  clear y
  go_wp2_with fail
  refine bodyPost_ret (v := .agg #[.slice none 0 0, .int .i64 0, .int .i64 0, .int .i64 0, .int .u64 0, .int .u64 0, .int .i64 0, .int .i64 0]) (by simp [results, Tryz.results13, go_sem, b0, b1, b2, b3, b4, b5, b6, b7]) rfl ⟨_, _, rfl, ?_, ?_⟩
  · exact Or.inl ⟨rfl, rfl, rfl⟩
  · iterate 8 (refine Below.set ?_ _ _ _ (by omega))
    exact (((((Below.refl _ w).alloc (Nat.le_refl _) _).alloc (by simp only [alloc_size]; omega) _).alloc (by simp only [alloc_size]; omega) _).alloc (by simp only [alloc_size]; omega) _).trans (hb2.mono (by simp only [alloc_size]; omega))
set_option maxHeartbeats 1600000 in
theorem laneRaise_yes (L : Ln) (ao : Option Addr) (cap : Nat) (c b : Int) (hc0 : 0 ≤ c) (hc1 : c ≤ 18446744073709551615) (w : World) (hf : L.fits) (hr : Rd w ao L.key) (hb : blkB b = true) (h1 : L.ceil ≤ c) (h2 : c ≤ 18446744073709551614) (hok : L.ok = true) :
   Calls Tryz.prog 13 #[L.val ao cap, .int .u64 c, .int .i64 b] w fun e w' => ∃ ao' cap', e = .returned ((raiseL L c b).val ao' cap') ∧ Mine w' w.heap.size 5 ao' cap' (raiseL L c b).key ∧ Below w.heap.size w w' := by
  obtain ⟨hl, hcur0, hcur1, hnext0, hnext1, hsend0, hsend1, hceil0, hceil1, hs⟩ := hf
  obtain ⟨key, side, cur, next, send, ceil, sec, nano⟩ := L
  unfold Ln.val
  simp only at hl hcur0 hcur1 hnext0 hnext1 hsend0 hsend1 hceil0 hceil1 hs hr h1 h2 hok ⊢
  have hy : raiseL ⟨key, side, cur, next, send, ceil, sec, nano⟩ c b = Ln.keep ⟨key, side, cur, next, send, ceil, sec, nano⟩ cur next send (upF c b) sec nano := by
    have : mayS ⟨key, side, cur, next, send, ceil, sec, nano⟩ c b = true := by simp [mayS, hb, hok, h1, h2]
    simp [raiseL, this]
  rw [hy]
  have HB := Lib.hid (show blkB b = true from hb)
  have HK := Lib.hid hok
  clear hb hy hok
  unfold Ln.keep
  go_enter Tryz.func13, Tryz.ntmps13
  go_wp2_with fail
  refine (laneBlock b _).mono ?_
  rintro e w1 ⟨rfl, rfl⟩
  rw [HB.out]
  go_wp2_with fail
  refine (laneChanged1 ⟨key, side, cur, next, send, ceil, sec, nano⟩ cur next send (upF c b) sec nano ao cap 33 _ _ hs HK.out ?hrw (fun _ _ => rfl) ?hclo).mono ?_
  case hrw => exact hr.on (((((Below.refl _ w).alloc (Nat.le_refl _) _).alloc (by simp only [alloc_size]; omega) _).alloc (by simp only [alloc_size]; omega) _).alloc (by simp only [alloc_size]; omega) _)
  case hclo =>
    intro W g ar cr hB hg hx
    exact cloRaise W g ar cr key side cur next send ceil sec nano hx (w.heap.size + 1) c (w.heap.size + 2) b (by have h := hg; simp only [alloc_size] at h; omega) ((hB.cell (by simp only [alloc_size]; omega)).trans (by go_simp)) hc0 hc1 (by have h := hg; simp only [alloc_size] at h; omega) ((hB.cell (by simp only [alloc_size]; omega)).trans (by go_simp))
  rintro e w2 ⟨ar, cr, he, hm, hb2⟩
  obtain rfl : e = .returned (.agg #[.slice ar key.length cr, .int .i64 side, .int .i64 cur, .int .i64 next, .int .u64 send, .int .u64 (upF c b), .int .i64 sec, .int .i64 nano]) := he
  have y : w2.heap[w.heap.size + 3]? = some (.cells #[.slice none 0 0, .int .i64 0, .int .i64 0, .int .i64 0, .int .u64 0, .int .u64 0, .int .i64 0, .int .i64 0] 27 (0, 0)) := (hb_block hb2 (w.heap.size + 3) (by simp only [alloc_size]; omega)).trans (by simp only [alloc_get, alloc_size]; repeat first | rw [if_pos trivial] | rw [if_neg (by omega)] | rw [if_pos (by omega)])
  have b0 : w2.cell? ⟨w.heap.size + 3, 0, none⟩ = some (.slice none 0 0) := cell_of_row w2 (w.heap.size + 3) 0 _ _ _ y
  have b1 : w2.cell? ⟨w.heap.size + 3, 1, none⟩ = some (.int .i64 0) := cell_of_row w2 (w.heap.size + 3) 1 _ _ _ y
  have b2 : w2.cell? ⟨w.heap.size + 3, 2, none⟩ = some (.int .i64 0) := cell_of_row w2 (w.heap.size + 3) 2 _ _ _ y
  have b3 : w2.cell? ⟨w.heap.size + 3, 3, none⟩ = some (.int .i64 0) := cell_of_row w2 (w.heap.size + 3) 3 _ _ _ y
  have b4 : w2.cell? ⟨w.heap.size + 3, 4, none⟩ = some (.int .u64 0) := cell_of_row w2 (w.heap.size + 3) 4 _ _ _ y
  have b5 : w2.cell? ⟨w.heap.size + 3, 5, none⟩ = some (.int .u64 0) := cell_of_row w2 (w.heap.size + 3) 5 _ _ _ y
  have b6 : w2.cell? ⟨w.heap.size + 3, 6, none⟩ = some (.int .i64 0) := cell_of_row w2 (w.heap.size + 3) 6 _ _ _ y
  have b7 : w2.cell? ⟨w.heap.size + 3, 7, none⟩ = some (.int .i64 0) := cell_of_row w2 (w.heap.size + 3) 7 _ _ _ y
  have bf (i : Nat) : w2.frozen? ⟨w.heap.size + 3, i, none⟩ = false := frozen_of_row w2 (w.heap.size + 3) i _ _ y
  clear y
  go_wp2_with fail
  refine bodyPost_ret (v := .agg #[.slice ar key.length cr, .int .i64 side, .int .i64 cur, .int .i64 next, .int .u64 send, .int .u64 (upF c b), .int .i64 sec, .int .i64 nano]) (by simp [results, Tryz.results13, go_sem, b0, b1, b2, b3, b4, b5, b6, b7]) rfl ⟨_, _, rfl, ?_, ?_⟩
  · refine Mine.from (B := w.heap.size + 4) ?_ (by omega)
    iterate 8 (refine Mine.setCell ?_ _ _ _ (by omega))
    exact Mine.from hm (by simp only [alloc_size]; omega)
  · iterate 8 (refine Below.set ?_ _ _ _ (by omega))
    exact (((((Below.refl _ w).alloc (Nat.le_refl _) _).alloc (by simp only [alloc_size]; omega) _).alloc (by simp only [alloc_size]; omega) _).alloc (by simp only [alloc_size]; omega) _).trans (hb2.mono (by simp only [alloc_size]; omega))
set_option maxHeartbeats 1600000 in
theorem laneRaise (L : Ln) (ao : Option Addr) (cap : Nat) (c b : Int) (hc0 : 0 ≤ c) (hc1 : c ≤ 18446744073709551615) (w : World) (hf : L.fits) (hr : Rd w ao L.key) :
   Calls Tryz.prog 13 #[L.val ao cap, .int .u64 c, .int .i64 b] w fun e w' => ∃ ao' cap', e = .returned ((raiseL L c b).val ao' cap') ∧ Mine w' w.heap.size 5 ao' cap' (raiseL L c b).key ∧ Below w.heap.size w w' := by
  by_cases hb : blkB b = true
  · by_cases h1 : L.ceil ≤ c
    · by_cases h2 : c ≤ 18446744073709551614
      · by_cases hok : L.ok = true
        · exact laneRaise_yes L ao cap c b hc0 hc1 w hf hr hb h1 h2 hok
        · exact laneRaise_no L ao cap c b hc0 hc1 w hf hr hb h1 h2 (by simpa using hok)
      · exact laneRaise_n2 L ao cap c b hc0 hc1 w hf hr hb h1 h2
    · exact laneRaise_n1 L ao cap c b hc0 hc1 w hf hr hb  h1
  · have hb : blkB b = false := by simpa using hb
    exact laneRaise_n0 L ao cap c b hc0 hc1 w hf hr hb
set_option maxHeartbeats 1600000 in
theorem laneOpened_n0 (L : Ln) (ao : Option Addr) (cap : Nat) (g c b : Int) (_hc0 : 0 ≤ c) (_hc1 : c ≤ 18446744073709551615) (w : World) (hf : L.fits) (hr : Rd w ao L.key) (hb : blkB b = false) :
   Calls Tryz.prog 12 #[L.val ao cap, .int .i64 g, .int .u64 c, .int .i64 b] w fun e w' => ∃ ao' cap', e = .returned ((openedL L g c b).val ao' cap') ∧ Mine w' w.heap.size 5 ao' cap' (openedL L g c b).key ∧ Below w.heap.size w w' := by
  obtain ⟨hl, hcur0, hcur1, hnext0, hnext1, hsend0, hsend1, hceil0, hceil1, hs⟩ := hf
  obtain ⟨key, side, cur, next, send, ceil, sec, nano⟩ := L
  unfold Ln.val
  simp only at hl hcur0 hcur1 hnext0 hnext1 hsend0 hsend1 hceil0 hceil1 hs hr ⊢
  have hz : openedL ⟨key, side, cur, next, send, ceil, sec, nano⟩ g c b = Ln.zero := by
    have : mayO ⟨key, side, cur, next, send, ceil, sec, nano⟩ g c b = false := by simp [mayO, hb]
    simp [openedL, this]
  rw [hz]
  unfold Ln.zero
  have HB := Lib.hid (show blkB b = false from hb)
  clear hb hz
  go_enter Tryz.func12, Tryz.ntmps12
  go_wp2_with fail
  refine (laneBlock b _).mono ?_
  rintro e w1 ⟨rfl, rfl⟩
  rw [HB.out]
  go_wp2_with fail
  refine (laneChanged0 ⟨key, side, cur, next, send, ceil, sec, nano⟩ ao cap false _ _ hs (by simp)).mono ?_
  rintro e w2 ⟨he, hb2⟩
  obtain rfl : e = .returned (.agg #[.slice none 0 0, .int .i64 0, .int .i64 0, .int .i64 0, .int .u64 0, .int .u64 0, .int .i64 0, .int .i64 0]) := he
  have y : w2.heap[w.heap.size + 4]? = some (.cells #[.slice none 0 0, .int .i64 0, .int .i64 0, .int .i64 0, .int .u64 0, .int .u64 0, .int .i64 0, .int .i64 0] 27 (0, 0)) := (hb_block hb2 (w.heap.size + 4) (by simp only [alloc_size]; omega)).trans (by simp only [alloc_get, alloc_size]; repeat first | rw [if_pos trivial] | rw [if_neg (by omega)] | rw [if_pos (by omega)])
  have b0 : w2.cell? ⟨w.heap.size + 4, 0, none⟩ = some (.slice none 0 0) := cell_of_row w2 (w.heap.size + 4) 0 _ _ _ y
  have b1 : w2.cell? ⟨w.heap.size + 4, 1, none⟩ = some (.int .i64 0) := cell_of_row w2 (w.heap.size + 4) 1 _ _ _ y
  have b2 : w2.cell? ⟨w.heap.size + 4, 2, none⟩ = some (.int .i64 0) := cell_of_row w2 (w.heap.size + 4) 2 _ _ _ y
  have b3 : w2.cell? ⟨w.heap.size + 4, 3, none⟩ = some (.int .i64 0) := cell_of_row w2 (w.heap.size + 4) 3 _ _ _ y
  have b4 : w2.cell? ⟨w.heap.size + 4, 4, none⟩ = some (.int .u64 0) := cell_of_row w2 (w.heap.size + 4) 4 _ _ _ y
  have b5 : w2.cell? ⟨w.heap.size + 4, 5, none⟩ = some (.int .u64 0) := cell_of_row w2 (w.heap.size + 4) 5 _ _ _ y
  have b6 : w2.cell? ⟨w.heap.size + 4, 6, none⟩ = some (.int .i64 0) := cell_of_row w2 (w.heap.size + 4) 6 _ _ _ y
  have b7 : w2.cell? ⟨w.heap.size + 4, 7, none⟩ = some (.int .i64 0) := cell_of_row w2 (w.heap.size + 4) 7 _ _ _ y
  have bf (i : Nat) : w2.frozen? ⟨w.heap.size + 4, i, none⟩ = false := frozen_of_row w2 (w.heap.size + 4) i _ _ y
  clear y
  go_wp2_with fail
  refine bodyPost_ret (v := .agg #[.slice none 0 0, .int .i64 0, .int .i64 0, .int .i64 0, .int .u64 0, .int .u64 0, .int .i64 0, .int .i64 0]) (by simp [results, Tryz.results12, go_sem, b0, b1, b2, b3, b4, b5, b6, b7]) rfl ⟨_, _, rfl, ?_, ?_⟩
  · exact Or.inl ⟨rfl, rfl, rfl⟩
  · iterate 8 (refine Below.set ?_ _ _ _ (by omega))
    exact ((((((Below.refl _ w).alloc (Nat.le_refl _) _).alloc (by simp only [alloc_size]; omega) _).alloc (by simp only [alloc_size]; omega) _).alloc (by simp only [alloc_size]; omega) _).alloc (by simp only [alloc_size]; omega) _).trans (hb2.mono (by simp only [alloc_size]; omega))
set_option maxHeartbeats 1600000 in
theorem laneOpened_n1 (L : Ln) (ao : Option Addr) (cap : Nat) (g c b : Int) (_hc0 : 0 ≤ c) (_hc1 : c ≤ 18446744073709551615) (w : World) (hf : L.fits) (hr : Rd w ao L.key) (hb : blkB b = true) (h1 : ¬ L.cur < g) :
   Calls Tryz.prog 12 #[L.val ao cap, .int .i64 g, .int .u64 c, .int .i64 b] w fun e w' => ∃ ao' cap', e = .returned ((openedL L g c b).val ao' cap') ∧ Mine w' w.heap.size 5 ao' cap' (openedL L g c b).key ∧ Below w.heap.size w w' := by
  obtain ⟨hl, hcur0, hcur1, hnext0, hnext1, hsend0, hsend1, hceil0, hceil1, hs⟩ := hf
  obtain ⟨key, side, cur, next, send, ceil, sec, nano⟩ := L
  unfold Ln.val
  simp only at hl hcur0 hcur1 hnext0 hnext1 hsend0 hsend1 hceil0 hceil1 hs hr h1 ⊢
  have hz : openedL ⟨key, side, cur, next, send, ceil, sec, nano⟩ g c b = Ln.zero := by
    have : mayO ⟨key, side, cur, next, send, ceil, sec, nano⟩ g c b = false := by simp [mayO, hb, h1]
    simp [openedL, this]
  rw [hz]
  unfold Ln.zero
  have HB := Lib.hid (show blkB b = true from hb)
  clear hb hz
  go_enter Tryz.func12, Tryz.ntmps12
  go_wp2_with fail
  refine (laneBlock b _).mono ?_
  rintro e w1 ⟨rfl, rfl⟩
  rw [HB.out]
  go_wp2_with fail
  refine (laneChanged0 ⟨key, side, cur, next, send, ceil, sec, nano⟩ ao cap false _ _ hs (by simp)).mono ?_
  rintro e w2 ⟨he, hb2⟩
  obtain rfl : e = .returned (.agg #[.slice none 0 0, .int .i64 0, .int .i64 0, .int .i64 0, .int .u64 0, .int .u64 0, .int .i64 0, .int .i64 0]) := he
  have y : w2.heap[w.heap.size + 4]? = some (.cells #[.slice none 0 0, .int .i64 0, .int .i64 0, .int .i64 0, .int .u64 0, .int .u64 0, .int .i64 0, .int .i64 0] 27 (0, 0)) := (hb_block hb2 (w.heap.size + 4) (by simp only [alloc_size]; omega)).trans (by simp only [alloc_get, alloc_size]; repeat first | rw [if_pos trivial] | rw [if_neg (by omega)] | rw [if_pos (by omega)])
  have b0 : w2.cell? ⟨w.heap.size + 4, 0, none⟩ = some (.slice none 0 0) := cell_of_row w2 (w.heap.size + 4) 0 _ _ _ y
  have b1 : w2.cell? ⟨w.heap.size + 4, 1, none⟩ = some (.int .i64 0) := cell_of_row w2 (w.heap.size + 4) 1 _ _ _ y
  have b2 : w2.cell? ⟨w.heap.size + 4, 2, none⟩ = some (.int .i64 0) := cell_of_row w2 (w.heap.size + 4) 2 _ _ _ y
  have b3 : w2.cell? ⟨w.heap.size + 4, 3, none⟩ = some (.int .i64 0) := cell_of_row w2 (w.heap.size + 4) 3 _ _ _ y
  have b4 : w2.cell? ⟨w.heap.size + 4, 4, none⟩ = some (.int .u64 0) := cell_of_row w2 (w.heap.size + 4) 4 _ _ _ y
  have b5 : w2.cell? ⟨w.heap.size + 4, 5, none⟩ = some (.int .u64 0) := cell_of_row w2 (w.heap.size + 4) 5 _ _ _ y
  have b6 : w2.cell? ⟨w.heap.size + 4, 6, none⟩ = some (.int .i64 0) := cell_of_row w2 (w.heap.size + 4) 6 _ _ _ y
  have b7 : w2.cell? ⟨w.heap.size + 4, 7, none⟩ = some (.int .i64 0) := cell_of_row w2 (w.heap.size + 4) 7 _ _ _ y
  have bf (i : Nat) : w2.frozen? ⟨w.heap.size + 4, i, none⟩ = false := frozen_of_row w2 (w.heap.size + 4) i _ _ y
  clear y
  go_wp2_with fail
  refine bodyPost_ret (v := .agg #[.slice none 0 0, .int .i64 0, .int .i64 0, .int .i64 0, .int .u64 0, .int .u64 0, .int .i64 0, .int .i64 0]) (by simp [results, Tryz.results12, go_sem, b0, b1, b2, b3, b4, b5, b6, b7]) rfl ⟨_, _, rfl, ?_, ?_⟩
  · exact Or.inl ⟨rfl, rfl, rfl⟩
  · iterate 8 (refine Below.set ?_ _ _ _ (by omega))
    exact ((((((Below.refl _ w).alloc (Nat.le_refl _) _).alloc (by simp only [alloc_size]; omega) _).alloc (by simp only [alloc_size]; omega) _).alloc (by simp only [alloc_size]; omega) _).alloc (by simp only [alloc_size]; omega) _).trans (hb2.mono (by simp only [alloc_size]; omega))
set_option maxHeartbeats 1600000 in
theorem laneOpened_n2 (L : Ln) (ao : Option Addr) (cap : Nat) (g c b : Int) (_hc0 : 0 ≤ c) (_hc1 : c ≤ 18446744073709551615) (w : World) (hf : L.fits) (hr : Rd w ao L.key) (hb : blkB b = true) (h1 : L.cur < g) (h2 : ¬ g ≤ L.next) :
   Calls Tryz.prog 12 #[L.val ao cap, .int .i64 g, .int .u64 c, .int .i64 b] w fun e w' => ∃ ao' cap', e = .returned ((openedL L g c b).val ao' cap') ∧ Mine w' w.heap.size 5 ao' cap' (openedL L g c b).key ∧ Below w.heap.size w w' := by
  obtain ⟨hl, hcur0, hcur1, hnext0, hnext1, hsend0, hsend1, hceil0, hceil1, hs⟩ := hf
  obtain ⟨key, side, cur, next, send, ceil, sec, nano⟩ := L
  unfold Ln.val
  simp only at hl hcur0 hcur1 hnext0 hnext1 hsend0 hsend1 hceil0 hceil1 hs hr h1 h2 ⊢
  have hz : openedL ⟨key, side, cur, next, send, ceil, sec, nano⟩ g c b = Ln.zero := by
    have : mayO ⟨key, side, cur, next, send, ceil, sec, nano⟩ g c b = false := by simp [mayO, hb, h1, h2]
    simp [openedL, this]
  rw [hz]
  unfold Ln.zero
  have HB := Lib.hid (show blkB b = true from hb)
  clear hb hz
  go_enter Tryz.func12, Tryz.ntmps12
  go_wp2_with fail
  refine (laneBlock b _).mono ?_
  rintro e w1 ⟨rfl, rfl⟩
  rw [HB.out]
  go_wp2_with fail
  refine (laneChanged0 ⟨key, side, cur, next, send, ceil, sec, nano⟩ ao cap false _ _ hs (by simp)).mono ?_
  rintro e w2 ⟨he, hb2⟩
  obtain rfl : e = .returned (.agg #[.slice none 0 0, .int .i64 0, .int .i64 0, .int .i64 0, .int .u64 0, .int .u64 0, .int .i64 0, .int .i64 0]) := he
  have y : w2.heap[w.heap.size + 4]? = some (.cells #[.slice none 0 0, .int .i64 0, .int .i64 0, .int .i64 0, .int .u64 0, .int .u64 0, .int .i64 0, .int .i64 0] 27 (0, 0)) := (hb_block hb2 (w.heap.size + 4) (by simp only [alloc_size]; omega)).trans (by simp only [alloc_get, alloc_size]; repeat first | rw [if_pos trivial] | rw [if_neg (by omega)] | rw [if_pos (by omega)])
  have b0 : w2.cell? ⟨w.heap.size + 4, 0, none⟩ = some (.slice none 0 0) := cell_of_row w2 (w.heap.size + 4) 0 _ _ _ y
  have b1 : w2.cell? ⟨w.heap.size + 4, 1, none⟩ = some (.int .i64 0) := cell_of_row w2 (w.heap.size + 4) 1 _ _ _ y
  have b2 : w2.cell? ⟨w.heap.size + 4, 2, none⟩ = some (.int .i64 0) := cell_of_row w2 (w.heap.size + 4) 2 _ _ _ y
  have b3 : w2.cell? ⟨w.heap.size + 4, 3, none⟩ = some (.int .i64 0) := cell_of_row w2 (w.heap.size + 4) 3 _ _ _ y
  have b4 : w2.cell? ⟨w.heap.size + 4, 4, none⟩ = some (.int .u64 0) := cell_of_row w2 (w.heap.size + 4) 4 _ _ _ y
  have b5 : w2.cell? ⟨w.heap.size + 4, 5, none⟩ = some (.int .u64 0) := cell_of_row w2 (w.heap.size + 4) 5 _ _ _ y
  have b6 : w2.cell? ⟨w.heap.size + 4, 6, none⟩ = some (.int .i64 0) := cell_of_row w2 (w.heap.size + 4) 6 _ _ _ y
  have b7 : w2.cell? ⟨w.heap.size + 4, 7, none⟩ = some (.int .i64 0) := cell_of_row w2 (w.heap.size + 4) 7 _ _ _ y
  have bf (i : Nat) : w2.frozen? ⟨w.heap.size + 4, i, none⟩ = false := frozen_of_row w2 (w.heap.size + 4) i _ _ y
  clear y
  go_wp2_with fail
  refine bodyPost_ret (v := .agg #[.slice none 0 0, .int .i64 0, .int .i64 0, .int .i64 0, .int .u64 0, .int .u64 0, .int .i64 0, .int .i64 0]) (by simp [results, Tryz.results12, go_sem, b0, b1, b2, b3, b4, b5, b6, b7]) rfl ⟨_, _, rfl, ?_, ?_⟩
  · exact Or.inl ⟨rfl, rfl, rfl⟩
  · iterate 8 (refine Below.set ?_ _ _ _ (by omega))
    exact ((((((Below.refl _ w).alloc (Nat.le_refl _) _).alloc (by simp only [alloc_size]; omega) _).alloc (by simp only [alloc_size]; omega) _).alloc (by simp only [alloc_size]; omega) _).alloc (by simp only [alloc_size]; omega) _).trans (hb2.mono (by simp only [alloc_size]; omega))
set_option maxHeartbeats 1600000 in
theorem laneOpened_n3 (L : Ln) (ao : Option Addr) (cap : Nat) (g c b : Int) (hc0 : 0 ≤ c) (hc1 : c ≤ 18446744073709551615) (w : World) (hf : L.fits) (hr : Rd w ao L.key) (hb : blkB b = true) (h1 : L.cur < g) (h2 : g ≤ L.next) (h3 : ¬ c ≤ 18446744073709551614) :
   Calls Tryz.prog 12 #[L.val ao cap, .int .i64 g, .int .u64 c, .int .i64 b] w fun e w' => ∃ ao' cap', e = .returned ((openedL L g c b).val ao' cap') ∧ Mine w' w.heap.size 5 ao' cap' (openedL L g c b).key ∧ Below w.heap.size w w' := by
  obtain ⟨hl, hcur0, hcur1, hnext0, hnext1, hsend0, hsend1, hceil0, hceil1, hs⟩ := hf
  obtain ⟨key, side, cur, next, send, ceil, sec, nano⟩ := L
  unfold Ln.val
  simp only at hl hcur0 hcur1 hnext0 hnext1 hsend0 hsend1 hceil0 hceil1 hs hr h1 h2 h3 ⊢
  obtain rfl : c = 18446744073709551615 := by omega
  clear h3 hc0 hc1
  have hz : openedL ⟨key, side, cur, next, send, ceil, sec, nano⟩ g 18446744073709551615 b = Ln.zero := by
    have : mayO ⟨key, side, cur, next, send, ceil, sec, nano⟩ g 18446744073709551615 b = false := by simp [mayO, hb, h1, h2]
    simp [openedL, this]
  rw [hz]
  unfold Ln.zero
  have HB := Lib.hid (show blkB b = true from hb)
  clear hb hz
  go_enter Tryz.func12, Tryz.ntmps12
  go_wp2_with fail
  refine (laneBlock b _).mono ?_
  rintro e w1 ⟨rfl, rfl⟩
  rw [HB.out]
  go_wp2_with fail
  refine (laneChanged0 ⟨key, side, cur, next, send, ceil, sec, nano⟩ ao cap false _ _ hs (by simp)).mono ?_
  rintro e w2 ⟨he, hb2⟩
  obtain rfl : e = .returned (.agg #[.slice none 0 0, .int .i64 0, .int .i64 0, .int .i64 0, .int .u64 0, .int .u64 0, .int .i64 0, .int .i64 0]) := he
  have y : w2.heap[w.heap.size + 4]? = some (.cells #[.slice none 0 0, .int .i64 0, .int .i64 0, .int .i64 0, .int .u64 0, .int .u64 0, .int .i64 0, .int .i64 0] 27 (0, 0)) := (hb_block hb2 (w.heap.size + 4) (by simp only [alloc_size]; omega)).trans (by simp only [alloc_get, alloc_size]; repeat first | rw [if_pos trivial] | rw [if_neg (by omega)] | rw [if_pos (by omega)])
  have b0 : w2.cell? ⟨w.heap.size + 4, 0, none⟩ = some (.slice none 0 0) := cell_of_row w2 (w.heap.size + 4) 0 _ _ _ y
  have b1 : w2.cell? ⟨w.heap.size + 4, 1, none⟩ = some (.int .i64 0) := cell_of_row w2 (w.heap.size + 4) 1 _ _ _ y
  have b2 : w2.cell? ⟨w.heap.size + 4, 2, none⟩ = some (.int .i64 0) := cell_of_row w2 (w.heap.size + 4) 2 _ _ _ y
  have b3 : w2.cell? ⟨w.heap.size + 4, 3, none⟩ = some (.int .i64 0) := cell_of_row w2 (w.heap.size + 4) 3 _ _ _ y
  have b4 : w2.cell? ⟨w.heap.size + 4, 4, none⟩ = some (.int .u64 0) := cell_of_row w2 (w.heap.size + 4) 4 _ _ _ y
  have b5 : w2.cell? ⟨w.heap.size + 4, 5, none⟩ = some (.int .u64 0) := cell_of_row w2 (w.heap.size + 4) 5 _ _ _ y
  have b6 : w2.cell? ⟨w.heap.size + 4, 6, none⟩ = some (.int .i64 0) := cell_of_row w2 (w.heap.size + 4) 6 _ _ _ y
  have b7 : w2.cell? ⟨w.heap.size + 4, 7, none⟩ = some (.int .i64 0) := cell_of_row w2 (w.heap.size + 4) 7 _ _ _ y
  have bf (i : Nat) : w2.frozen? ⟨w.heap.size + 4, i, none⟩ = false := frozen_of_row w2 (w.heap.size + 4) i _ _ y
  clear y
  go_wp2_with fail
  refine bodyPost_ret (v := .agg #[.slice none 0 0, .int .i64 0, .int .i64 0, .int .i64 0, .int .u64 0, .int .u64 0, .int .i64 0, .int .i64 0]) (by simp [results, Tryz.results12, go_sem, b0, b1, b2, b3, b4, b5, b6, b7]) rfl ⟨_, _, rfl, ?_, ?_⟩
  · exact Or.inl ⟨rfl, rfl, rfl⟩
  · iterate 8 (refine Below.set ?_ _ _ _ (by omega))
    exact ((((((Below.refl _ w).alloc (Nat.le_refl _) _).alloc (by simp only [alloc_size]; omega) _).alloc (by simp only [alloc_size]; omega) _).alloc (by simp only [alloc_size]; omega) _).alloc (by simp only [alloc_size]; omega) _).trans (hb2.mono (by simp only [alloc_size]; omega))
set_option maxHeartbeats 1600000 in
theorem laneOpened_no (L : Ln) (ao : Option Addr) (cap : Nat) (g c b : Int) (_hc0 : 0 ≤ c) (_hc1 : c ≤ 18446744073709551615) (w : World) (hf : L.fits) (hr : Rd w ao L.key) (hb : blkB b = true) (h1 : L.cur < g) (h2 : g ≤ L.next) (h3 : c ≤ 18446744073709551614) (hok' : L.ok = false) :
   Calls Tryz.prog 12 #[L.val ao cap, .int .i64 g, .int .u64 c, .int .i64 b] w fun e w' => ∃ ao' cap', e = .returned ((openedL L g c b).val ao' cap') ∧ Mine w' w.heap.size 5 ao' cap' (openedL L g c b).key ∧ Below w.heap.size w w' := by
  obtain ⟨hl, hcur0, hcur1, hnext0, hnext1, hsend0, hsend1, hceil0, hceil1, hs⟩ := hf
  obtain ⟨key, side, cur, next, send, ceil, sec, nano⟩ := L
  unfold Ln.val
  simp only at hl hcur0 hcur1 hnext0 hnext1 hsend0 hsend1 hceil0 hceil1 hs hr h1 h2 h3 hok' ⊢
  have hno : (true && Ln.ok ⟨key, side, cur, next, send, ceil, sec, nano⟩) = false := by simpa using hok'
  have hz : openedL ⟨key, side, cur, next, send, ceil, sec, nano⟩ g c b = Ln.zero := by
    have : mayO ⟨key, side, cur, next, send, ceil, sec, nano⟩ g c b = false := by simp [mayO, hb, h1, h2, h3, hok']
    simp [openedL, this]
  rw [hz]
  unfold Ln.zero
  have HB := Lib.hid (show blkB b = true from hb)
  clear hb hz
  go_enter Tryz.func12, Tryz.ntmps12
  go_wp2_with fail
  refine (laneBlock b _).mono ?_
  rintro e w1 ⟨rfl, rfl⟩
  rw [HB.out]
  go_wp2_with fail
  refine (laneChanged0 ⟨key, side, cur, next, send, ceil, sec, nano⟩ ao cap true _ _ hs hno).mono ?_
  rintro e w2 ⟨he, hb2⟩
  obtain rfl : e = .returned (.agg #[.slice none 0 0, .int .i64 0, .int .i64 0, .int .i64 0, .int .u64 0, .int .u64 0, .int .i64 0, .int .i64 0]) := he
  have y : w2.heap[w.heap.size + 4]? = some (.cells #[.slice none 0 0, .int .i64 0, .int .i64 0, .int .i64 0, .int .u64 0, .int .u64 0, .int .i64 0, .int .i64 0] 27 (0, 0)) := (hb_block hb2 (w.heap.size + 4) (by simp only [alloc_size]; omega)).trans (by simp only [alloc_get, alloc_size]; repeat first | rw [if_pos trivial] | rw [if_neg (by omega)] | rw [if_pos (by omega)])
  have b0 : w2.cell? ⟨w.heap.size + 4, 0, none⟩ = some (.slice none 0 0) := cell_of_row w2 (w.heap.size + 4) 0 _ _ _ y
  have b1 : w2.cell? ⟨w.heap.size + 4, 1, none⟩ = some (.int .i64 0) := cell_of_row w2 (w.heap.size + 4) 1 _ _ _ y
  have b2 : w2.cell? ⟨w.heap.size + 4, 2, none⟩ = some (.int .i64 0) := cell_of_row w2 (w.heap.size + 4) 2 _ _ _ y
  have b3 : w2.cell? ⟨w.heap.size + 4, 3, none⟩ = some (.int .i64 0) := cell_of_row w2 (w.heap.size + 4) 3 _ _ _ y
  have b4 : w2.cell? ⟨w.heap.size + 4, 4, none⟩ = some (.int .u64 0) := cell_of_row w2 (w.heap.size + 4) 4 _ _ _ y
  have b5 : w2.cell? ⟨w.heap.size + 4, 5, none⟩ = some (.int .u64 0) := cell_of_row w2 (w.heap.size + 4) 5 _ _ _ y
  have b6 : w2.cell? ⟨w.heap.size + 4, 6, none⟩ = some (.int .i64 0) := cell_of_row w2 (w.heap.size + 4) 6 _ _ _ y
  have b7 : w2.cell? ⟨w.heap.size + 4, 7, none⟩ = some (.int .i64 0) := cell_of_row w2 (w.heap.size + 4) 7 _ _ _ y
  have bf (i : Nat) : w2.frozen? ⟨w.heap.size + 4, i, none⟩ = false := frozen_of_row w2 (w.heap.size + 4) i _ _ y
  clear y
  go_wp2_with fail
  refine bodyPost_ret (v := .agg #[.slice none 0 0, .int .i64 0, .int .i64 0, .int .i64 0, .int .u64 0, .int .u64 0, .int .i64 0, .int .i64 0]) (by simp [results, Tryz.results12, go_sem, b0, b1, b2, b3, b4, b5, b6, b7]) rfl ⟨_, _, rfl, ?_, ?_⟩
  · exact Or.inl ⟨rfl, rfl, rfl⟩
  · iterate 8 (refine Below.set ?_ _ _ _ (by omega))
    exact ((((((Below.refl _ w).alloc (Nat.le_refl _) _).alloc (by simp only [alloc_size]; omega) _).alloc (by simp only [alloc_size]; omega) _).alloc (by simp only [alloc_size]; omega) _).alloc (by simp only [alloc_size]; omega) _).trans (hb2.mono (by simp only [alloc_size]; omega))
set_option maxHeartbeats 1600000 in
theorem laneOpened_yes (L : Ln) (ao : Option Addr) (cap : Nat) (g c b : Int) (hc0 : 0 ≤ c) (hc1 : c ≤ 18446744073709551615) (w : World) (hf : L.fits) (hr : Rd w ao L.key) (hb : blkB b = true) (h1 : L.cur < g) (h2 : g ≤ L.next) (h3 : c ≤ 18446744073709551614) (hok : L.ok = true) :
   Calls Tryz.prog 12 #[L.val ao cap, .int .i64 g, .int .u64 c, .int .i64 b] w fun e w' => ∃ ao' cap', e = .returned ((openedL L g c b).val ao' cap') ∧ Mine w' w.heap.size 5 ao' cap' (openedL L g c b).key ∧ Below w.heap.size w w' := by
  obtain ⟨hl, hcur0, hcur1, hnext0, hnext1, hsend0, hsend1, hceil0, hceil1, hs⟩ := hf
  obtain ⟨key, side, cur, next, send, ceil, sec, nano⟩ := L
  unfold Ln.val
  simp only at hl hcur0 hcur1 hnext0 hnext1 hsend0 hsend1 hceil0 hceil1 hs hr h1 h2 h3 hok ⊢
  have hy : openedL ⟨key, side, cur, next, send, ceil, sec, nano⟩ g c b = Ln.keep ⟨key, side, cur, next, send, ceil, sec, nano⟩ g next (upF 1 b) (upF c b) sec nano := by
    have : mayO ⟨key, side, cur, next, send, ceil, sec, nano⟩ g c b = true := by simp [mayO, hb, hok, h1, h2, h3]
    simp [openedL, this]
  rw [hy]
  have HB := Lib.hid (show blkB b = true from hb)
  have HK := Lib.hid hok
  clear hb hy hok
  unfold Ln.keep
  go_enter Tryz.func12, Tryz.ntmps12
  go_wp2_with fail
  refine (laneBlock b _).mono ?_
  rintro e w1 ⟨rfl, rfl⟩
  rw [HB.out]
  go_wp2_with fail
  refine (laneChanged1 ⟨key, side, cur, next, send, ceil, sec, nano⟩ g next (upF 1 b) (upF c b) sec nano ao cap 32 _ _ hs HK.out ?hrw (fun _ _ => rfl) ?hclo).mono ?_
  case hrw => exact hr.on ((((((Below.refl _ w).alloc (Nat.le_refl _) _).alloc (by simp only [alloc_size]; omega) _).alloc (by simp only [alloc_size]; omega) _).alloc (by simp only [alloc_size]; omega) _).alloc (by simp only [alloc_size]; omega) _)
  case hclo =>
    intro W gg ar cr hB hg hx
    exact cloOpened W gg ar cr key side cur next send ceil sec nano hx (w.heap.size + 1) g (w.heap.size + 3) b (w.heap.size + 2) c (by have h := hg; simp only [alloc_size] at h; omega) ((hB.cell (by simp only [alloc_size]; omega)).trans (by go_simp)) (by have h := hg; simp only [alloc_size] at h; omega) ((hB.cell (by simp only [alloc_size]; omega)).trans (by go_simp)) (by have h := hg; simp only [alloc_size] at h; omega) ((hB.cell (by simp only [alloc_size]; omega)).trans (by go_simp)) hc0 hc1
  rintro e w2 ⟨ar, cr, he, hm, hb2⟩
  obtain rfl : e = .returned (.agg #[.slice ar key.length cr, .int .i64 side, .int .i64 g, .int .i64 next, .int .u64 (upF 1 b), .int .u64 (upF c b), .int .i64 sec, .int .i64 nano]) := he
  have y : w2.heap[w.heap.size + 4]? = some (.cells #[.slice none 0 0, .int .i64 0, .int .i64 0, .int .i64 0, .int .u64 0, .int .u64 0, .int .i64 0, .int .i64 0] 27 (0, 0)) := (hb_block hb2 (w.heap.size + 4) (by simp only [alloc_size]; omega)).trans (by simp only [alloc_get, alloc_size]; repeat first | rw [if_pos trivial] | rw [if_neg (by omega)] | rw [if_pos (by omega)])
  have b0 : w2.cell? ⟨w.heap.size + 4, 0, none⟩ = some (.slice none 0 0) := cell_of_row w2 (w.heap.size + 4) 0 _ _ _ y
  have b1 : w2.cell? ⟨w.heap.size + 4, 1, none⟩ = some (.int .i64 0) := cell_of_row w2 (w.heap.size + 4) 1 _ _ _ y
  have b2 : w2.cell? ⟨w.heap.size + 4, 2, none⟩ = some (.int .i64 0) := cell_of_row w2 (w.heap.size + 4) 2 _ _ _ y
  have b3 : w2.cell? ⟨w.heap.size + 4, 3, none⟩ = some (.int .i64 0) := cell_of_row w2 (w.heap.size + 4) 3 _ _ _ y
  have b4 : w2.cell? ⟨w.heap.size + 4, 4, none⟩ = some (.int .u64 0) := cell_of_row w2 (w.heap.size + 4) 4 _ _ _ y
  have b5 : w2.cell? ⟨w.heap.size + 4, 5, none⟩ = some (.int .u64 0) := cell_of_row w2 (w.heap.size + 4) 5 _ _ _ y
  have b6 : w2.cell? ⟨w.heap.size + 4, 6, none⟩ = some (.int .i64 0) := cell_of_row w2 (w.heap.size + 4) 6 _ _ _ y
  have b7 : w2.cell? ⟨w.heap.size + 4, 7, none⟩ = some (.int .i64 0) := cell_of_row w2 (w.heap.size + 4) 7 _ _ _ y
  have bf (i : Nat) : w2.frozen? ⟨w.heap.size + 4, i, none⟩ = false := frozen_of_row w2 (w.heap.size + 4) i _ _ y
  clear y
  go_wp2_with fail
  refine bodyPost_ret (v := .agg #[.slice ar key.length cr, .int .i64 side, .int .i64 g, .int .i64 next, .int .u64 (upF 1 b), .int .u64 (upF c b), .int .i64 sec, .int .i64 nano]) (by simp [results, Tryz.results12, go_sem, b0, b1, b2, b3, b4, b5, b6, b7]) rfl ⟨_, _, rfl, ?_, ?_⟩
  · refine Mine.from (B := w.heap.size + 5) ?_ (by omega)
    iterate 8 (refine Mine.setCell ?_ _ _ _ (by omega))
    exact Mine.from hm (by simp only [alloc_size]; omega)
  · iterate 8 (refine Below.set ?_ _ _ _ (by omega))
    exact ((((((Below.refl _ w).alloc (Nat.le_refl _) _).alloc (by simp only [alloc_size]; omega) _).alloc (by simp only [alloc_size]; omega) _).alloc (by simp only [alloc_size]; omega) _).alloc (by simp only [alloc_size]; omega) _).trans (hb2.mono (by simp only [alloc_size]; omega))
set_option maxHeartbeats 1600000 in
theorem laneOpened (L : Ln) (ao : Option Addr) (cap : Nat) (g c b : Int) (hc0 : 0 ≤ c) (hc1 : c ≤ 18446744073709551615) (w : World) (hf : L.fits) (hr : Rd w ao L.key) :
   Calls Tryz.prog 12 #[L.val ao cap, .int .i64 g, .int .u64 c, .int .i64 b] w fun e w' => ∃ ao' cap', e = .returned ((openedL L g c b).val ao' cap') ∧ Mine w' w.heap.size 5 ao' cap' (openedL L g c b).key ∧ Below w.heap.size w w' := by
  by_cases hb : blkB b = true
  · by_cases h1 : L.cur < g
    · by_cases h2 : g ≤ L.next
      · by_cases h3 : c ≤ 18446744073709551614
        · by_cases hok : L.ok = true
          · exact laneOpened_yes L ao cap g c b hc0 hc1 w hf hr hb h1 h2 h3 hok
          · exact laneOpened_no L ao cap g c b hc0 hc1 w hf hr hb h1 h2 h3 (by simpa using hok)
        · exact laneOpened_n3 L ao cap g c b hc0 hc1 w hf hr hb h1 h2 h3
      · exact laneOpened_n2 L ao cap g c b hc0 hc1 w hf hr hb h1 h2
    · exact laneOpened_n1 L ao cap g c b hc0 hc1 w hf hr hb  h1
  · have hb : blkB b = false := by simpa using hb
    exact laneOpened_n0 L ao cap g c b hc0 hc1 w hf hr hb
set_option maxHeartbeats 4000000 in
theorem lanePropose (L : Ln) (ao : Option Addr) (cap : Nat) (w : World) (hf : L.fits) (hr : Rd w ao L.key) :
   Calls Tryz.prog 7 #[L.val ao cap] w fun e w' => ∃ ao' cap', e = .returned (.tuple #[(proposeL L).val ao' cap', .int .i64 (nextG L), .int .i64 (nextE L)]) ∧ Mine w' w.heap.size 5 ao' cap' (proposeL L).key ∧ Below w.heap.size w w' := by
  obtain ⟨hl, hcur0, hcur1, hnext0, hnext1, hsend0, hsend1, hceil0, hceil1, hs⟩ := hf
  obtain ⟨key, side, cur, next, send, ceil, sec, nano⟩ := L
  unfold Ln.val
  simp only at hl hcur0 hcur1 hnext0 hnext1 hsend0 hsend1 hceil0 hceil1 hs hr ⊢
  obtain ⟨g0, hg0⟩ : ∃ g, nextG ⟨key, side, cur, next, send, ceil, sec, nano⟩ = g := ⟨_, rfl⟩
  obtain ⟨e0, he0⟩ : ∃ g, nextE ⟨key, side, cur, next, send, ceil, sec, nano⟩ = g := ⟨_, rfl⟩
  by_cases h0 : e0 = 0
  · subst h0
    have hy : proposeL ⟨key, side, cur, next, send, ceil, sec, nano⟩ = Ln.keep ⟨key, side, cur, next, send, ceil, sec, nano⟩ cur g0 send ceil sec nano := by simp [proposeL, he0, hg0]
    have HK := Lib.hid (nextE_ok he0)
    rw [hy]
    try rw [hg0]
    rw [he0]
    unfold Ln.keep
    have HG := Lib.hid hg0
    have HE := Lib.hid he0
    clear hy hg0 he0
    go_enter Tryz.func7, Tryz.ntmps7
    go_wp2_with fail
    refine (laneNext ⟨key, side, cur, next, send, ceil, sec, nano⟩ ao cap _ ⟨hl, hcur0, hcur1, hnext0, hnext1, hsend0, hsend1, hceil0, hceil1, hs⟩).mono ?_
    rintro e w1 ⟨rfl, hb1⟩
    rw [HG.out, HE.out]
    have hz := hb1.size
    simp only [alloc_size] at hz
    have hz0 : w.heap.size < w1.heap.size := by omega
    have hz1 : w.heap.size + 1 < w1.heap.size := by omega
    have x1 : w1.heap[w.heap.size]? = some (.cells #[.slice ao key.length cap, .int .i64 side, .int .i64 cur, .int .i64 next, .int .u64 send, .int .u64 ceil, .int .i64 sec, .int .i64 nano] 27 (0, 0)) := (hb_block hb1 (w.heap.size) (by simp only [alloc_size]; omega)).trans (by simp only [alloc_get, alloc_size]; repeat first | rw [if_pos trivial] | rw [if_neg (by omega)] | rw [if_pos (by omega)])
    have x2 : w1.heap[w.heap.size + 1]? = some (.cells #[.slice none 0 0, .int .i64 0, .int .i64 0, .int .i64 0, .int .u64 0, .int .u64 0, .int .i64 0, .int .i64 0] 27 (0, 0)) := (hb_block hb1 (w.heap.size + 1) (by simp only [alloc_size]; omega)).trans (by simp only [alloc_get, alloc_size]; repeat first | rw [if_pos trivial] | rw [if_neg (by omega)] | rw [if_pos (by omega)])
    have a0 : w1.cell? ⟨w.heap.size, 0, none⟩ = some (.slice ao key.length cap) := cell_of_row w1 (w.heap.size) 0 _ _ _ x1
    have a1 : w1.cell? ⟨w.heap.size, 1, none⟩ = some (.int .i64 side) := cell_of_row w1 (w.heap.size) 1 _ _ _ x1
    have a2 : w1.cell? ⟨w.heap.size, 2, none⟩ = some (.int .i64 cur) := cell_of_row w1 (w.heap.size) 2 _ _ _ x1
    have a3 : w1.cell? ⟨w.heap.size, 3, none⟩ = some (.int .i64 next) := cell_of_row w1 (w.heap.size) 3 _ _ _ x1
    have a4 : w1.cell? ⟨w.heap.size, 4, none⟩ = some (.int .u64 send) := cell_of_row w1 (w.heap.size) 4 _ _ _ x1
    have a5 : w1.cell? ⟨w.heap.size, 5, none⟩ = some (.int .u64 ceil) := cell_of_row w1 (w.heap.size) 5 _ _ _ x1
    have a6 : w1.cell? ⟨w.heap.size, 6, none⟩ = some (.int .i64 sec) := cell_of_row w1 (w.heap.size) 6 _ _ _ x1
    have a7 : w1.cell? ⟨w.heap.size, 7, none⟩ = some (.int .i64 nano) := cell_of_row w1 (w.heap.size) 7 _ _ _ x1
    have af (i : Nat) : w1.frozen? ⟨w.heap.size, i, none⟩ = false := frozen_of_row w1 (w.heap.size) i _ _ x1
    have hB1 := (((Below.refl _ w).alloc (Nat.le_refl _) _).alloc (by simp only [alloc_size]; omega) _).trans (hb1.mono (by simp only [alloc_size]; omega))
    clear hb1
    go_wp2_with fail
    generalize hW : w1.alloc (Obj.cells #[.int .i64 g0] 3 (0, 0)) = W
    have hB2 := hB1.alloc (B := w.heap.size) (by omega) (Obj.cells #[.int .i64 g0] 3 (0, 0))
    rw [hW] at hB2
    have hWs : W.drew.heap.size = w1.heap.size + 1 := by rw [← hW]; exact alloc_size _ _
    have x0 : W.heap[w1.heap.size]? = some (.cells #[.int .i64 g0] 3 (0, 0)) := by rw [← hW]; exact heap_alloc_new _ _
    have x1' : W.heap[w.heap.size]? = some (.cells #[.slice ao key.length cap, .int .i64 side, .int .i64 cur, .int .i64 next, .int .u64 send, .int .u64 ceil, .int .i64 sec, .int .i64 nano] 27 (0, 0)) := by rw [← hW]; exact (alloc_old _ _ _ (by omega)).trans x1
    have x2' : W.heap[w.heap.size + 1]? = some (.cells #[.slice none 0 0, .int .i64 0, .int .i64 0, .int .i64 0, .int .u64 0, .int .u64 0, .int .i64 0, .int .i64 0] 27 (0, 0)) := by rw [← hW]; exact (alloc_old _ _ _ (by omega)).trans x2
    have c0 : W.cell? ⟨w1.heap.size, 0, none⟩ = some (.int .i64 g0) := cell_of_row W (w1.heap.size) 0 _ _ _ x0
    clear a0 a1 a2 a3 a4 a5 a6 a7 af
    have a0 : W.cell? ⟨w.heap.size, 0, none⟩ = some (.slice ao key.length cap) := cell_of_row W (w.heap.size) 0 _ _ _ x1'
    have a1 : W.cell? ⟨w.heap.size, 1, none⟩ = some (.int .i64 side) := cell_of_row W (w.heap.size) 1 _ _ _ x1'
    have a2 : W.cell? ⟨w.heap.size, 2, none⟩ = some (.int .i64 cur) := cell_of_row W (w.heap.size) 2 _ _ _ x1'
    have a3 : W.cell? ⟨w.heap.size, 3, none⟩ = some (.int .i64 next) := cell_of_row W (w.heap.size) 3 _ _ _ x1'
    have a4 : W.cell? ⟨w.heap.size, 4, none⟩ = some (.int .u64 send) := cell_of_row W (w.heap.size) 4 _ _ _ x1'
    have a5 : W.cell? ⟨w.heap.size, 5, none⟩ = some (.int .u64 ceil) := cell_of_row W (w.heap.size) 5 _ _ _ x1'
    have a6 : W.cell? ⟨w.heap.size, 6, none⟩ = some (.int .i64 sec) := cell_of_row W (w.heap.size) 6 _ _ _ x1'
    have a7 : W.cell? ⟨w.heap.size, 7, none⟩ = some (.int .i64 nano) := cell_of_row W (w.heap.size) 7 _ _ _ x1'
    have af (i : Nat) : W.frozen? ⟨w.heap.size, i, none⟩ = false := frozen_of_row W (w.heap.size) i _ _ x1'
    have hrW : Rd W.drew ao key := (hr.on hB2 : Rd W ao key)
    have X2 := Lib.hid x2'
    have hn1 : w1.heap.size ≠ w.heap.size + 1 := by omega
    have hn2 : w.heap.size ≠ w.heap.size + 1 := by omega
    clear x0 x1 x2 x1' x2' hW hB1
    have hclo : ∀ (w3 : World) (gg : Nat) (ar : Option Addr) (cr : Nat), Below W.drew.heap.size W.drew w3 → W.drew.heap.size ≤ gg → w3.heap[gg]? = some (.cells #[.slice ar key.length cr, .int .i64 side, .int .i64 cur, .int .i64 next, .int .u64 send, .int .u64 ceil, .int .i64 sec, .int .i64 nano] 27 (0, 0)) → Calls Tryz.prog 25 (#[.pointer (some ⟨gg, 0, none⟩)] ++ #[.pointer (some ⟨w1.heap.size, 0, none⟩)]) w3 (Turns w3 gg #[.slice ar key.length cr, .int .i64 side, .int .i64 cur, .int .i64 g0, .int .u64 send, .int .u64 ceil, .int .i64 sec, .int .i64 nano]) :=
      fun w3 gg ar cr hB hg hx => cloPropose w3 gg ar cr key side cur next send ceil sec nano hx w1.heap.size g0 (by rw [hWs] at hg; omega) ((hB.cell (by rw [hWs]; simp only; omega)).trans c0)
    have HC := Lib.hid hclo
    clear hclo
    go_region_held3 (fun w' => w'.cell? ⟨w1.heap.size, 0, none⟩ = some (.int .i64 g0) ∧ w'.cell? ⟨w.heap.size, 0, none⟩ = some (.slice ao key.length cap) ∧ w'.cell? ⟨w.heap.size, 1, none⟩ = some (.int .i64 side) ∧ w'.cell? ⟨w.heap.size, 2, none⟩ = some (.int .i64 cur) ∧ w'.cell? ⟨w.heap.size, 3, none⟩ = some (.int .i64 next) ∧ w'.cell? ⟨w.heap.size, 4, none⟩ = some (.int .u64 send) ∧ w'.cell? ⟨w.heap.size, 5, none⟩ = some (.int .u64 ceil) ∧ w'.cell? ⟨w.heap.size, 6, none⟩ = some (.int .i64 sec) ∧ w'.cell? ⟨w.heap.size, 7, none⟩ = some (.int .i64 nano)) (((try simp only [cell_drew, cell_far _ _ _ _ _ _ hn1, cell_far _ _ _ _ _ _ hn2]); (refine ⟨?_, ?_, ?_, ?_, ?_, ?_, ?_, ?_, ?_⟩ <;> with_reducible assumption))) ((go_at_call 23; refine (laneChanged1 ⟨key, side, cur, next, send, ceil, sec, nano⟩ cur g0 send ceil sec nano ao cap 25 _ W.drew hs HK.out hrW (fun _ _ => rfl) HC.out).mono ?_; rintro e w2 ⟨ar, cr, he, hm, hb2⟩; obtain rfl : e = .returned (.agg #[.slice ar key.length cr, .int .i64 side, .int .i64 cur, .int .i64 g0, .int .u64 send, .int .u64 ceil, .int .i64 sec, .int .i64 nano]) := he; have dc0 : w2.cell? ⟨w1.heap.size, 0, none⟩ = some (.int .i64 g0) := (hb2.cell (by rw [hWs]; show w1.heap.size < _; omega)).trans c0; have da0 : w2.cell? ⟨w.heap.size, 0, none⟩ = some (.slice ao key.length cap) := (hb2.cell (by rw [hWs]; show w.heap.size < _; omega)).trans a0; have da1 : w2.cell? ⟨w.heap.size, 1, none⟩ = some (.int .i64 side) := (hb2.cell (by rw [hWs]; show w.heap.size < _; omega)).trans a1; have da2 : w2.cell? ⟨w.heap.size, 2, none⟩ = some (.int .i64 cur) := (hb2.cell (by rw [hWs]; show w.heap.size < _; omega)).trans a2; have da3 : w2.cell? ⟨w.heap.size, 3, none⟩ = some (.int .i64 next) := (hb2.cell (by rw [hWs]; show w.heap.size < _; omega)).trans a3; have da4 : w2.cell? ⟨w.heap.size, 4, none⟩ = some (.int .u64 send) := (hb2.cell (by rw [hWs]; show w.heap.size < _; omega)).trans a4; have da5 : w2.cell? ⟨w.heap.size, 5, none⟩ = some (.int .u64 ceil) := (hb2.cell (by rw [hWs]; show w.heap.size < _; omega)).trans a5; have da6 : w2.cell? ⟨w.heap.size, 6, none⟩ = some (.int .i64 sec) := (hb2.cell (by rw [hWs]; show w.heap.size < _; omega)).trans a6; have da7 : w2.cell? ⟨w.heap.size, 7, none⟩ = some (.int .i64 nano) := (hb2.cell (by rw [hWs]; show w.heap.size < _; omega)).trans a7; have y : w2.heap[w.heap.size + 1]? = some (.cells #[.slice none 0 0, .int .i64 0, .int .i64 0, .int .i64 0, .int .u64 0, .int .u64 0, .int .i64 0, .int .i64 0] 27 (0, 0)) := (hb2.block (w.heap.size + 1) (by rw [hWs]; omega)).trans X2.out; have b0 : w2.cell? ⟨w.heap.size + 1, 0, none⟩ = some (.slice none 0 0) := cell_of_row w2 (w.heap.size + 1) 0 _ _ _ y; have b1 : w2.cell? ⟨w.heap.size + 1, 1, none⟩ = some (.int .i64 0) := cell_of_row w2 (w.heap.size + 1) 1 _ _ _ y; have b2 : w2.cell? ⟨w.heap.size + 1, 2, none⟩ = some (.int .i64 0) := cell_of_row w2 (w.heap.size + 1) 2 _ _ _ y; have b3 : w2.cell? ⟨w.heap.size + 1, 3, none⟩ = some (.int .i64 0) := cell_of_row w2 (w.heap.size + 1) 3 _ _ _ y; have b4 : w2.cell? ⟨w.heap.size + 1, 4, none⟩ = some (.int .u64 0) := cell_of_row w2 (w.heap.size + 1) 4 _ _ _ y; have b5 : w2.cell? ⟨w.heap.size + 1, 5, none⟩ = some (.int .u64 0) := cell_of_row w2 (w.heap.size + 1) 5 _ _ _ y; have b6 : w2.cell? ⟨w.heap.size + 1, 6, none⟩ = some (.int .i64 0) := cell_of_row w2 (w.heap.size + 1) 6 _ _ _ y; have b7 : w2.cell? ⟨w.heap.size + 1, 7, none⟩ = some (.int .i64 0) := cell_of_row w2 (w.heap.size + 1) 7 _ _ _ y; have bf (i : Nat) : w2.frozen? ⟨w.heap.size + 1, i, none⟩ = false := frozen_of_row w2 (w.heap.size + 1) i _ _ y; clear y))
    go_wp2_with fail
    refine bodyPost_ret (v := .tuple #[.agg #[.slice ar key.length cr, .int .i64 side, .int .i64 cur, .int .i64 g0, .int .u64 send, .int .u64 ceil, .int .i64 sec, .int .i64 nano], .int .i64 g0, .int .i64 0]) (by simp [results, Tryz.results7, go_sem, b0, b1, b2, b3, b4, b5, b6, b7]) rfl ⟨_, _, rfl, ?_, ?_⟩
    · refine Mine.from (B := w.heap.size + 2) ?_ (by omega)
      iterate 8 (refine Mine.setCell ?_ _ _ _ (by omega))
      exact Mine.from hm (by rw [hWs]; omega)
    · iterate 8 (refine Below.set ?_ _ _ _ (by omega))
      exact hB2.drew.trans (hb2.mono (by rw [hWs]; omega))
  · have hy : proposeL ⟨key, side, cur, next, send, ceil, sec, nano⟩ = Ln.zero := by simp [proposeL, he0, h0]
    have h0b : (e0 == 0) = false := beq_eq_false_iff_ne.2 h0
    rw [hy, hg0, he0]
    unfold Ln.zero
    have HG := Lib.hid hg0
    have HE := Lib.hid he0
    clear hy hg0 he0 h0
    go_enter Tryz.func7, Tryz.ntmps7
    go_wp2_with fail
    refine (laneNext ⟨key, side, cur, next, send, ceil, sec, nano⟩ ao cap _ ⟨hl, hcur0, hcur1, hnext0, hnext1, hsend0, hsend1, hceil0, hceil1, hs⟩).mono ?_
    rintro e w1 ⟨rfl, hb1⟩
    rw [HG.out, HE.out]
    have hz := hb1.size
    simp only [alloc_size] at hz
    have hz0 : w.heap.size < w1.heap.size := by omega
    have hz1 : w.heap.size + 1 < w1.heap.size := by omega
    have x1 : w1.heap[w.heap.size]? = some (.cells #[.slice ao key.length cap, .int .i64 side, .int .i64 cur, .int .i64 next, .int .u64 send, .int .u64 ceil, .int .i64 sec, .int .i64 nano] 27 (0, 0)) := (hb_block hb1 (w.heap.size) (by simp only [alloc_size]; omega)).trans (by simp only [alloc_get, alloc_size]; repeat first | rw [if_pos trivial] | rw [if_neg (by omega)] | rw [if_pos (by omega)])
    have x2 : w1.heap[w.heap.size + 1]? = some (.cells #[.slice none 0 0, .int .i64 0, .int .i64 0, .int .i64 0, .int .u64 0, .int .u64 0, .int .i64 0, .int .i64 0] 27 (0, 0)) := (hb_block hb1 (w.heap.size + 1) (by simp only [alloc_size]; omega)).trans (by simp only [alloc_get, alloc_size]; repeat first | rw [if_pos trivial] | rw [if_neg (by omega)] | rw [if_pos (by omega)])
    have a0 : w1.cell? ⟨w.heap.size, 0, none⟩ = some (.slice ao key.length cap) := cell_of_row w1 (w.heap.size) 0 _ _ _ x1
    have a1 : w1.cell? ⟨w.heap.size, 1, none⟩ = some (.int .i64 side) := cell_of_row w1 (w.heap.size) 1 _ _ _ x1
    have a2 : w1.cell? ⟨w.heap.size, 2, none⟩ = some (.int .i64 cur) := cell_of_row w1 (w.heap.size) 2 _ _ _ x1
    have a3 : w1.cell? ⟨w.heap.size, 3, none⟩ = some (.int .i64 next) := cell_of_row w1 (w.heap.size) 3 _ _ _ x1
    have a4 : w1.cell? ⟨w.heap.size, 4, none⟩ = some (.int .u64 send) := cell_of_row w1 (w.heap.size) 4 _ _ _ x1
    have a5 : w1.cell? ⟨w.heap.size, 5, none⟩ = some (.int .u64 ceil) := cell_of_row w1 (w.heap.size) 5 _ _ _ x1
    have a6 : w1.cell? ⟨w.heap.size, 6, none⟩ = some (.int .i64 sec) := cell_of_row w1 (w.heap.size) 6 _ _ _ x1
    have a7 : w1.cell? ⟨w.heap.size, 7, none⟩ = some (.int .i64 nano) := cell_of_row w1 (w.heap.size) 7 _ _ _ x1
    have af (i : Nat) : w1.frozen? ⟨w.heap.size, i, none⟩ = false := frozen_of_row w1 (w.heap.size) i _ _ x1
    have hB1 := (((Below.refl _ w).alloc (Nat.le_refl _) _).alloc (by simp only [alloc_size]; omega) _).trans (hb1.mono (by simp only [alloc_size]; omega))
    clear hb1
    go_wp2_with fail
    generalize hW : w1.alloc (Obj.cells #[.int .i64 g0] 3 (0, 0)) = W
    have hB2 := hB1.alloc (B := w.heap.size) (by omega) (Obj.cells #[.int .i64 g0] 3 (0, 0))
    rw [hW] at hB2
    have hWs : W.drew.heap.size = w1.heap.size + 1 := by rw [← hW]; exact alloc_size _ _
    have x0 : W.heap[w1.heap.size]? = some (.cells #[.int .i64 g0] 3 (0, 0)) := by rw [← hW]; exact heap_alloc_new _ _
    have x1' : W.heap[w.heap.size]? = some (.cells #[.slice ao key.length cap, .int .i64 side, .int .i64 cur, .int .i64 next, .int .u64 send, .int .u64 ceil, .int .i64 sec, .int .i64 nano] 27 (0, 0)) := by rw [← hW]; exact (alloc_old _ _ _ (by omega)).trans x1
    have x2' : W.heap[w.heap.size + 1]? = some (.cells #[.slice none 0 0, .int .i64 0, .int .i64 0, .int .i64 0, .int .u64 0, .int .u64 0, .int .i64 0, .int .i64 0] 27 (0, 0)) := by rw [← hW]; exact (alloc_old _ _ _ (by omega)).trans x2
    have c0 : W.cell? ⟨w1.heap.size, 0, none⟩ = some (.int .i64 g0) := cell_of_row W (w1.heap.size) 0 _ _ _ x0
    clear a0 a1 a2 a3 a4 a5 a6 a7 af
    have a0 : W.cell? ⟨w.heap.size, 0, none⟩ = some (.slice ao key.length cap) := cell_of_row W (w.heap.size) 0 _ _ _ x1'
    have a1 : W.cell? ⟨w.heap.size, 1, none⟩ = some (.int .i64 side) := cell_of_row W (w.heap.size) 1 _ _ _ x1'
    have a2 : W.cell? ⟨w.heap.size, 2, none⟩ = some (.int .i64 cur) := cell_of_row W (w.heap.size) 2 _ _ _ x1'
    have a3 : W.cell? ⟨w.heap.size, 3, none⟩ = some (.int .i64 next) := cell_of_row W (w.heap.size) 3 _ _ _ x1'
    have a4 : W.cell? ⟨w.heap.size, 4, none⟩ = some (.int .u64 send) := cell_of_row W (w.heap.size) 4 _ _ _ x1'
    have a5 : W.cell? ⟨w.heap.size, 5, none⟩ = some (.int .u64 ceil) := cell_of_row W (w.heap.size) 5 _ _ _ x1'
    have a6 : W.cell? ⟨w.heap.size, 6, none⟩ = some (.int .i64 sec) := cell_of_row W (w.heap.size) 6 _ _ _ x1'
    have a7 : W.cell? ⟨w.heap.size, 7, none⟩ = some (.int .i64 nano) := cell_of_row W (w.heap.size) 7 _ _ _ x1'
    have af (i : Nat) : W.frozen? ⟨w.heap.size, i, none⟩ = false := frozen_of_row W (w.heap.size) i _ _ x1'
    have hrW : Rd W.drew ao key := (hr.on hB2 : Rd W ao key)
    have X2 := Lib.hid x2'
    have hn1 : w1.heap.size ≠ w.heap.size + 1 := by omega
    have hn2 : w.heap.size ≠ w.heap.size + 1 := by omega
    clear x0 x1 x2 x1' x2' hW hB1
    go_region_held3 (fun w' => w'.cell? ⟨w1.heap.size, 0, none⟩ = some (.int .i64 g0) ∧ w'.cell? ⟨w.heap.size, 0, none⟩ = some (.slice ao key.length cap) ∧ w'.cell? ⟨w.heap.size, 1, none⟩ = some (.int .i64 side) ∧ w'.cell? ⟨w.heap.size, 2, none⟩ = some (.int .i64 cur) ∧ w'.cell? ⟨w.heap.size, 3, none⟩ = some (.int .i64 next) ∧ w'.cell? ⟨w.heap.size, 4, none⟩ = some (.int .u64 send) ∧ w'.cell? ⟨w.heap.size, 5, none⟩ = some (.int .u64 ceil) ∧ w'.cell? ⟨w.heap.size, 6, none⟩ = some (.int .i64 sec) ∧ w'.cell? ⟨w.heap.size, 7, none⟩ = some (.int .i64 nano)) (((try simp only [cell_drew, cell_far _ _ _ _ _ _ hn1, cell_far _ _ _ _ _ _ hn2]); (refine ⟨?_, ?_, ?_, ?_, ?_, ?_, ?_, ?_, ?_⟩ <;> with_reducible assumption))) ((go_at_call 23; refine (laneChanged0 ⟨key, side, cur, next, send, ceil, sec, nano⟩ ao cap false _ W.drew hs (by simp)).mono ?_; rintro e w2 ⟨he, hb2⟩; obtain rfl : e = .returned (.agg #[.slice none 0 0, .int .i64 0, .int .i64 0, .int .i64 0, .int .u64 0, .int .u64 0, .int .i64 0, .int .i64 0]) := he; have dc0 : w2.cell? ⟨w1.heap.size, 0, none⟩ = some (.int .i64 g0) := (hb2.cell (by rw [hWs]; show w1.heap.size < _; omega)).trans c0; have da0 : w2.cell? ⟨w.heap.size, 0, none⟩ = some (.slice ao key.length cap) := (hb2.cell (by rw [hWs]; show w.heap.size < _; omega)).trans a0; have da1 : w2.cell? ⟨w.heap.size, 1, none⟩ = some (.int .i64 side) := (hb2.cell (by rw [hWs]; show w.heap.size < _; omega)).trans a1; have da2 : w2.cell? ⟨w.heap.size, 2, none⟩ = some (.int .i64 cur) := (hb2.cell (by rw [hWs]; show w.heap.size < _; omega)).trans a2; have da3 : w2.cell? ⟨w.heap.size, 3, none⟩ = some (.int .i64 next) := (hb2.cell (by rw [hWs]; show w.heap.size < _; omega)).trans a3; have da4 : w2.cell? ⟨w.heap.size, 4, none⟩ = some (.int .u64 send) := (hb2.cell (by rw [hWs]; show w.heap.size < _; omega)).trans a4; have da5 : w2.cell? ⟨w.heap.size, 5, none⟩ = some (.int .u64 ceil) := (hb2.cell (by rw [hWs]; show w.heap.size < _; omega)).trans a5; have da6 : w2.cell? ⟨w.heap.size, 6, none⟩ = some (.int .i64 sec) := (hb2.cell (by rw [hWs]; show w.heap.size < _; omega)).trans a6; have da7 : w2.cell? ⟨w.heap.size, 7, none⟩ = some (.int .i64 nano) := (hb2.cell (by rw [hWs]; show w.heap.size < _; omega)).trans a7; have y : w2.heap[w.heap.size + 1]? = some (.cells #[.slice none 0 0, .int .i64 0, .int .i64 0, .int .i64 0, .int .u64 0, .int .u64 0, .int .i64 0, .int .i64 0] 27 (0, 0)) := (hb2.block (w.heap.size + 1) (by rw [hWs]; omega)).trans X2.out; have b0 : w2.cell? ⟨w.heap.size + 1, 0, none⟩ = some (.slice none 0 0) := cell_of_row w2 (w.heap.size + 1) 0 _ _ _ y; have b1 : w2.cell? ⟨w.heap.size + 1, 1, none⟩ = some (.int .i64 0) := cell_of_row w2 (w.heap.size + 1) 1 _ _ _ y; have b2 : w2.cell? ⟨w.heap.size + 1, 2, none⟩ = some (.int .i64 0) := cell_of_row w2 (w.heap.size + 1) 2 _ _ _ y; have b3 : w2.cell? ⟨w.heap.size + 1, 3, none⟩ = some (.int .i64 0) := cell_of_row w2 (w.heap.size + 1) 3 _ _ _ y; have b4 : w2.cell? ⟨w.heap.size + 1, 4, none⟩ = some (.int .u64 0) := cell_of_row w2 (w.heap.size + 1) 4 _ _ _ y; have b5 : w2.cell? ⟨w.heap.size + 1, 5, none⟩ = some (.int .u64 0) := cell_of_row w2 (w.heap.size + 1) 5 _ _ _ y; have b6 : w2.cell? ⟨w.heap.size + 1, 6, none⟩ = some (.int .i64 0) := cell_of_row w2 (w.heap.size + 1) 6 _ _ _ y; have b7 : w2.cell? ⟨w.heap.size + 1, 7, none⟩ = some (.int .i64 0) := cell_of_row w2 (w.heap.size + 1) 7 _ _ _ y; have bf (i : Nat) : w2.frozen? ⟨w.heap.size + 1, i, none⟩ = false := frozen_of_row w2 (w.heap.size + 1) i _ _ y; clear y))
    go_wp2_with fail
    refine bodyPost_ret (v := .tuple #[.agg #[.slice none 0 0, .int .i64 0, .int .i64 0, .int .i64 0, .int .u64 0, .int .u64 0, .int .i64 0, .int .i64 0], .int .i64 g0, .int .i64 e0]) (by simp [results, Tryz.results7, go_sem, b0, b1, b2, b3, b4, b5, b6, b7]) rfl ⟨_, _, rfl, ?_, ?_⟩
    · exact Or.inl ⟨rfl, rfl, rfl⟩
    · iterate 8 (refine Below.set ?_ _ _ _ (by omega))
      exact hB2.drew.trans (hb2.mono (by rw [hWs]; omega))
end Go.Proofs.YtjlhnepjpjlppaaGreatDoor
