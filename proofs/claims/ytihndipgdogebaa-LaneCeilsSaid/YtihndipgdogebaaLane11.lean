/- What the reference's New, Again and Propose make of a lane. -/
import Derived.Test.YtihndipgdogebaaLane9d
namespace Go.Proofs.Ytihndipgdogebaa
open Go.RowKit
theorem refNew_n0 (key : List (BitVec 8)) (side : Int) (ao : Option Addr) (cap : Nat) (w : World) (_hl : key.length ≤ 140737488351232) (_hr : Rd w ao key) (h : ¬ key.length = 32) :
   Calls Try.prog 18 #[.slice ao key.length cap, .int .i64 side] w fun e w' => ∃ ao' cap', e = .returned ((newL key side).val ao' cap') ∧ Mine w' w.heap.size 5 ao' cap' (newL key side).key ∧ Below w.heap.size w w' := by
  have hok : Ln.ok ⟨key, side, 1, 0, 0, 0, 0, 0⟩ = false := by simp [Ln.ok]; omega
  have hy : newL key side = Ln.zero := by simp [newL, hok]
  rw [hy]
  unfold Ln.zero Ln.val
  clear hok hy
  have hkb : ((key.length : Int) != 32) = true := by rw [bne_iff_ne]; omega
  clear h
  go_enter Try.func18, Try.ntmps18
  go_wp2_with fail
  refine bodyPost_ret (v := .agg #[.slice none 0 0, .int .i64 0, .int .i64 0, .int .i64 0, .int .u64 0, .int .u64 0, .int .i64 0, .int .i64 0]) (by simp [results, Try.results18, go_sem]) rfl ⟨_, _, rfl, Or.inl ⟨rfl, rfl, rfl⟩, ?_⟩
  exact fresh1 _ _
theorem refNew_n1 (key : List (BitVec 8)) (side : Int) (ao : Option Addr) (cap : Nat) (w : World) (_hl : key.length ≤ 140737488351232) (_hr : Rd w ao key) (h : key.length = 32) (h1 : ¬ 0 ≤ side) :
   Calls Try.prog 18 #[.slice ao key.length cap, .int .i64 side] w fun e w' => ∃ ao' cap', e = .returned ((newL key side).val ao' cap') ∧ Mine w' w.heap.size 5 ao' cap' (newL key side).key ∧ Below w.heap.size w w' := by
  have hok : Ln.ok ⟨key, side, 1, 0, 0, 0, 0, 0⟩ = false := by simp [Ln.ok]; omega
  have hy : newL key side = Ln.zero := by simp [newL, hok]
  rw [hy]
  unfold Ln.zero Ln.val
  clear hok hy
  have hkb : ((key.length : Int) != 32) = false := by rw [bne_eq_false_iff_eq]; omega
  clear h
  go_enter Try.func18, Try.ntmps18
  go_wp2_with fail
  refine bodyPost_ret (v := .agg #[.slice none 0 0, .int .i64 0, .int .i64 0, .int .i64 0, .int .u64 0, .int .u64 0, .int .i64 0, .int .i64 0]) (by simp [results, Try.results18, go_sem]) rfl ⟨_, _, rfl, Or.inl ⟨rfl, rfl, rfl⟩, ?_⟩
  exact fresh1 _ _
theorem refNew_n2 (key : List (BitVec 8)) (side : Int) (ao : Option Addr) (cap : Nat) (w : World) (_hl : key.length ≤ 140737488351232) (_hr : Rd w ao key) (h : key.length = 32) (h1 : 0 ≤ side) (h2 : ¬ side ≤ 1) :
   Calls Try.prog 18 #[.slice ao key.length cap, .int .i64 side] w fun e w' => ∃ ao' cap', e = .returned ((newL key side).val ao' cap') ∧ Mine w' w.heap.size 5 ao' cap' (newL key side).key ∧ Below w.heap.size w w' := by
  have hok : Ln.ok ⟨key, side, 1, 0, 0, 0, 0, 0⟩ = false := by simp [Ln.ok]; omega
  have hy : newL key side = Ln.zero := by simp [newL, hok]
  rw [hy]
  unfold Ln.zero Ln.val
  clear hok hy
  have hkb : ((key.length : Int) != 32) = false := by rw [bne_eq_false_iff_eq]; omega
  clear h
  go_enter Try.func18, Try.ntmps18
  go_wp2_with fail
  refine bodyPost_ret (v := .agg #[.slice none 0 0, .int .i64 0, .int .i64 0, .int .i64 0, .int .u64 0, .int .u64 0, .int .i64 0, .int .i64 0]) (by simp [results, Try.results18, go_sem]) rfl ⟨_, _, rfl, Or.inl ⟨rfl, rfl, rfl⟩, ?_⟩
  exact fresh1 _ _
theorem refNew_y (key : List (BitVec 8)) (side : Int) (ao : Option Addr) (cap : Nat) (w : World) (hl : key.length ≤ 140737488351232) (hr : Rd w ao key) (h : key.length = 32) (h1 : 0 ≤ side) (h2 : side ≤ 1) :
   Calls Try.prog 18 #[.slice ao key.length cap, .int .i64 side] w fun e w' => ∃ ao' cap', e = .returned ((newL key side).val ao' cap') ∧ Mine w' w.heap.size 5 ao' cap' (newL key side).key ∧ Below w.heap.size w w' := by
  have hok : Ln.ok ⟨key, side, 1, 0, 0, 0, 0, 0⟩ = true := by simp [Ln.ok, stampB, h, h1, h2]
  have hy : newL key side = ⟨key, side, 1, 0, 0, 0, 0, 0⟩ := by simp [newL, hok]
  rw [hy]
  unfold Ln.val
  clear hok hy
  have hkb : ((key.length : Int) != 32) = false := by rw [bne_eq_false_iff_eq]; omega
  clear h
  go_enter Try.func18, Try.ntmps18
  go_wp2_with fail
  refine (bytesOf ao key cap _ hl (hr.on (fresh1 w _))).mono ?_
  rintro e w1 ⟨v, rfl, hown, hb⟩
  obtain ⟨ar, cr, rfl, hm⟩ := owns_mine hown
  clear hown
  have x : w1.heap[w.heap.size]? = some (.cells #[.slice none 0 0, .int .i64 0, .int .i64 0, .int .i64 0, .int .u64 0, .int .u64 0, .int .i64 0, .int .i64 0] 27 (0, 0)) := (hb_block hb (w.heap.size) (by simp only [alloc_size]; omega)).trans (by simp only [alloc_get]; repeat first | rw [if_pos trivial] | rw [if_neg (by omega)] | rw [if_pos (by omega)])
  have b0 : w1.cell? ⟨w.heap.size, 0, none⟩ = some (.slice none 0 0) := cell_of_row w1 (w.heap.size) 0 _ _ _ x
  have b1 : w1.cell? ⟨w.heap.size, 1, none⟩ = some (.int .i64 0) := cell_of_row w1 (w.heap.size) 1 _ _ _ x
  have b2 : w1.cell? ⟨w.heap.size, 2, none⟩ = some (.int .i64 0) := cell_of_row w1 (w.heap.size) 2 _ _ _ x
  have b3 : w1.cell? ⟨w.heap.size, 3, none⟩ = some (.int .i64 0) := cell_of_row w1 (w.heap.size) 3 _ _ _ x
  have b4 : w1.cell? ⟨w.heap.size, 4, none⟩ = some (.int .u64 0) := cell_of_row w1 (w.heap.size) 4 _ _ _ x
  have b5 : w1.cell? ⟨w.heap.size, 5, none⟩ = some (.int .u64 0) := cell_of_row w1 (w.heap.size) 5 _ _ _ x
  have b6 : w1.cell? ⟨w.heap.size, 6, none⟩ = some (.int .i64 0) := cell_of_row w1 (w.heap.size) 6 _ _ _ x
  have b7 : w1.cell? ⟨w.heap.size, 7, none⟩ = some (.int .i64 0) := cell_of_row w1 (w.heap.size) 7 _ _ _ x
  have bf (i : Nat) : w1.frozen? ⟨w.heap.size, i, none⟩ = false := frozen_of_row w1 (w.heap.size) i _ _ x
  clear x
  go_wp2_with fail
  refine bodyPost_ret (v := .agg #[.slice ar key.length cr, .int .i64 side, .int .i64 1, .int .i64 0, .int .u64 0, .int .u64 0, .int .i64 0, .int .i64 0]) (by simp [results, Try.results18, go_sem, b0, b1, b2, b3, b4, b5, b6, b7]) rfl ⟨_, _, rfl, ?_, ?_⟩
  · refine Mine.from (B := w.heap.size + 1) ?_ (by omega)
    iterate 8 (refine Mine.setCell ?_ _ _ _ (by omega))
    exact Mine.from hm (by simp only [alloc_size]; omega)
  · iterate 8 (refine Below.set ?_ _ _ _ (by omega))
    exact ((Below.refl _ w).alloc (Nat.le_refl _) _).trans (hb.mono (by simp only [alloc_size]; omega))
theorem refNew (key : List (BitVec 8)) (side : Int) (ao : Option Addr) (cap : Nat) (w : World) (hl : key.length ≤ 140737488351232) (hr : Rd w ao key) :
   Calls Try.prog 18 #[.slice ao key.length cap, .int .i64 side] w fun e w' => ∃ ao' cap', e = .returned ((newL key side).val ao' cap') ∧ Mine w' w.heap.size 5 ao' cap' (newL key side).key ∧ Below w.heap.size w w' := by
  by_cases h : key.length = 32
  · by_cases h1 : 0 ≤ side
    · by_cases h2 : side ≤ 1
      · exact refNew_y key side ao cap w hl hr h h1 h2
      · exact refNew_n2 key side ao cap w hl hr h h1 h2
    · exact refNew_n1 key side ao cap w hl hr h h1
  · exact refNew_n0 key side ao cap w hl hr h
theorem ok_bounds {L : Ln} (h : L.ok = true) : 1 ≤ L.cur ∧ L.cur ≤ 2147483647 ∧ 0 ≤ L.next ∧ L.next ≤ 2147483647 := by
  simp only [Ln.ok, Bool.and_eq_true, decide_eq_true_eq] at h
  omega
theorem refAbove (L : Ln) (ao : Option Addr) (cap : Nat) (w : World) (hc0 : 1 ≤ L.cur) (hc : L.cur ≤ 2147483647) (hn0 : 0 ≤ L.next) (hn : L.next ≤ 2147483647) :
   Calls Try.prog 53 #[L.val ao cap] w fun e w' => e = .returned (.int .i64 (topG L + 1)) ∧ Below w.heap.size w w' := by
  obtain ⟨key, side, cur, next, send, ceil, sec, nano⟩ := L
  unfold Ln.val
  simp only at hc0 hc hn0 hn ⊢
  by_cases h : cur < next
  · have hy : topG ⟨key, side, cur, next, send, ceil, sec, nano⟩ = next := by simp [topG, h]
    rw [hy]
    clear hy
    go_enter Try.func53, Try.ntmps53
    go_wp2
    go_ret
    exact ⟨rfl, fresh1 _ _⟩
  · have hy : topG ⟨key, side, cur, next, send, ceil, sec, nano⟩ = cur := by simp [topG, h]
    rw [hy]
    clear hy
    go_enter Try.func53, Try.ntmps53
    go_wp2
    go_ret
    exact ⟨rfl, fresh1 _ _⟩
set_option maxHeartbeats 800000 in
theorem refAgain_n0 (L : Ln) (ao : Option Addr) (cap : Nat) (w : World) (hf : L.fits) (hr : Rd w ao L.key) (hok : L.ok = false) :
   Calls Try.prog 24 #[L.val ao cap] w fun e w' => ∃ ao' cap', e = .returned (.tuple #[(againL L).val ao' cap', .int .i64 (nextE L)]) ∧ Mine w' w.heap.size 5 ao' cap' (againL L).key ∧ Below w.heap.size w w' := by
  obtain ⟨hl, hcur0, hcur1, hnext0, hnext1, hsend0, hsend1, hceil0, hceil1, hs⟩ := hf
  obtain ⟨key, side, cur, next, send, ceil, sec, nano⟩ := L
  unfold Ln.val
  simp only at hl hcur0 hcur1 hnext0 hnext1 hsend0 hsend1 hceil0 hceil1 hs hr hok ⊢
  have he : nextE ⟨key, side, cur, next, send, ceil, sec, nano⟩ = 2 := by simp [nextE, hok]
  have hy : againL ⟨key, side, cur, next, send, ceil, sec, nano⟩ = Ln.zero := by simp [againL, he]
  rw [hy, he]
  unfold Ln.zero
  have HOK := Lib.hid hok
  clear hy he hok
  go_enter Try.func24, Try.ntmps24
  go_wp2_with fail
  refine (refLaneValid ⟨key, side, cur, next, send, ceil, sec, nano⟩ ao cap _).mono ?_
  rintro e w1 ⟨rfl, hb⟩
  rw [HOK.out]
  have hz := hb.size
  simp only [alloc_size] at hz
  have hB := (((Below.refl _ w).alloc (Nat.le_refl _) _).alloc (by simp only [alloc_size]; omega) _).trans (hb.mono (by simp only [alloc_size]; omega))
  have x0 : w1.heap[w.heap.size]? = some (.cells #[.slice ao key.length cap, .int .i64 side, .int .i64 cur, .int .i64 next, .int .u64 send, .int .u64 ceil, .int .i64 sec, .int .i64 nano] 27 (0, 0)) := (hb_block hb (w.heap.size) (by simp only [alloc_size]; omega)).trans (by simp only [alloc_get, alloc_size]; repeat first | rw [if_pos trivial] | rw [if_neg (by omega)] | rw [if_pos (by omega)])
  have x1 : w1.heap[w.heap.size + 1]? = some (.cells #[.slice none 0 0, .int .i64 0, .int .i64 0, .int .i64 0, .int .u64 0, .int .u64 0, .int .i64 0, .int .i64 0] 27 (0, 0)) := (hb_block hb (w.heap.size + 1) (by simp only [alloc_size]; omega)).trans (by simp only [alloc_get, alloc_size]; repeat first | rw [if_pos trivial] | rw [if_neg (by omega)] | rw [if_pos (by omega)])
  clear hb
  have a0 : w1.cell? ⟨w.heap.size, 0, none⟩ = some (.slice ao key.length cap) := cell_of_row w1 (w.heap.size) 0 _ _ _ x0
  have a1 : w1.cell? ⟨w.heap.size, 1, none⟩ = some (.int .i64 side) := cell_of_row w1 (w.heap.size) 1 _ _ _ x0
  have a2 : w1.cell? ⟨w.heap.size, 2, none⟩ = some (.int .i64 cur) := cell_of_row w1 (w.heap.size) 2 _ _ _ x0
  have a3 : w1.cell? ⟨w.heap.size, 3, none⟩ = some (.int .i64 next) := cell_of_row w1 (w.heap.size) 3 _ _ _ x0
  have a4 : w1.cell? ⟨w.heap.size, 4, none⟩ = some (.int .u64 send) := cell_of_row w1 (w.heap.size) 4 _ _ _ x0
  have a5 : w1.cell? ⟨w.heap.size, 5, none⟩ = some (.int .u64 ceil) := cell_of_row w1 (w.heap.size) 5 _ _ _ x0
  have a6 : w1.cell? ⟨w.heap.size, 6, none⟩ = some (.int .i64 sec) := cell_of_row w1 (w.heap.size) 6 _ _ _ x0
  have a7 : w1.cell? ⟨w.heap.size, 7, none⟩ = some (.int .i64 nano) := cell_of_row w1 (w.heap.size) 7 _ _ _ x0
  have af (i : Nat) : w1.frozen? ⟨w.heap.size, i, none⟩ = false := frozen_of_row w1 (w.heap.size) i _ _ x0
  have b0 : w1.cell? ⟨w.heap.size + 1, 0, none⟩ = some (.slice none 0 0) := cell_of_row w1 (w.heap.size + 1) 0 _ _ _ x1
  have b1 : w1.cell? ⟨w.heap.size + 1, 1, none⟩ = some (.int .i64 0) := cell_of_row w1 (w.heap.size + 1) 1 _ _ _ x1
  have b2 : w1.cell? ⟨w.heap.size + 1, 2, none⟩ = some (.int .i64 0) := cell_of_row w1 (w.heap.size + 1) 2 _ _ _ x1
  have b3 : w1.cell? ⟨w.heap.size + 1, 3, none⟩ = some (.int .i64 0) := cell_of_row w1 (w.heap.size + 1) 3 _ _ _ x1
  have b4 : w1.cell? ⟨w.heap.size + 1, 4, none⟩ = some (.int .u64 0) := cell_of_row w1 (w.heap.size + 1) 4 _ _ _ x1
  have b5 : w1.cell? ⟨w.heap.size + 1, 5, none⟩ = some (.int .u64 0) := cell_of_row w1 (w.heap.size + 1) 5 _ _ _ x1
  have b6 : w1.cell? ⟨w.heap.size + 1, 6, none⟩ = some (.int .i64 0) := cell_of_row w1 (w.heap.size + 1) 6 _ _ _ x1
  have b7 : w1.cell? ⟨w.heap.size + 1, 7, none⟩ = some (.int .i64 0) := cell_of_row w1 (w.heap.size + 1) 7 _ _ _ x1
  have bf (i : Nat) : w1.frozen? ⟨w.heap.size + 1, i, none⟩ = false := frozen_of_row w1 (w.heap.size + 1) i _ _ x1
  have X0 := Lib.hid x0
  have X1 := Lib.hid x1
  clear x0 x1
  go_wp2_with fail
  refine bodyPost_ret (v := .tuple #[.agg #[.slice none 0 0, .int .i64 0, .int .i64 0, .int .i64 0, .int .u64 0, .int .u64 0, .int .i64 0, .int .i64 0], .int .i64 2]) (by simp [results, Try.results24, go_sem, b0, b1, b2, b3, b4, b5, b6, b7]) rfl ⟨_, _, rfl, Or.inl ⟨rfl, rfl, rfl⟩, ?_⟩
  iterate 8 (refine Below.set ?_ _ _ _ (by omega))
  exact hB
set_option maxHeartbeats 800000 in
theorem refAgain_n1 (L : Ln) (ao : Option Addr) (cap : Nat) (w : World) (hf : L.fits) (hr : Rd w ao L.key) (hok : L.ok = true) (h : 2147483647 ≤ topG L) :
   Calls Try.prog 24 #[L.val ao cap] w fun e w' => ∃ ao' cap', e = .returned (.tuple #[(againL L).val ao' cap', .int .i64 (nextE L)]) ∧ Mine w' w.heap.size 5 ao' cap' (againL L).key ∧ Below w.heap.size w w' := by
  obtain ⟨hk0, hk1, hk2, hk3⟩ := ok_bounds hok
  obtain ⟨t, ht⟩ : ∃ t, topG L = t := ⟨_, rfl⟩
  obtain ⟨hl, hcur0, hcur1, hnext0, hnext1, hsend0, hsend1, hceil0, hceil1, hs⟩ := hf
  obtain ⟨key, side, cur, next, send, ceil, sec, nano⟩ := L
  unfold Ln.val
  simp only at hl hcur0 hcur1 hnext0 hnext1 hsend0 hsend1 hceil0 hceil1 hs hr hok h ht hk0 hk1 hk2 hk3 ⊢
  have he : nextE ⟨key, side, cur, next, send, ceil, sec, nano⟩ = 168 := by simp [nextE, hok, h]
  have hy : againL ⟨key, side, cur, next, send, ceil, sec, nano⟩ = Ln.zero := by simp [againL, he]
  rw [hy, he]
  unfold Ln.zero
  rw [ht] at h
  have HOK := Lib.hid hok
  have HG := Lib.hid ht
  have htl : t ≤ 2147483647 := by rw [← ht]; unfold topG; simp only; split <;> omega
  clear hy he hok ht
  go_enter Try.func24, Try.ntmps24
  go_wp2_with fail
  refine (refLaneValid ⟨key, side, cur, next, send, ceil, sec, nano⟩ ao cap _).mono ?_
  rintro e w1 ⟨rfl, hb⟩
  rw [HOK.out]
  have hz := hb.size
  simp only [alloc_size] at hz
  have hB := (((Below.refl _ w).alloc (Nat.le_refl _) _).alloc (by simp only [alloc_size]; omega) _).trans (hb.mono (by simp only [alloc_size]; omega))
  have x0 : w1.heap[w.heap.size]? = some (.cells #[.slice ao key.length cap, .int .i64 side, .int .i64 cur, .int .i64 next, .int .u64 send, .int .u64 ceil, .int .i64 sec, .int .i64 nano] 27 (0, 0)) := (hb_block hb (w.heap.size) (by simp only [alloc_size]; omega)).trans (by simp only [alloc_get, alloc_size]; repeat first | rw [if_pos trivial] | rw [if_neg (by omega)] | rw [if_pos (by omega)])
  have x1 : w1.heap[w.heap.size + 1]? = some (.cells #[.slice none 0 0, .int .i64 0, .int .i64 0, .int .i64 0, .int .u64 0, .int .u64 0, .int .i64 0, .int .i64 0] 27 (0, 0)) := (hb_block hb (w.heap.size + 1) (by simp only [alloc_size]; omega)).trans (by simp only [alloc_get, alloc_size]; repeat first | rw [if_pos trivial] | rw [if_neg (by omega)] | rw [if_pos (by omega)])
  clear hb
  have a0 : w1.cell? ⟨w.heap.size, 0, none⟩ = some (.slice ao key.length cap) := cell_of_row w1 (w.heap.size) 0 _ _ _ x0
  have a1 : w1.cell? ⟨w.heap.size, 1, none⟩ = some (.int .i64 side) := cell_of_row w1 (w.heap.size) 1 _ _ _ x0
  have a2 : w1.cell? ⟨w.heap.size, 2, none⟩ = some (.int .i64 cur) := cell_of_row w1 (w.heap.size) 2 _ _ _ x0
  have a3 : w1.cell? ⟨w.heap.size, 3, none⟩ = some (.int .i64 next) := cell_of_row w1 (w.heap.size) 3 _ _ _ x0
  have a4 : w1.cell? ⟨w.heap.size, 4, none⟩ = some (.int .u64 send) := cell_of_row w1 (w.heap.size) 4 _ _ _ x0
  have a5 : w1.cell? ⟨w.heap.size, 5, none⟩ = some (.int .u64 ceil) := cell_of_row w1 (w.heap.size) 5 _ _ _ x0
  have a6 : w1.cell? ⟨w.heap.size, 6, none⟩ = some (.int .i64 sec) := cell_of_row w1 (w.heap.size) 6 _ _ _ x0
  have a7 : w1.cell? ⟨w.heap.size, 7, none⟩ = some (.int .i64 nano) := cell_of_row w1 (w.heap.size) 7 _ _ _ x0
  have af (i : Nat) : w1.frozen? ⟨w.heap.size, i, none⟩ = false := frozen_of_row w1 (w.heap.size) i _ _ x0
  have b0 : w1.cell? ⟨w.heap.size + 1, 0, none⟩ = some (.slice none 0 0) := cell_of_row w1 (w.heap.size + 1) 0 _ _ _ x1
  have b1 : w1.cell? ⟨w.heap.size + 1, 1, none⟩ = some (.int .i64 0) := cell_of_row w1 (w.heap.size + 1) 1 _ _ _ x1
  have b2 : w1.cell? ⟨w.heap.size + 1, 2, none⟩ = some (.int .i64 0) := cell_of_row w1 (w.heap.size + 1) 2 _ _ _ x1
  have b3 : w1.cell? ⟨w.heap.size + 1, 3, none⟩ = some (.int .i64 0) := cell_of_row w1 (w.heap.size + 1) 3 _ _ _ x1
  have b4 : w1.cell? ⟨w.heap.size + 1, 4, none⟩ = some (.int .u64 0) := cell_of_row w1 (w.heap.size + 1) 4 _ _ _ x1
  have b5 : w1.cell? ⟨w.heap.size + 1, 5, none⟩ = some (.int .u64 0) := cell_of_row w1 (w.heap.size + 1) 5 _ _ _ x1
  have b6 : w1.cell? ⟨w.heap.size + 1, 6, none⟩ = some (.int .i64 0) := cell_of_row w1 (w.heap.size + 1) 6 _ _ _ x1
  have b7 : w1.cell? ⟨w.heap.size + 1, 7, none⟩ = some (.int .i64 0) := cell_of_row w1 (w.heap.size + 1) 7 _ _ _ x1
  have bf (i : Nat) : w1.frozen? ⟨w.heap.size + 1, i, none⟩ = false := frozen_of_row w1 (w.heap.size + 1) i _ _ x1
  have X0 := Lib.hid x0
  have X1 := Lib.hid x1
  clear x0 x1
  go_wp2_with fail
  refine (refAbove ⟨key, side, cur, next, send, ceil, sec, nano⟩ ao cap _ hk0 hk1 hk2 hk3).mono ?_
  rintro e w2 ⟨rfl, hb⟩
  rw [HG.out]
  have x0 : w2.heap[w.heap.size]? = some (.cells #[.slice ao key.length cap, .int .i64 side, .int .i64 cur, .int .i64 next, .int .u64 send, .int .u64 ceil, .int .i64 sec, .int .i64 nano] 27 (0, 0)) := (hb.block (w.heap.size) (by omega)).trans X0.out
  have x1 : w2.heap[w.heap.size + 1]? = some (.cells #[.slice none 0 0, .int .i64 0, .int .i64 0, .int .i64 0, .int .u64 0, .int .u64 0, .int .i64 0, .int .i64 0] 27 (0, 0)) := (hb.block (w.heap.size + 1) (by omega)).trans X1.out
  have hz2 := hb.size
  have hB := hB.trans (hb.mono (by omega))
  clear hb X0 X1
  clear a0 a1 a2 a3 a4 a5 a6 a7 af
  clear b0 b1 b2 b3 b4 b5 b6 b7 bf
  have a0 : w2.cell? ⟨w.heap.size, 0, none⟩ = some (.slice ao key.length cap) := cell_of_row w2 (w.heap.size) 0 _ _ _ x0
  have a1 : w2.cell? ⟨w.heap.size, 1, none⟩ = some (.int .i64 side) := cell_of_row w2 (w.heap.size) 1 _ _ _ x0
  have a2 : w2.cell? ⟨w.heap.size, 2, none⟩ = some (.int .i64 cur) := cell_of_row w2 (w.heap.size) 2 _ _ _ x0
  have a3 : w2.cell? ⟨w.heap.size, 3, none⟩ = some (.int .i64 next) := cell_of_row w2 (w.heap.size) 3 _ _ _ x0
  have a4 : w2.cell? ⟨w.heap.size, 4, none⟩ = some (.int .u64 send) := cell_of_row w2 (w.heap.size) 4 _ _ _ x0
  have a5 : w2.cell? ⟨w.heap.size, 5, none⟩ = some (.int .u64 ceil) := cell_of_row w2 (w.heap.size) 5 _ _ _ x0
  have a6 : w2.cell? ⟨w.heap.size, 6, none⟩ = some (.int .i64 sec) := cell_of_row w2 (w.heap.size) 6 _ _ _ x0
  have a7 : w2.cell? ⟨w.heap.size, 7, none⟩ = some (.int .i64 nano) := cell_of_row w2 (w.heap.size) 7 _ _ _ x0
  have af (i : Nat) : w2.frozen? ⟨w.heap.size, i, none⟩ = false := frozen_of_row w2 (w.heap.size) i _ _ x0
  have b0 : w2.cell? ⟨w.heap.size + 1, 0, none⟩ = some (.slice none 0 0) := cell_of_row w2 (w.heap.size + 1) 0 _ _ _ x1
  have b1 : w2.cell? ⟨w.heap.size + 1, 1, none⟩ = some (.int .i64 0) := cell_of_row w2 (w.heap.size + 1) 1 _ _ _ x1
  have b2 : w2.cell? ⟨w.heap.size + 1, 2, none⟩ = some (.int .i64 0) := cell_of_row w2 (w.heap.size + 1) 2 _ _ _ x1
  have b3 : w2.cell? ⟨w.heap.size + 1, 3, none⟩ = some (.int .i64 0) := cell_of_row w2 (w.heap.size + 1) 3 _ _ _ x1
  have b4 : w2.cell? ⟨w.heap.size + 1, 4, none⟩ = some (.int .u64 0) := cell_of_row w2 (w.heap.size + 1) 4 _ _ _ x1
  have b5 : w2.cell? ⟨w.heap.size + 1, 5, none⟩ = some (.int .u64 0) := cell_of_row w2 (w.heap.size + 1) 5 _ _ _ x1
  have b6 : w2.cell? ⟨w.heap.size + 1, 6, none⟩ = some (.int .i64 0) := cell_of_row w2 (w.heap.size + 1) 6 _ _ _ x1
  have b7 : w2.cell? ⟨w.heap.size + 1, 7, none⟩ = some (.int .i64 0) := cell_of_row w2 (w.heap.size + 1) 7 _ _ _ x1
  have bf (i : Nat) : w2.frozen? ⟨w.heap.size + 1, i, none⟩ = false := frozen_of_row w2 (w.heap.size + 1) i _ _ x1
  have X0 := Lib.hid x0
  have X1 := Lib.hid x1
  clear x0 x1
  go_wp2_with fail
  refine bodyPost_ret (v := .tuple #[.agg #[.slice none 0 0, .int .i64 0, .int .i64 0, .int .i64 0, .int .u64 0, .int .u64 0, .int .i64 0, .int .i64 0], .int .i64 168]) (by simp [results, Try.results24, go_sem, b0, b1, b2, b3, b4, b5, b6, b7]) rfl ⟨_, _, rfl, Or.inl ⟨rfl, rfl, rfl⟩, ?_⟩
  iterate 8 (refine Below.set ?_ _ _ _ (by omega))
  exact hB
set_option maxHeartbeats 800000 in
theorem refAgain_y (L : Ln) (ao : Option Addr) (cap : Nat) (w : World) (hf : L.fits) (hr : Rd w ao L.key) (hok : L.ok = true) (h : ¬ 2147483647 ≤ topG L) :
   Calls Try.prog 24 #[L.val ao cap] w fun e w' => ∃ ao' cap', e = .returned (.tuple #[(againL L).val ao' cap', .int .i64 (nextE L)]) ∧ Mine w' w.heap.size 5 ao' cap' (againL L).key ∧ Below w.heap.size w w' := by
  obtain ⟨hk0, hk1, hk2, hk3⟩ := ok_bounds hok
  obtain ⟨t, ht⟩ : ∃ t, topG L = t := ⟨_, rfl⟩
  obtain ⟨hl, hcur0, hcur1, hnext0, hnext1, hsend0, hsend1, hceil0, hceil1, hs⟩ := hf
  obtain ⟨key, side, cur, next, send, ceil, sec, nano⟩ := L
  unfold Ln.val
  simp only at hl hcur0 hcur1 hnext0 hnext1 hsend0 hsend1 hceil0 hceil1 hs hr hok h ht hk0 hk1 hk2 hk3 ⊢
  have he : nextE ⟨key, side, cur, next, send, ceil, sec, nano⟩ = 0 := by simp [nextE, hok, h]
  have hg : nextG ⟨key, side, cur, next, send, ceil, sec, nano⟩ = t + 1 := by simp only [nextG, hok, if_true]; rw [if_neg h, ht]
  have hy : againL ⟨key, side, cur, next, send, ceil, sec, nano⟩ = Ln.keep ⟨key, side, cur, next, send, ceil, sec, nano⟩ (t + 1) next 0 0 sec nano := by simp [againL, he, hg]
  rw [hy, he]
  unfold Ln.keep
  rw [ht] at h
  have HOK := Lib.hid hok
  have HG := Lib.hid ht
  have htl : 0 ≤ t := by rw [← ht]; unfold topG; simp only; split <;> omega
  clear hy he hok ht hg
  go_enter Try.func24, Try.ntmps24
  go_wp2_with fail
  refine (refLaneValid ⟨key, side, cur, next, send, ceil, sec, nano⟩ ao cap _).mono ?_
  rintro e w1 ⟨rfl, hb⟩
  rw [HOK.out]
  have hz := hb.size
  simp only [alloc_size] at hz
  have hB := (((Below.refl _ w).alloc (Nat.le_refl _) _).alloc (by simp only [alloc_size]; omega) _).trans (hb.mono (by simp only [alloc_size]; omega))
  have x0 : w1.heap[w.heap.size]? = some (.cells #[.slice ao key.length cap, .int .i64 side, .int .i64 cur, .int .i64 next, .int .u64 send, .int .u64 ceil, .int .i64 sec, .int .i64 nano] 27 (0, 0)) := (hb_block hb (w.heap.size) (by simp only [alloc_size]; omega)).trans (by simp only [alloc_get, alloc_size]; repeat first | rw [if_pos trivial] | rw [if_neg (by omega)] | rw [if_pos (by omega)])
  have x1 : w1.heap[w.heap.size + 1]? = some (.cells #[.slice none 0 0, .int .i64 0, .int .i64 0, .int .i64 0, .int .u64 0, .int .u64 0, .int .i64 0, .int .i64 0] 27 (0, 0)) := (hb_block hb (w.heap.size + 1) (by simp only [alloc_size]; omega)).trans (by simp only [alloc_get, alloc_size]; repeat first | rw [if_pos trivial] | rw [if_neg (by omega)] | rw [if_pos (by omega)])
  clear hb
  have a0 : w1.cell? ⟨w.heap.size, 0, none⟩ = some (.slice ao key.length cap) := cell_of_row w1 (w.heap.size) 0 _ _ _ x0
  have a1 : w1.cell? ⟨w.heap.size, 1, none⟩ = some (.int .i64 side) := cell_of_row w1 (w.heap.size) 1 _ _ _ x0
  have a2 : w1.cell? ⟨w.heap.size, 2, none⟩ = some (.int .i64 cur) := cell_of_row w1 (w.heap.size) 2 _ _ _ x0
  have a3 : w1.cell? ⟨w.heap.size, 3, none⟩ = some (.int .i64 next) := cell_of_row w1 (w.heap.size) 3 _ _ _ x0
  have a4 : w1.cell? ⟨w.heap.size, 4, none⟩ = some (.int .u64 send) := cell_of_row w1 (w.heap.size) 4 _ _ _ x0
  have a5 : w1.cell? ⟨w.heap.size, 5, none⟩ = some (.int .u64 ceil) := cell_of_row w1 (w.heap.size) 5 _ _ _ x0
  have a6 : w1.cell? ⟨w.heap.size, 6, none⟩ = some (.int .i64 sec) := cell_of_row w1 (w.heap.size) 6 _ _ _ x0
  have a7 : w1.cell? ⟨w.heap.size, 7, none⟩ = some (.int .i64 nano) := cell_of_row w1 (w.heap.size) 7 _ _ _ x0
  have af (i : Nat) : w1.frozen? ⟨w.heap.size, i, none⟩ = false := frozen_of_row w1 (w.heap.size) i _ _ x0
  have b0 : w1.cell? ⟨w.heap.size + 1, 0, none⟩ = some (.slice none 0 0) := cell_of_row w1 (w.heap.size + 1) 0 _ _ _ x1
  have b1 : w1.cell? ⟨w.heap.size + 1, 1, none⟩ = some (.int .i64 0) := cell_of_row w1 (w.heap.size + 1) 1 _ _ _ x1
  have b2 : w1.cell? ⟨w.heap.size + 1, 2, none⟩ = some (.int .i64 0) := cell_of_row w1 (w.heap.size + 1) 2 _ _ _ x1
  have b3 : w1.cell? ⟨w.heap.size + 1, 3, none⟩ = some (.int .i64 0) := cell_of_row w1 (w.heap.size + 1) 3 _ _ _ x1
  have b4 : w1.cell? ⟨w.heap.size + 1, 4, none⟩ = some (.int .u64 0) := cell_of_row w1 (w.heap.size + 1) 4 _ _ _ x1
  have b5 : w1.cell? ⟨w.heap.size + 1, 5, none⟩ = some (.int .u64 0) := cell_of_row w1 (w.heap.size + 1) 5 _ _ _ x1
  have b6 : w1.cell? ⟨w.heap.size + 1, 6, none⟩ = some (.int .i64 0) := cell_of_row w1 (w.heap.size + 1) 6 _ _ _ x1
  have b7 : w1.cell? ⟨w.heap.size + 1, 7, none⟩ = some (.int .i64 0) := cell_of_row w1 (w.heap.size + 1) 7 _ _ _ x1
  have bf (i : Nat) : w1.frozen? ⟨w.heap.size + 1, i, none⟩ = false := frozen_of_row w1 (w.heap.size + 1) i _ _ x1
  have X0 := Lib.hid x0
  have X1 := Lib.hid x1
  clear x0 x1
  go_wp2_with fail
  refine (refAbove ⟨key, side, cur, next, send, ceil, sec, nano⟩ ao cap _ hk0 hk1 hk2 hk3).mono ?_
  rintro e w2 ⟨rfl, hb⟩
  rw [HG.out]
  have x0 : w2.heap[w.heap.size]? = some (.cells #[.slice ao key.length cap, .int .i64 side, .int .i64 cur, .int .i64 next, .int .u64 send, .int .u64 ceil, .int .i64 sec, .int .i64 nano] 27 (0, 0)) := (hb.block (w.heap.size) (by omega)).trans X0.out
  have x1 : w2.heap[w.heap.size + 1]? = some (.cells #[.slice none 0 0, .int .i64 0, .int .i64 0, .int .i64 0, .int .u64 0, .int .u64 0, .int .i64 0, .int .i64 0] 27 (0, 0)) := (hb.block (w.heap.size + 1) (by omega)).trans X1.out
  have hz2 := hb.size
  have hB := hB.trans (hb.mono (by omega))
  clear hb X0 X1
  clear a0 a1 a2 a3 a4 a5 a6 a7 af
  clear b0 b1 b2 b3 b4 b5 b6 b7 bf
  have a0 : w2.cell? ⟨w.heap.size, 0, none⟩ = some (.slice ao key.length cap) := cell_of_row w2 (w.heap.size) 0 _ _ _ x0
  have a1 : w2.cell? ⟨w.heap.size, 1, none⟩ = some (.int .i64 side) := cell_of_row w2 (w.heap.size) 1 _ _ _ x0
  have a2 : w2.cell? ⟨w.heap.size, 2, none⟩ = some (.int .i64 cur) := cell_of_row w2 (w.heap.size) 2 _ _ _ x0
  have a3 : w2.cell? ⟨w.heap.size, 3, none⟩ = some (.int .i64 next) := cell_of_row w2 (w.heap.size) 3 _ _ _ x0
  have a4 : w2.cell? ⟨w.heap.size, 4, none⟩ = some (.int .u64 send) := cell_of_row w2 (w.heap.size) 4 _ _ _ x0
  have a5 : w2.cell? ⟨w.heap.size, 5, none⟩ = some (.int .u64 ceil) := cell_of_row w2 (w.heap.size) 5 _ _ _ x0
  have a6 : w2.cell? ⟨w.heap.size, 6, none⟩ = some (.int .i64 sec) := cell_of_row w2 (w.heap.size) 6 _ _ _ x0
  have a7 : w2.cell? ⟨w.heap.size, 7, none⟩ = some (.int .i64 nano) := cell_of_row w2 (w.heap.size) 7 _ _ _ x0
  have af (i : Nat) : w2.frozen? ⟨w.heap.size, i, none⟩ = false := frozen_of_row w2 (w.heap.size) i _ _ x0
  have b0 : w2.cell? ⟨w.heap.size + 1, 0, none⟩ = some (.slice none 0 0) := cell_of_row w2 (w.heap.size + 1) 0 _ _ _ x1
  have b1 : w2.cell? ⟨w.heap.size + 1, 1, none⟩ = some (.int .i64 0) := cell_of_row w2 (w.heap.size + 1) 1 _ _ _ x1
  have b2 : w2.cell? ⟨w.heap.size + 1, 2, none⟩ = some (.int .i64 0) := cell_of_row w2 (w.heap.size + 1) 2 _ _ _ x1
  have b3 : w2.cell? ⟨w.heap.size + 1, 3, none⟩ = some (.int .i64 0) := cell_of_row w2 (w.heap.size + 1) 3 _ _ _ x1
  have b4 : w2.cell? ⟨w.heap.size + 1, 4, none⟩ = some (.int .u64 0) := cell_of_row w2 (w.heap.size + 1) 4 _ _ _ x1
  have b5 : w2.cell? ⟨w.heap.size + 1, 5, none⟩ = some (.int .u64 0) := cell_of_row w2 (w.heap.size + 1) 5 _ _ _ x1
  have b6 : w2.cell? ⟨w.heap.size + 1, 6, none⟩ = some (.int .i64 0) := cell_of_row w2 (w.heap.size + 1) 6 _ _ _ x1
  have b7 : w2.cell? ⟨w.heap.size + 1, 7, none⟩ = some (.int .i64 0) := cell_of_row w2 (w.heap.size + 1) 7 _ _ _ x1
  have bf (i : Nat) : w2.frozen? ⟨w.heap.size + 1, i, none⟩ = false := frozen_of_row w2 (w.heap.size + 1) i _ _ x1
  have X0 := Lib.hid x0
  have X1 := Lib.hid x1
  clear x0 x1
  go_wp2_with fail
  refine (refLane ⟨key, side, cur, next, send, ceil, sec, nano⟩ ao cap _ hl (hr.on hB)).mono ?_
  rintro e V ⟨ar, cr, he, hm, hb⟩
  obtain rfl : e = .returned (.agg #[.slice ar key.length cr, .int .i64 side, .int .i64 cur, .int .i64 next, .int .u64 send, .int .u64 ceil, .int .i64 sec, .int .i64 nano]) := he
  have x0 : V.heap[w.heap.size]? = some (.cells #[.slice ao key.length cap, .int .i64 side, .int .i64 cur, .int .i64 next, .int .u64 send, .int .u64 ceil, .int .i64 sec, .int .i64 nano] 27 (0, 0)) := (hb.block (w.heap.size) (by omega)).trans X0.out
  have x1 : V.heap[w.heap.size + 1]? = some (.cells #[.slice none 0 0, .int .i64 0, .int .i64 0, .int .i64 0, .int .u64 0, .int .u64 0, .int .i64 0, .int .i64 0] 27 (0, 0)) := (hb.block (w.heap.size + 1) (by omega)).trans X1.out
  have hzV := hb.size
  have hBV := hB.trans (hb.mono (by omega))
  have hlt0 : w.heap.size < V.heap.size := by omega
  have hlt1 : w.heap.size + 1 < V.heap.size := by omega
  clear hb hB X0 X1
  clear a0 a1 a2 a3 a4 a5 a6 a7 af
  clear b0 b1 b2 b3 b4 b5 b6 b7 bf
  have a0 : V.cell? ⟨w.heap.size, 0, none⟩ = some (.slice ao key.length cap) := cell_of_row V (w.heap.size) 0 _ _ _ x0
  have a1 : V.cell? ⟨w.heap.size, 1, none⟩ = some (.int .i64 side) := cell_of_row V (w.heap.size) 1 _ _ _ x0
  have a2 : V.cell? ⟨w.heap.size, 2, none⟩ = some (.int .i64 cur) := cell_of_row V (w.heap.size) 2 _ _ _ x0
  have a3 : V.cell? ⟨w.heap.size, 3, none⟩ = some (.int .i64 next) := cell_of_row V (w.heap.size) 3 _ _ _ x0
  have a4 : V.cell? ⟨w.heap.size, 4, none⟩ = some (.int .u64 send) := cell_of_row V (w.heap.size) 4 _ _ _ x0
  have a5 : V.cell? ⟨w.heap.size, 5, none⟩ = some (.int .u64 ceil) := cell_of_row V (w.heap.size) 5 _ _ _ x0
  have a6 : V.cell? ⟨w.heap.size, 6, none⟩ = some (.int .i64 sec) := cell_of_row V (w.heap.size) 6 _ _ _ x0
  have a7 : V.cell? ⟨w.heap.size, 7, none⟩ = some (.int .i64 nano) := cell_of_row V (w.heap.size) 7 _ _ _ x0
  have af (i : Nat) : V.frozen? ⟨w.heap.size, i, none⟩ = false := frozen_of_row V (w.heap.size) i _ _ x0
  have b0 : V.cell? ⟨w.heap.size + 1, 0, none⟩ = some (.slice none 0 0) := cell_of_row V (w.heap.size + 1) 0 _ _ _ x1
  have b1 : V.cell? ⟨w.heap.size + 1, 1, none⟩ = some (.int .i64 0) := cell_of_row V (w.heap.size + 1) 1 _ _ _ x1
  have b2 : V.cell? ⟨w.heap.size + 1, 2, none⟩ = some (.int .i64 0) := cell_of_row V (w.heap.size + 1) 2 _ _ _ x1
  have b3 : V.cell? ⟨w.heap.size + 1, 3, none⟩ = some (.int .i64 0) := cell_of_row V (w.heap.size + 1) 3 _ _ _ x1
  have b4 : V.cell? ⟨w.heap.size + 1, 4, none⟩ = some (.int .u64 0) := cell_of_row V (w.heap.size + 1) 4 _ _ _ x1
  have b5 : V.cell? ⟨w.heap.size + 1, 5, none⟩ = some (.int .u64 0) := cell_of_row V (w.heap.size + 1) 5 _ _ _ x1
  have b6 : V.cell? ⟨w.heap.size + 1, 6, none⟩ = some (.int .i64 0) := cell_of_row V (w.heap.size + 1) 6 _ _ _ x1
  have b7 : V.cell? ⟨w.heap.size + 1, 7, none⟩ = some (.int .i64 0) := cell_of_row V (w.heap.size + 1) 7 _ _ _ x1
  have bf (i : Nat) : V.frozen? ⟨w.heap.size + 1, i, none⟩ = false := frozen_of_row V (w.heap.size + 1) i _ _ x1
  clear x0 x1
  go_wp2_with fail
  refine bodyPost_ret (v := .tuple #[.agg #[.slice ar key.length cr, .int .i64 side, .int .i64 (t + 1), .int .i64 next, .int .u64 0, .int .u64 0, .int .i64 sec, .int .i64 nano], .int .i64 0]) (by simp [results, Try.results24, go_sem, hlt1, b0, b1, b2, b3, b4, b5, b6, b7]) rfl ⟨_, _, rfl, ?_, ?_⟩
  · refine Mine.from (B := w.heap.size + 2) ?_ (by omega)
    refine Mine.below ?_ (fresh1 _ _)
    iterate 8 (refine Mine.setCell ?_ _ _ _ (by omega))
    exact Mine.from hm (by omega)
  · refine below_push ?_
    iterate 8 (refine Below.set ?_ _ _ _ (by omega))
    exact hBV
set_option maxHeartbeats 800000 in
theorem refAgain (L : Ln) (ao : Option Addr) (cap : Nat) (w : World) (hf : L.fits) (hr : Rd w ao L.key) :
   Calls Try.prog 24 #[L.val ao cap] w fun e w' => ∃ ao' cap', e = .returned (.tuple #[(againL L).val ao' cap', .int .i64 (nextE L)]) ∧ Mine w' w.heap.size 5 ao' cap' (againL L).key ∧ Below w.heap.size w w' := by
  by_cases hok : L.ok = true
  · by_cases h : 2147483647 ≤ topG L
    · exact refAgain_n1 L ao cap w hf hr hok h
    · exact refAgain_y L ao cap w hf hr hok h
  · exact refAgain_n0 L ao cap w hf hr (by simpa using hok)
set_option maxHeartbeats 800000 in
theorem refPropose_n0 (L : Ln) (ao : Option Addr) (cap : Nat) (w : World) (hf : L.fits) (hr : Rd w ao L.key) (hok : L.ok = false) :
   Calls Try.prog 26 #[L.val ao cap] w fun e w' => ∃ ao' cap', e = .returned (.tuple #[(proposeL L).val ao' cap', .int .i64 (nextG L), .int .i64 (nextE L)]) ∧ Mine w' w.heap.size 5 ao' cap' (proposeL L).key ∧ Below w.heap.size w w' := by
  obtain ⟨hl, hcur0, hcur1, hnext0, hnext1, hsend0, hsend1, hceil0, hceil1, hs⟩ := hf
  obtain ⟨key, side, cur, next, send, ceil, sec, nano⟩ := L
  unfold Ln.val
  simp only at hl hcur0 hcur1 hnext0 hnext1 hsend0 hsend1 hceil0 hceil1 hs hr hok ⊢
  have he : nextE ⟨key, side, cur, next, send, ceil, sec, nano⟩ = 2 := by simp [nextE, hok]
  have hg : nextG ⟨key, side, cur, next, send, ceil, sec, nano⟩ = 0 := by simp [nextG, hok]
  have hy : proposeL ⟨key, side, cur, next, send, ceil, sec, nano⟩ = Ln.zero := by simp [proposeL, he]
  rw [hy, he, hg]
  unfold Ln.zero
  have HOK := Lib.hid hok
  clear hy he hok hg
  go_enter Try.func26, Try.ntmps26
  go_wp2_with fail
  refine (refLaneValid ⟨key, side, cur, next, send, ceil, sec, nano⟩ ao cap _).mono ?_
  rintro e w1 ⟨rfl, hb⟩
  rw [HOK.out]
  have hz := hb.size
  simp only [alloc_size] at hz
  have hB := (((Below.refl _ w).alloc (Nat.le_refl _) _).alloc (by simp only [alloc_size]; omega) _).trans (hb.mono (by simp only [alloc_size]; omega))
  have x0 : w1.heap[w.heap.size]? = some (.cells #[.slice ao key.length cap, .int .i64 side, .int .i64 cur, .int .i64 next, .int .u64 send, .int .u64 ceil, .int .i64 sec, .int .i64 nano] 27 (0, 0)) := (hb_block hb (w.heap.size) (by simp only [alloc_size]; omega)).trans (by simp only [alloc_get, alloc_size]; repeat first | rw [if_pos trivial] | rw [if_neg (by omega)] | rw [if_pos (by omega)])
  have x1 : w1.heap[w.heap.size + 1]? = some (.cells #[.slice none 0 0, .int .i64 0, .int .i64 0, .int .i64 0, .int .u64 0, .int .u64 0, .int .i64 0, .int .i64 0] 27 (0, 0)) := (hb_block hb (w.heap.size + 1) (by simp only [alloc_size]; omega)).trans (by simp only [alloc_get, alloc_size]; repeat first | rw [if_pos trivial] | rw [if_neg (by omega)] | rw [if_pos (by omega)])
  clear hb
  have a0 : w1.cell? ⟨w.heap.size, 0, none⟩ = some (.slice ao key.length cap) := cell_of_row w1 (w.heap.size) 0 _ _ _ x0
  have a1 : w1.cell? ⟨w.heap.size, 1, none⟩ = some (.int .i64 side) := cell_of_row w1 (w.heap.size) 1 _ _ _ x0
  have a2 : w1.cell? ⟨w.heap.size, 2, none⟩ = some (.int .i64 cur) := cell_of_row w1 (w.heap.size) 2 _ _ _ x0
  have a3 : w1.cell? ⟨w.heap.size, 3, none⟩ = some (.int .i64 next) := cell_of_row w1 (w.heap.size) 3 _ _ _ x0
  have a4 : w1.cell? ⟨w.heap.size, 4, none⟩ = some (.int .u64 send) := cell_of_row w1 (w.heap.size) 4 _ _ _ x0
  have a5 : w1.cell? ⟨w.heap.size, 5, none⟩ = some (.int .u64 ceil) := cell_of_row w1 (w.heap.size) 5 _ _ _ x0
  have a6 : w1.cell? ⟨w.heap.size, 6, none⟩ = some (.int .i64 sec) := cell_of_row w1 (w.heap.size) 6 _ _ _ x0
  have a7 : w1.cell? ⟨w.heap.size, 7, none⟩ = some (.int .i64 nano) := cell_of_row w1 (w.heap.size) 7 _ _ _ x0
  have af (i : Nat) : w1.frozen? ⟨w.heap.size, i, none⟩ = false := frozen_of_row w1 (w.heap.size) i _ _ x0
  have b0 : w1.cell? ⟨w.heap.size + 1, 0, none⟩ = some (.slice none 0 0) := cell_of_row w1 (w.heap.size + 1) 0 _ _ _ x1
  have b1 : w1.cell? ⟨w.heap.size + 1, 1, none⟩ = some (.int .i64 0) := cell_of_row w1 (w.heap.size + 1) 1 _ _ _ x1
  have b2 : w1.cell? ⟨w.heap.size + 1, 2, none⟩ = some (.int .i64 0) := cell_of_row w1 (w.heap.size + 1) 2 _ _ _ x1
  have b3 : w1.cell? ⟨w.heap.size + 1, 3, none⟩ = some (.int .i64 0) := cell_of_row w1 (w.heap.size + 1) 3 _ _ _ x1
  have b4 : w1.cell? ⟨w.heap.size + 1, 4, none⟩ = some (.int .u64 0) := cell_of_row w1 (w.heap.size + 1) 4 _ _ _ x1
  have b5 : w1.cell? ⟨w.heap.size + 1, 5, none⟩ = some (.int .u64 0) := cell_of_row w1 (w.heap.size + 1) 5 _ _ _ x1
  have b6 : w1.cell? ⟨w.heap.size + 1, 6, none⟩ = some (.int .i64 0) := cell_of_row w1 (w.heap.size + 1) 6 _ _ _ x1
  have b7 : w1.cell? ⟨w.heap.size + 1, 7, none⟩ = some (.int .i64 0) := cell_of_row w1 (w.heap.size + 1) 7 _ _ _ x1
  have bf (i : Nat) : w1.frozen? ⟨w.heap.size + 1, i, none⟩ = false := frozen_of_row w1 (w.heap.size + 1) i _ _ x1
  have X0 := Lib.hid x0
  have X1 := Lib.hid x1
  clear x0 x1
  go_wp2_with fail
  refine bodyPost_ret (v := .tuple #[.agg #[.slice none 0 0, .int .i64 0, .int .i64 0, .int .i64 0, .int .u64 0, .int .u64 0, .int .i64 0, .int .i64 0], .int .i64 0, .int .i64 2]) (by simp [results, Try.results26, go_sem, b0, b1, b2, b3, b4, b5, b6, b7]) rfl ⟨_, _, rfl, Or.inl ⟨rfl, rfl, rfl⟩, ?_⟩
  iterate 8 (refine Below.set ?_ _ _ _ (by omega))
  exact hB
set_option maxHeartbeats 800000 in
theorem refPropose_n1 (L : Ln) (ao : Option Addr) (cap : Nat) (w : World) (hf : L.fits) (hr : Rd w ao L.key) (hok : L.ok = true) (h : 2147483647 ≤ topG L) :
   Calls Try.prog 26 #[L.val ao cap] w fun e w' => ∃ ao' cap', e = .returned (.tuple #[(proposeL L).val ao' cap', .int .i64 (nextG L), .int .i64 (nextE L)]) ∧ Mine w' w.heap.size 5 ao' cap' (proposeL L).key ∧ Below w.heap.size w w' := by
  obtain ⟨hk0, hk1, hk2, hk3⟩ := ok_bounds hok
  obtain ⟨t, ht⟩ : ∃ t, topG L = t := ⟨_, rfl⟩
  obtain ⟨hl, hcur0, hcur1, hnext0, hnext1, hsend0, hsend1, hceil0, hceil1, hs⟩ := hf
  obtain ⟨key, side, cur, next, send, ceil, sec, nano⟩ := L
  unfold Ln.val
  simp only at hl hcur0 hcur1 hnext0 hnext1 hsend0 hsend1 hceil0 hceil1 hs hr hok h ht hk0 hk1 hk2 hk3 ⊢
  have he : nextE ⟨key, side, cur, next, send, ceil, sec, nano⟩ = 168 := by simp [nextE, hok, h]
  have hg : nextG ⟨key, side, cur, next, send, ceil, sec, nano⟩ = 0 := by simp [nextG, hok, h]
  have hy : proposeL ⟨key, side, cur, next, send, ceil, sec, nano⟩ = Ln.zero := by simp [proposeL, he]
  rw [hy, he, hg]
  unfold Ln.zero
  rw [ht] at h
  have HOK := Lib.hid hok
  have HG := Lib.hid ht
  have htl : t ≤ 2147483647 := by rw [← ht]; unfold topG; simp only; split <;> omega
  clear hy he hok ht hg
  go_enter Try.func26, Try.ntmps26
  go_wp2_with fail
  refine (refLaneValid ⟨key, side, cur, next, send, ceil, sec, nano⟩ ao cap _).mono ?_
  rintro e w1 ⟨rfl, hb⟩
  rw [HOK.out]
  have hz := hb.size
  simp only [alloc_size] at hz
  have hB := (((Below.refl _ w).alloc (Nat.le_refl _) _).alloc (by simp only [alloc_size]; omega) _).trans (hb.mono (by simp only [alloc_size]; omega))
  have x0 : w1.heap[w.heap.size]? = some (.cells #[.slice ao key.length cap, .int .i64 side, .int .i64 cur, .int .i64 next, .int .u64 send, .int .u64 ceil, .int .i64 sec, .int .i64 nano] 27 (0, 0)) := (hb_block hb (w.heap.size) (by simp only [alloc_size]; omega)).trans (by simp only [alloc_get, alloc_size]; repeat first | rw [if_pos trivial] | rw [if_neg (by omega)] | rw [if_pos (by omega)])
  have x1 : w1.heap[w.heap.size + 1]? = some (.cells #[.slice none 0 0, .int .i64 0, .int .i64 0, .int .i64 0, .int .u64 0, .int .u64 0, .int .i64 0, .int .i64 0] 27 (0, 0)) := (hb_block hb (w.heap.size + 1) (by simp only [alloc_size]; omega)).trans (by simp only [alloc_get, alloc_size]; repeat first | rw [if_pos trivial] | rw [if_neg (by omega)] | rw [if_pos (by omega)])
  clear hb
  have a0 : w1.cell? ⟨w.heap.size, 0, none⟩ = some (.slice ao key.length cap) := cell_of_row w1 (w.heap.size) 0 _ _ _ x0
  have a1 : w1.cell? ⟨w.heap.size, 1, none⟩ = some (.int .i64 side) := cell_of_row w1 (w.heap.size) 1 _ _ _ x0
  have a2 : w1.cell? ⟨w.heap.size, 2, none⟩ = some (.int .i64 cur) := cell_of_row w1 (w.heap.size) 2 _ _ _ x0
  have a3 : w1.cell? ⟨w.heap.size, 3, none⟩ = some (.int .i64 next) := cell_of_row w1 (w.heap.size) 3 _ _ _ x0
  have a4 : w1.cell? ⟨w.heap.size, 4, none⟩ = some (.int .u64 send) := cell_of_row w1 (w.heap.size) 4 _ _ _ x0
  have a5 : w1.cell? ⟨w.heap.size, 5, none⟩ = some (.int .u64 ceil) := cell_of_row w1 (w.heap.size) 5 _ _ _ x0
  have a6 : w1.cell? ⟨w.heap.size, 6, none⟩ = some (.int .i64 sec) := cell_of_row w1 (w.heap.size) 6 _ _ _ x0
  have a7 : w1.cell? ⟨w.heap.size, 7, none⟩ = some (.int .i64 nano) := cell_of_row w1 (w.heap.size) 7 _ _ _ x0
  have af (i : Nat) : w1.frozen? ⟨w.heap.size, i, none⟩ = false := frozen_of_row w1 (w.heap.size) i _ _ x0
  have b0 : w1.cell? ⟨w.heap.size + 1, 0, none⟩ = some (.slice none 0 0) := cell_of_row w1 (w.heap.size + 1) 0 _ _ _ x1
  have b1 : w1.cell? ⟨w.heap.size + 1, 1, none⟩ = some (.int .i64 0) := cell_of_row w1 (w.heap.size + 1) 1 _ _ _ x1
  have b2 : w1.cell? ⟨w.heap.size + 1, 2, none⟩ = some (.int .i64 0) := cell_of_row w1 (w.heap.size + 1) 2 _ _ _ x1
  have b3 : w1.cell? ⟨w.heap.size + 1, 3, none⟩ = some (.int .i64 0) := cell_of_row w1 (w.heap.size + 1) 3 _ _ _ x1
  have b4 : w1.cell? ⟨w.heap.size + 1, 4, none⟩ = some (.int .u64 0) := cell_of_row w1 (w.heap.size + 1) 4 _ _ _ x1
  have b5 : w1.cell? ⟨w.heap.size + 1, 5, none⟩ = some (.int .u64 0) := cell_of_row w1 (w.heap.size + 1) 5 _ _ _ x1
  have b6 : w1.cell? ⟨w.heap.size + 1, 6, none⟩ = some (.int .i64 0) := cell_of_row w1 (w.heap.size + 1) 6 _ _ _ x1
  have b7 : w1.cell? ⟨w.heap.size + 1, 7, none⟩ = some (.int .i64 0) := cell_of_row w1 (w.heap.size + 1) 7 _ _ _ x1
  have bf (i : Nat) : w1.frozen? ⟨w.heap.size + 1, i, none⟩ = false := frozen_of_row w1 (w.heap.size + 1) i _ _ x1
  have X0 := Lib.hid x0
  have X1 := Lib.hid x1
  clear x0 x1
  go_wp2_with fail
  refine (refAbove ⟨key, side, cur, next, send, ceil, sec, nano⟩ ao cap _ hk0 hk1 hk2 hk3).mono ?_
  rintro e w2 ⟨rfl, hb⟩
  rw [HG.out]
  have x0 : w2.heap[w.heap.size]? = some (.cells #[.slice ao key.length cap, .int .i64 side, .int .i64 cur, .int .i64 next, .int .u64 send, .int .u64 ceil, .int .i64 sec, .int .i64 nano] 27 (0, 0)) := (hb.block (w.heap.size) (by omega)).trans X0.out
  have x1 : w2.heap[w.heap.size + 1]? = some (.cells #[.slice none 0 0, .int .i64 0, .int .i64 0, .int .i64 0, .int .u64 0, .int .u64 0, .int .i64 0, .int .i64 0] 27 (0, 0)) := (hb.block (w.heap.size + 1) (by omega)).trans X1.out
  have hz2 := hb.size
  have hB := hB.trans (hb.mono (by omega))
  clear hb X0 X1
  clear a0 a1 a2 a3 a4 a5 a6 a7 af
  clear b0 b1 b2 b3 b4 b5 b6 b7 bf
  have a0 : w2.cell? ⟨w.heap.size, 0, none⟩ = some (.slice ao key.length cap) := cell_of_row w2 (w.heap.size) 0 _ _ _ x0
  have a1 : w2.cell? ⟨w.heap.size, 1, none⟩ = some (.int .i64 side) := cell_of_row w2 (w.heap.size) 1 _ _ _ x0
  have a2 : w2.cell? ⟨w.heap.size, 2, none⟩ = some (.int .i64 cur) := cell_of_row w2 (w.heap.size) 2 _ _ _ x0
  have a3 : w2.cell? ⟨w.heap.size, 3, none⟩ = some (.int .i64 next) := cell_of_row w2 (w.heap.size) 3 _ _ _ x0
  have a4 : w2.cell? ⟨w.heap.size, 4, none⟩ = some (.int .u64 send) := cell_of_row w2 (w.heap.size) 4 _ _ _ x0
  have a5 : w2.cell? ⟨w.heap.size, 5, none⟩ = some (.int .u64 ceil) := cell_of_row w2 (w.heap.size) 5 _ _ _ x0
  have a6 : w2.cell? ⟨w.heap.size, 6, none⟩ = some (.int .i64 sec) := cell_of_row w2 (w.heap.size) 6 _ _ _ x0
  have a7 : w2.cell? ⟨w.heap.size, 7, none⟩ = some (.int .i64 nano) := cell_of_row w2 (w.heap.size) 7 _ _ _ x0
  have af (i : Nat) : w2.frozen? ⟨w.heap.size, i, none⟩ = false := frozen_of_row w2 (w.heap.size) i _ _ x0
  have b0 : w2.cell? ⟨w.heap.size + 1, 0, none⟩ = some (.slice none 0 0) := cell_of_row w2 (w.heap.size + 1) 0 _ _ _ x1
  have b1 : w2.cell? ⟨w.heap.size + 1, 1, none⟩ = some (.int .i64 0) := cell_of_row w2 (w.heap.size + 1) 1 _ _ _ x1
  have b2 : w2.cell? ⟨w.heap.size + 1, 2, none⟩ = some (.int .i64 0) := cell_of_row w2 (w.heap.size + 1) 2 _ _ _ x1
  have b3 : w2.cell? ⟨w.heap.size + 1, 3, none⟩ = some (.int .i64 0) := cell_of_row w2 (w.heap.size + 1) 3 _ _ _ x1
  have b4 : w2.cell? ⟨w.heap.size + 1, 4, none⟩ = some (.int .u64 0) := cell_of_row w2 (w.heap.size + 1) 4 _ _ _ x1
  have b5 : w2.cell? ⟨w.heap.size + 1, 5, none⟩ = some (.int .u64 0) := cell_of_row w2 (w.heap.size + 1) 5 _ _ _ x1
  have b6 : w2.cell? ⟨w.heap.size + 1, 6, none⟩ = some (.int .i64 0) := cell_of_row w2 (w.heap.size + 1) 6 _ _ _ x1
  have b7 : w2.cell? ⟨w.heap.size + 1, 7, none⟩ = some (.int .i64 0) := cell_of_row w2 (w.heap.size + 1) 7 _ _ _ x1
  have bf (i : Nat) : w2.frozen? ⟨w.heap.size + 1, i, none⟩ = false := frozen_of_row w2 (w.heap.size + 1) i _ _ x1
  have X0 := Lib.hid x0
  have X1 := Lib.hid x1
  clear x0 x1
  go_wp2_with fail
  refine bodyPost_ret (v := .tuple #[.agg #[.slice none 0 0, .int .i64 0, .int .i64 0, .int .i64 0, .int .u64 0, .int .u64 0, .int .i64 0, .int .i64 0], .int .i64 0, .int .i64 168]) (by simp [results, Try.results26, go_sem, b0, b1, b2, b3, b4, b5, b6, b7]) rfl ⟨_, _, rfl, Or.inl ⟨rfl, rfl, rfl⟩, ?_⟩
  iterate 8 (refine Below.set ?_ _ _ _ (by omega))
  exact hB
set_option maxHeartbeats 800000 in
theorem refPropose_y (L : Ln) (ao : Option Addr) (cap : Nat) (w : World) (hf : L.fits) (hr : Rd w ao L.key) (hok : L.ok = true) (h : ¬ 2147483647 ≤ topG L) :
   Calls Try.prog 26 #[L.val ao cap] w fun e w' => ∃ ao' cap', e = .returned (.tuple #[(proposeL L).val ao' cap', .int .i64 (nextG L), .int .i64 (nextE L)]) ∧ Mine w' w.heap.size 5 ao' cap' (proposeL L).key ∧ Below w.heap.size w w' := by
  obtain ⟨hk0, hk1, hk2, hk3⟩ := ok_bounds hok
  obtain ⟨t, ht⟩ : ∃ t, topG L = t := ⟨_, rfl⟩
  obtain ⟨hl, hcur0, hcur1, hnext0, hnext1, hsend0, hsend1, hceil0, hceil1, hs⟩ := hf
  obtain ⟨key, side, cur, next, send, ceil, sec, nano⟩ := L
  unfold Ln.val
  simp only at hl hcur0 hcur1 hnext0 hnext1 hsend0 hsend1 hceil0 hceil1 hs hr hok h ht hk0 hk1 hk2 hk3 ⊢
  have he : nextE ⟨key, side, cur, next, send, ceil, sec, nano⟩ = 0 := by simp [nextE, hok, h]
  have hg : nextG ⟨key, side, cur, next, send, ceil, sec, nano⟩ = t + 1 := by simp only [nextG, hok, if_true]; rw [if_neg h, ht]
  have hy : proposeL ⟨key, side, cur, next, send, ceil, sec, nano⟩ = Ln.keep ⟨key, side, cur, next, send, ceil, sec, nano⟩ cur (t + 1) send ceil sec nano := by simp [proposeL, he, hg]
  rw [hy, he, hg]
  unfold Ln.keep
  rw [ht] at h
  have HOK := Lib.hid hok
  have HG := Lib.hid ht
  have htl : 0 ≤ t := by rw [← ht]; unfold topG; simp only; split <;> omega
  clear hy he hok ht hg
  go_enter Try.func26, Try.ntmps26
  go_wp2_with fail
  refine (refLaneValid ⟨key, side, cur, next, send, ceil, sec, nano⟩ ao cap _).mono ?_
  rintro e w1 ⟨rfl, hb⟩
  rw [HOK.out]
  have hz := hb.size
  simp only [alloc_size] at hz
  have hB := (((Below.refl _ w).alloc (Nat.le_refl _) _).alloc (by simp only [alloc_size]; omega) _).trans (hb.mono (by simp only [alloc_size]; omega))
  have x0 : w1.heap[w.heap.size]? = some (.cells #[.slice ao key.length cap, .int .i64 side, .int .i64 cur, .int .i64 next, .int .u64 send, .int .u64 ceil, .int .i64 sec, .int .i64 nano] 27 (0, 0)) := (hb_block hb (w.heap.size) (by simp only [alloc_size]; omega)).trans (by simp only [alloc_get, alloc_size]; repeat first | rw [if_pos trivial] | rw [if_neg (by omega)] | rw [if_pos (by omega)])
  have x1 : w1.heap[w.heap.size + 1]? = some (.cells #[.slice none 0 0, .int .i64 0, .int .i64 0, .int .i64 0, .int .u64 0, .int .u64 0, .int .i64 0, .int .i64 0] 27 (0, 0)) := (hb_block hb (w.heap.size + 1) (by simp only [alloc_size]; omega)).trans (by simp only [alloc_get, alloc_size]; repeat first | rw [if_pos trivial] | rw [if_neg (by omega)] | rw [if_pos (by omega)])
  clear hb
  have a0 : w1.cell? ⟨w.heap.size, 0, none⟩ = some (.slice ao key.length cap) := cell_of_row w1 (w.heap.size) 0 _ _ _ x0
  have a1 : w1.cell? ⟨w.heap.size, 1, none⟩ = some (.int .i64 side) := cell_of_row w1 (w.heap.size) 1 _ _ _ x0
  have a2 : w1.cell? ⟨w.heap.size, 2, none⟩ = some (.int .i64 cur) := cell_of_row w1 (w.heap.size) 2 _ _ _ x0
  have a3 : w1.cell? ⟨w.heap.size, 3, none⟩ = some (.int .i64 next) := cell_of_row w1 (w.heap.size) 3 _ _ _ x0
  have a4 : w1.cell? ⟨w.heap.size, 4, none⟩ = some (.int .u64 send) := cell_of_row w1 (w.heap.size) 4 _ _ _ x0
  have a5 : w1.cell? ⟨w.heap.size, 5, none⟩ = some (.int .u64 ceil) := cell_of_row w1 (w.heap.size) 5 _ _ _ x0
  have a6 : w1.cell? ⟨w.heap.size, 6, none⟩ = some (.int .i64 sec) := cell_of_row w1 (w.heap.size) 6 _ _ _ x0
  have a7 : w1.cell? ⟨w.heap.size, 7, none⟩ = some (.int .i64 nano) := cell_of_row w1 (w.heap.size) 7 _ _ _ x0
  have af (i : Nat) : w1.frozen? ⟨w.heap.size, i, none⟩ = false := frozen_of_row w1 (w.heap.size) i _ _ x0
  have b0 : w1.cell? ⟨w.heap.size + 1, 0, none⟩ = some (.slice none 0 0) := cell_of_row w1 (w.heap.size + 1) 0 _ _ _ x1
  have b1 : w1.cell? ⟨w.heap.size + 1, 1, none⟩ = some (.int .i64 0) := cell_of_row w1 (w.heap.size + 1) 1 _ _ _ x1
  have b2 : w1.cell? ⟨w.heap.size + 1, 2, none⟩ = some (.int .i64 0) := cell_of_row w1 (w.heap.size + 1) 2 _ _ _ x1
  have b3 : w1.cell? ⟨w.heap.size + 1, 3, none⟩ = some (.int .i64 0) := cell_of_row w1 (w.heap.size + 1) 3 _ _ _ x1
  have b4 : w1.cell? ⟨w.heap.size + 1, 4, none⟩ = some (.int .u64 0) := cell_of_row w1 (w.heap.size + 1) 4 _ _ _ x1
  have b5 : w1.cell? ⟨w.heap.size + 1, 5, none⟩ = some (.int .u64 0) := cell_of_row w1 (w.heap.size + 1) 5 _ _ _ x1
  have b6 : w1.cell? ⟨w.heap.size + 1, 6, none⟩ = some (.int .i64 0) := cell_of_row w1 (w.heap.size + 1) 6 _ _ _ x1
  have b7 : w1.cell? ⟨w.heap.size + 1, 7, none⟩ = some (.int .i64 0) := cell_of_row w1 (w.heap.size + 1) 7 _ _ _ x1
  have bf (i : Nat) : w1.frozen? ⟨w.heap.size + 1, i, none⟩ = false := frozen_of_row w1 (w.heap.size + 1) i _ _ x1
  have X0 := Lib.hid x0
  have X1 := Lib.hid x1
  clear x0 x1
  go_wp2_with fail
  refine (refAbove ⟨key, side, cur, next, send, ceil, sec, nano⟩ ao cap _ hk0 hk1 hk2 hk3).mono ?_
  rintro e w2 ⟨rfl, hb⟩
  rw [HG.out]
  have x0 : w2.heap[w.heap.size]? = some (.cells #[.slice ao key.length cap, .int .i64 side, .int .i64 cur, .int .i64 next, .int .u64 send, .int .u64 ceil, .int .i64 sec, .int .i64 nano] 27 (0, 0)) := (hb.block (w.heap.size) (by omega)).trans X0.out
  have x1 : w2.heap[w.heap.size + 1]? = some (.cells #[.slice none 0 0, .int .i64 0, .int .i64 0, .int .i64 0, .int .u64 0, .int .u64 0, .int .i64 0, .int .i64 0] 27 (0, 0)) := (hb.block (w.heap.size + 1) (by omega)).trans X1.out
  have hz2 := hb.size
  have hB := hB.trans (hb.mono (by omega))
  clear hb X0 X1
  clear a0 a1 a2 a3 a4 a5 a6 a7 af
  clear b0 b1 b2 b3 b4 b5 b6 b7 bf
  have a0 : w2.cell? ⟨w.heap.size, 0, none⟩ = some (.slice ao key.length cap) := cell_of_row w2 (w.heap.size) 0 _ _ _ x0
  have a1 : w2.cell? ⟨w.heap.size, 1, none⟩ = some (.int .i64 side) := cell_of_row w2 (w.heap.size) 1 _ _ _ x0
  have a2 : w2.cell? ⟨w.heap.size, 2, none⟩ = some (.int .i64 cur) := cell_of_row w2 (w.heap.size) 2 _ _ _ x0
  have a3 : w2.cell? ⟨w.heap.size, 3, none⟩ = some (.int .i64 next) := cell_of_row w2 (w.heap.size) 3 _ _ _ x0
  have a4 : w2.cell? ⟨w.heap.size, 4, none⟩ = some (.int .u64 send) := cell_of_row w2 (w.heap.size) 4 _ _ _ x0
  have a5 : w2.cell? ⟨w.heap.size, 5, none⟩ = some (.int .u64 ceil) := cell_of_row w2 (w.heap.size) 5 _ _ _ x0
  have a6 : w2.cell? ⟨w.heap.size, 6, none⟩ = some (.int .i64 sec) := cell_of_row w2 (w.heap.size) 6 _ _ _ x0
  have a7 : w2.cell? ⟨w.heap.size, 7, none⟩ = some (.int .i64 nano) := cell_of_row w2 (w.heap.size) 7 _ _ _ x0
  have af (i : Nat) : w2.frozen? ⟨w.heap.size, i, none⟩ = false := frozen_of_row w2 (w.heap.size) i _ _ x0
  have b0 : w2.cell? ⟨w.heap.size + 1, 0, none⟩ = some (.slice none 0 0) := cell_of_row w2 (w.heap.size + 1) 0 _ _ _ x1
  have b1 : w2.cell? ⟨w.heap.size + 1, 1, none⟩ = some (.int .i64 0) := cell_of_row w2 (w.heap.size + 1) 1 _ _ _ x1
  have b2 : w2.cell? ⟨w.heap.size + 1, 2, none⟩ = some (.int .i64 0) := cell_of_row w2 (w.heap.size + 1) 2 _ _ _ x1
  have b3 : w2.cell? ⟨w.heap.size + 1, 3, none⟩ = some (.int .i64 0) := cell_of_row w2 (w.heap.size + 1) 3 _ _ _ x1
  have b4 : w2.cell? ⟨w.heap.size + 1, 4, none⟩ = some (.int .u64 0) := cell_of_row w2 (w.heap.size + 1) 4 _ _ _ x1
  have b5 : w2.cell? ⟨w.heap.size + 1, 5, none⟩ = some (.int .u64 0) := cell_of_row w2 (w.heap.size + 1) 5 _ _ _ x1
  have b6 : w2.cell? ⟨w.heap.size + 1, 6, none⟩ = some (.int .i64 0) := cell_of_row w2 (w.heap.size + 1) 6 _ _ _ x1
  have b7 : w2.cell? ⟨w.heap.size + 1, 7, none⟩ = some (.int .i64 0) := cell_of_row w2 (w.heap.size + 1) 7 _ _ _ x1
  have bf (i : Nat) : w2.frozen? ⟨w.heap.size + 1, i, none⟩ = false := frozen_of_row w2 (w.heap.size + 1) i _ _ x1
  have X0 := Lib.hid x0
  have X1 := Lib.hid x1
  clear x0 x1
  go_wp2_with fail
  refine (refLane ⟨key, side, cur, next, send, ceil, sec, nano⟩ ao cap _ hl (hr.on hB)).mono ?_
  rintro e V ⟨ar, cr, he, hm, hb⟩
  obtain rfl : e = .returned (.agg #[.slice ar key.length cr, .int .i64 side, .int .i64 cur, .int .i64 next, .int .u64 send, .int .u64 ceil, .int .i64 sec, .int .i64 nano]) := he
  have x0 : V.heap[w.heap.size]? = some (.cells #[.slice ao key.length cap, .int .i64 side, .int .i64 cur, .int .i64 next, .int .u64 send, .int .u64 ceil, .int .i64 sec, .int .i64 nano] 27 (0, 0)) := (hb.block (w.heap.size) (by omega)).trans X0.out
  have x1 : V.heap[w.heap.size + 1]? = some (.cells #[.slice none 0 0, .int .i64 0, .int .i64 0, .int .i64 0, .int .u64 0, .int .u64 0, .int .i64 0, .int .i64 0] 27 (0, 0)) := (hb.block (w.heap.size + 1) (by omega)).trans X1.out
  have hzV := hb.size
  have hBV := hB.trans (hb.mono (by omega))
  have hlt0 : w.heap.size < V.heap.size := by omega
  have hlt1 : w.heap.size + 1 < V.heap.size := by omega
  clear hb hB X0 X1
  clear a0 a1 a2 a3 a4 a5 a6 a7 af
  clear b0 b1 b2 b3 b4 b5 b6 b7 bf
  have a0 : V.cell? ⟨w.heap.size, 0, none⟩ = some (.slice ao key.length cap) := cell_of_row V (w.heap.size) 0 _ _ _ x0
  have a1 : V.cell? ⟨w.heap.size, 1, none⟩ = some (.int .i64 side) := cell_of_row V (w.heap.size) 1 _ _ _ x0
  have a2 : V.cell? ⟨w.heap.size, 2, none⟩ = some (.int .i64 cur) := cell_of_row V (w.heap.size) 2 _ _ _ x0
  have a3 : V.cell? ⟨w.heap.size, 3, none⟩ = some (.int .i64 next) := cell_of_row V (w.heap.size) 3 _ _ _ x0
  have a4 : V.cell? ⟨w.heap.size, 4, none⟩ = some (.int .u64 send) := cell_of_row V (w.heap.size) 4 _ _ _ x0
  have a5 : V.cell? ⟨w.heap.size, 5, none⟩ = some (.int .u64 ceil) := cell_of_row V (w.heap.size) 5 _ _ _ x0
  have a6 : V.cell? ⟨w.heap.size, 6, none⟩ = some (.int .i64 sec) := cell_of_row V (w.heap.size) 6 _ _ _ x0
  have a7 : V.cell? ⟨w.heap.size, 7, none⟩ = some (.int .i64 nano) := cell_of_row V (w.heap.size) 7 _ _ _ x0
  have af (i : Nat) : V.frozen? ⟨w.heap.size, i, none⟩ = false := frozen_of_row V (w.heap.size) i _ _ x0
  have b0 : V.cell? ⟨w.heap.size + 1, 0, none⟩ = some (.slice none 0 0) := cell_of_row V (w.heap.size + 1) 0 _ _ _ x1
  have b1 : V.cell? ⟨w.heap.size + 1, 1, none⟩ = some (.int .i64 0) := cell_of_row V (w.heap.size + 1) 1 _ _ _ x1
  have b2 : V.cell? ⟨w.heap.size + 1, 2, none⟩ = some (.int .i64 0) := cell_of_row V (w.heap.size + 1) 2 _ _ _ x1
  have b3 : V.cell? ⟨w.heap.size + 1, 3, none⟩ = some (.int .i64 0) := cell_of_row V (w.heap.size + 1) 3 _ _ _ x1
  have b4 : V.cell? ⟨w.heap.size + 1, 4, none⟩ = some (.int .u64 0) := cell_of_row V (w.heap.size + 1) 4 _ _ _ x1
  have b5 : V.cell? ⟨w.heap.size + 1, 5, none⟩ = some (.int .u64 0) := cell_of_row V (w.heap.size + 1) 5 _ _ _ x1
  have b6 : V.cell? ⟨w.heap.size + 1, 6, none⟩ = some (.int .i64 0) := cell_of_row V (w.heap.size + 1) 6 _ _ _ x1
  have b7 : V.cell? ⟨w.heap.size + 1, 7, none⟩ = some (.int .i64 0) := cell_of_row V (w.heap.size + 1) 7 _ _ _ x1
  have bf (i : Nat) : V.frozen? ⟨w.heap.size + 1, i, none⟩ = false := frozen_of_row V (w.heap.size + 1) i _ _ x1
  clear x0 x1
  go_wp2_with fail
  refine bodyPost_ret (v := .tuple #[.agg #[.slice ar key.length cr, .int .i64 side, .int .i64 cur, .int .i64 (t + 1), .int .u64 send, .int .u64 ceil, .int .i64 sec, .int .i64 nano], .int .i64 (t + 1), .int .i64 0]) (by simp [results, Try.results26, go_sem, hlt1, b0, b1, b2, b3, b4, b5, b6, b7]) rfl ⟨_, _, rfl, ?_, ?_⟩
  · refine Mine.from (B := w.heap.size + 2) ?_ (by omega)
    refine Mine.below ?_ (fresh1 _ _)
    iterate 8 (refine Mine.setCell ?_ _ _ _ (by omega))
    exact Mine.from hm (by omega)
  · refine below_push ?_
    iterate 8 (refine Below.set ?_ _ _ _ (by omega))
    exact hBV
set_option maxHeartbeats 800000 in
theorem refPropose (L : Ln) (ao : Option Addr) (cap : Nat) (w : World) (hf : L.fits) (hr : Rd w ao L.key) :
   Calls Try.prog 26 #[L.val ao cap] w fun e w' => ∃ ao' cap', e = .returned (.tuple #[(proposeL L).val ao' cap', .int .i64 (nextG L), .int .i64 (nextE L)]) ∧ Mine w' w.heap.size 5 ao' cap' (proposeL L).key ∧ Below w.heap.size w w' := by
  by_cases hok : L.ok = true
  · by_cases h : 2147483647 ≤ topG L
    · exact refPropose_n1 L ao cap w hf hr hok h
    · exact refPropose_y L ao cap w hf hr hok h
  · exact refPropose_n0 L ao cap w hf hr (by simpa using hok)
end Go.Proofs.Ytihndipgdogebaa
