/- What the program's Propose makes of a lane. -/
import Derived.Test.YtihndipgdogebaaLane8
namespace Go.Proofs.Ytihndipgdogebaa
open Go.RowKit
set_option maxHeartbeats 4000000 in
theorem lanePropose (L : Ln) (ao : Option Addr) (cap : Nat) (w : World) (hf : L.fits) (hr : Rd w ao L.key) :
   Calls Try.prog 25 #[L.val ao cap] w fun e w' => ∃ ao' cap', e = .returned (.tuple #[(proposeL L).val ao' cap', .int .i64 (nextG L), .int .i64 (nextE L)]) ∧ Mine w' w.heap.size 5 ao' cap' (proposeL L).key ∧ Below w.heap.size w w' := by
  obtain ⟨hl, hcur0, hcur1, hnext0, hnext1, hsend0, hsend1, hceil0, hceil1, hs⟩ := hf
  obtain ⟨key, side, cur, next, send, ceil, sec, nano⟩ := L
  unfold Ln.val
  simp only at hl hcur0 hcur1 hnext0 hnext1 hsend0 hsend1 hceil0 hceil1 hs hr ⊢
  obtain ⟨g0, hg0⟩ : ∃ g, nextG ⟨key, side, cur, next, send, ceil, sec, nano⟩ = g := ⟨_, rfl⟩
  obtain ⟨e0, he0⟩ : ∃ g, nextE ⟨key, side, cur, next, send, ceil, sec, nano⟩ = g := ⟨_, rfl⟩
  by_cases h0 : e0 = 0
  · subst h0
    have hy : proposeL ⟨key, side, cur, next, send, ceil, sec, nano⟩ = Ln.keep ⟨key, side, cur, next, send, ceil, sec, nano⟩ cur g0 send ceil sec nano := by simp [proposeL, he0, hg0]
    have HK := Lib.hid (nextE_ok he0)
    rw [hy]
    try rw [hg0]
    rw [he0]
    unfold Ln.keep
    have HG := Lib.hid hg0
    have HE := Lib.hid he0
    clear hy hg0 he0
    go_enter Try.func25, Try.ntmps25
    go_wp2_with fail
    refine (laneNext ⟨key, side, cur, next, send, ceil, sec, nano⟩ ao cap _ ⟨hl, hcur0, hcur1, hnext0, hnext1, hsend0, hsend1, hceil0, hceil1, hs⟩).mono ?_
    rintro e w1 ⟨rfl, hb1⟩
    rw [HG.out, HE.out]
    have hz := hb1.size
    simp only [alloc_size] at hz
    have hz0 : w.heap.size < w1.heap.size := by omega
    have hz1 : w.heap.size + 1 < w1.heap.size := by omega
    have x1 : w1.heap[w.heap.size]? = some (.cells #[.slice ao key.length cap, .int .i64 side, .int .i64 cur, .int .i64 next, .int .u64 send, .int .u64 ceil, .int .i64 sec, .int .i64 nano] 27 (0, 0)) := (hb_block hb1 (w.heap.size) (by simp only [alloc_size]; omega)).trans (by simp only [alloc_get, alloc_size]; repeat first | rw [if_pos trivial] | rw [if_neg (by omega)] | rw [if_pos (by omega)])
    have x2 : w1.heap[w.heap.size + 1]? = some (.cells #[.slice none 0 0, .int .i64 0, .int .i64 0, .int .i64 0, .int .u64 0, .int .u64 0, .int .i64 0, .int .i64 0] 27 (0, 0)) := (hb_block hb1 (w.heap.size + 1) (by simp only [alloc_size]; omega)).trans (by simp only [alloc_get, alloc_size]; repeat first | rw [if_pos trivial] | rw [if_neg (by omega)] | rw [if_pos (by omega)])
    have a0 : w1.cell? ⟨w.heap.size, 0, none⟩ = some (.slice ao key.length cap) := cell_of_row w1 (w.heap.size) 0 _ _ _ x1
    have a1 : w1.cell? ⟨w.heap.size, 1, none⟩ = some (.int .i64 side) := cell_of_row w1 (w.heap.size) 1 _ _ _ x1
    have a2 : w1.cell? ⟨w.heap.size, 2, none⟩ = some (.int .i64 cur) := cell_of_row w1 (w.heap.size) 2 _ _ _ x1
    have a3 : w1.cell? ⟨w.heap.size, 3, none⟩ = some (.int .i64 next) := cell_of_row w1 (w.heap.size) 3 _ _ _ x1
    have a4 : w1.cell? ⟨w.heap.size, 4, none⟩ = some (.int .u64 send) := cell_of_row w1 (w.heap.size) 4 _ _ _ x1
    have a5 : w1.cell? ⟨w.heap.size, 5, none⟩ = some (.int .u64 ceil) := cell_of_row w1 (w.heap.size) 5 _ _ _ x1
    have a6 : w1.cell? ⟨w.heap.size, 6, none⟩ = some (.int .i64 sec) := cell_of_row w1 (w.heap.size) 6 _ _ _ x1
    have a7 : w1.cell? ⟨w.heap.size, 7, none⟩ = some (.int .i64 nano) := cell_of_row w1 (w.heap.size) 7 _ _ _ x1
    have af (i : Nat) : w1.frozen? ⟨w.heap.size, i, none⟩ = false := frozen_of_row w1 (w.heap.size) i _ _ x1
    have hB1 := (((Below.refl _ w).alloc (Nat.le_refl _) _).alloc (by simp only [alloc_size]; omega) _).trans (hb1.mono (by simp only [alloc_size]; omega))
    clear hb1
    go_wp2_with fail
    generalize hW : w1.alloc (Obj.cells #[.int .i64 g0] 3 (0, 0)) = W
    have hB2 := hB1.alloc (B := w.heap.size) (by omega) (Obj.cells #[.int .i64 g0] 3 (0, 0))
    rw [hW] at hB2
    have hWs : W.drew.heap.size = w1.heap.size + 1 := by rw [← hW]; exact alloc_size _ _
    have x0 : W.heap[w1.heap.size]? = some (.cells #[.int .i64 g0] 3 (0, 0)) := by rw [← hW]; exact heap_alloc_new _ _
    have x1' : W.heap[w.heap.size]? = some (.cells #[.slice ao key.length cap, .int .i64 side, .int .i64 cur, .int .i64 next, .int .u64 send, .int .u64 ceil, .int .i64 sec, .int .i64 nano] 27 (0, 0)) := by rw [← hW]; exact (alloc_old _ _ _ (by omega)).trans x1
    have x2' : W.heap[w.heap.size + 1]? = some (.cells #[.slice none 0 0, .int .i64 0, .int .i64 0, .int .i64 0, .int .u64 0, .int .u64 0, .int .i64 0, .int .i64 0] 27 (0, 0)) := by rw [← hW]; exact (alloc_old _ _ _ (by omega)).trans x2
    have c0 : W.cell? ⟨w1.heap.size, 0, none⟩ = some (.int .i64 g0) := cell_of_row W (w1.heap.size) 0 _ _ _ x0
    clear a0 a1 a2 a3 a4 a5 a6 a7 af
    have a0 : W.cell? ⟨w.heap.size, 0, none⟩ = some (.slice ao key.length cap) := cell_of_row W (w.heap.size) 0 _ _ _ x1'
    have a1 : W.cell? ⟨w.heap.size, 1, none⟩ = some (.int .i64 side) := cell_of_row W (w.heap.size) 1 _ _ _ x1'
    have a2 : W.cell? ⟨w.heap.size, 2, none⟩ = some (.int .i64 cur) := cell_of_row W (w.heap.size) 2 _ _ _ x1'
    have a3 : W.cell? ⟨w.heap.size, 3, none⟩ = some (.int .i64 next) := cell_of_row W (w.heap.size) 3 _ _ _ x1'
    have a4 : W.cell? ⟨w.heap.size, 4, none⟩ = some (.int .u64 send) := cell_of_row W (w.heap.size) 4 _ _ _ x1'
    have a5 : W.cell? ⟨w.heap.size, 5, none⟩ = some (.int .u64 ceil) := cell_of_row W (w.heap.size) 5 _ _ _ x1'
    have a6 : W.cell? ⟨w.heap.size, 6, none⟩ = some (.int .i64 sec) := cell_of_row W (w.heap.size) 6 _ _ _ x1'
    have a7 : W.cell? ⟨w.heap.size, 7, none⟩ = some (.int .i64 nano) := cell_of_row W (w.heap.size) 7 _ _ _ x1'
    have af (i : Nat) : W.frozen? ⟨w.heap.size, i, none⟩ = false := frozen_of_row W (w.heap.size) i _ _ x1'
    have hrW : Rd W.drew ao key := (hr.on hB2 : Rd W ao key)
    have X2 := Lib.hid x2'
    have hn1 : w1.heap.size ≠ w.heap.size + 1 := by omega
    have hn2 : w.heap.size ≠ w.heap.size + 1 := by omega
    clear x0 x1 x2 x1' x2' hW hB1
    have hclo : ∀ (w3 : World) (gg : Nat) (ar : Option Addr) (cr : Nat), Below W.drew.heap.size W.drew w3 → W.drew.heap.size ≤ gg → w3.heap[gg]? = some (.cells #[.slice ar key.length cr, .int .i64 side, .int .i64 cur, .int .i64 next, .int .u64 send, .int .u64 ceil, .int .i64 sec, .int .i64 nano] 27 (0, 0)) → Calls Try.prog 55 (#[.pointer (some ⟨gg, 0, none⟩)] ++ #[.pointer (some ⟨w1.heap.size, 0, none⟩)]) w3 (Turns w3 gg #[.slice ar key.length cr, .int .i64 side, .int .i64 cur, .int .i64 g0, .int .u64 send, .int .u64 ceil, .int .i64 sec, .int .i64 nano]) :=
      fun w3 gg ar cr hB hg hx => cloPropose w3 gg ar cr key side cur next send ceil sec nano hx w1.heap.size g0 (by rw [hWs] at hg; omega) ((hB.cell (by rw [hWs]; simp only; omega)).trans c0)
    have HC := Lib.hid hclo
    clear hclo
    go_region_held3 (fun w' => w'.cell? ⟨w1.heap.size, 0, none⟩ = some (.int .i64 g0) ∧ w'.cell? ⟨w.heap.size, 0, none⟩ = some (.slice ao key.length cap) ∧ w'.cell? ⟨w.heap.size, 1, none⟩ = some (.int .i64 side) ∧ w'.cell? ⟨w.heap.size, 2, none⟩ = some (.int .i64 cur) ∧ w'.cell? ⟨w.heap.size, 3, none⟩ = some (.int .i64 next) ∧ w'.cell? ⟨w.heap.size, 4, none⟩ = some (.int .u64 send) ∧ w'.cell? ⟨w.heap.size, 5, none⟩ = some (.int .u64 ceil) ∧ w'.cell? ⟨w.heap.size, 6, none⟩ = some (.int .i64 sec) ∧ w'.cell? ⟨w.heap.size, 7, none⟩ = some (.int .i64 nano)) (((try simp only [cell_drew, cell_far _ _ _ _ _ _ hn1, cell_far _ _ _ _ _ _ hn2]); (refine ⟨?_, ?_, ?_, ?_, ?_, ?_, ?_, ?_, ?_⟩ <;> with_reducible assumption))) ((go_at_call 46; refine (laneChanged1 ⟨key, side, cur, next, send, ceil, sec, nano⟩ cur g0 send ceil sec nano ao cap 55 _ W.drew hs HK.out hrW (fun _ _ => rfl) HC.out).mono ?_; rintro e w2 ⟨ar, cr, he, hm, hb2⟩; obtain rfl : e = .returned (.agg #[.slice ar key.length cr, .int .i64 side, .int .i64 cur, .int .i64 g0, .int .u64 send, .int .u64 ceil, .int .i64 sec, .int .i64 nano]) := he; have dc0 : w2.cell? ⟨w1.heap.size, 0, none⟩ = some (.int .i64 g0) := (hb2.cell (by rw [hWs]; show w1.heap.size < _; omega)).trans c0; have da0 : w2.cell? ⟨w.heap.size, 0, none⟩ = some (.slice ao key.length cap) := (hb2.cell (by rw [hWs]; show w.heap.size < _; omega)).trans a0; have da1 : w2.cell? ⟨w.heap.size, 1, none⟩ = some (.int .i64 side) := (hb2.cell (by rw [hWs]; show w.heap.size < _; omega)).trans a1; have da2 : w2.cell? ⟨w.heap.size, 2, none⟩ = some (.int .i64 cur) := (hb2.cell (by rw [hWs]; show w.heap.size < _; omega)).trans a2; have da3 : w2.cell? ⟨w.heap.size, 3, none⟩ = some (.int .i64 next) := (hb2.cell (by rw [hWs]; show w.heap.size < _; omega)).trans a3; have da4 : w2.cell? ⟨w.heap.size, 4, none⟩ = some (.int .u64 send) := (hb2.cell (by rw [hWs]; show w.heap.size < _; omega)).trans a4; have da5 : w2.cell? ⟨w.heap.size, 5, none⟩ = some (.int .u64 ceil) := (hb2.cell (by rw [hWs]; show w.heap.size < _; omega)).trans a5; have da6 : w2.cell? ⟨w.heap.size, 6, none⟩ = some (.int .i64 sec) := (hb2.cell (by rw [hWs]; show w.heap.size < _; omega)).trans a6; have da7 : w2.cell? ⟨w.heap.size, 7, none⟩ = some (.int .i64 nano) := (hb2.cell (by rw [hWs]; show w.heap.size < _; omega)).trans a7; have y : w2.heap[w.heap.size + 1]? = some (.cells #[.slice none 0 0, .int .i64 0, .int .i64 0, .int .i64 0, .int .u64 0, .int .u64 0, .int .i64 0, .int .i64 0] 27 (0, 0)) := (hb2.block (w.heap.size + 1) (by rw [hWs]; omega)).trans X2.out; have b0 : w2.cell? ⟨w.heap.size + 1, 0, none⟩ = some (.slice none 0 0) := cell_of_row w2 (w.heap.size + 1) 0 _ _ _ y; have b1 : w2.cell? ⟨w.heap.size + 1, 1, none⟩ = some (.int .i64 0) := cell_of_row w2 (w.heap.size + 1) 1 _ _ _ y; have b2 : w2.cell? ⟨w.heap.size + 1, 2, none⟩ = some (.int .i64 0) := cell_of_row w2 (w.heap.size + 1) 2 _ _ _ y; have b3 : w2.cell? ⟨w.heap.size + 1, 3, none⟩ = some (.int .i64 0) := cell_of_row w2 (w.heap.size + 1) 3 _ _ _ y; have b4 : w2.cell? ⟨w.heap.size + 1, 4, none⟩ = some (.int .u64 0) := cell_of_row w2 (w.heap.size + 1) 4 _ _ _ y; have b5 : w2.cell? ⟨w.heap.size + 1, 5, none⟩ = some (.int .u64 0) := cell_of_row w2 (w.heap.size + 1) 5 _ _ _ y; have b6 : w2.cell? ⟨w.heap.size + 1, 6, none⟩ = some (.int .i64 0) := cell_of_row w2 (w.heap.size + 1) 6 _ _ _ y; have b7 : w2.cell? ⟨w.heap.size + 1, 7, none⟩ = some (.int .i64 0) := cell_of_row w2 (w.heap.size + 1) 7 _ _ _ y; have bf (i : Nat) : w2.frozen? ⟨w.heap.size + 1, i, none⟩ = false := frozen_of_row w2 (w.heap.size + 1) i _ _ y; clear y))
    go_wp2_with fail
    refine bodyPost_ret (v := .tuple #[.agg #[.slice ar key.length cr, .int .i64 side, .int .i64 cur, .int .i64 g0, .int .u64 send, .int .u64 ceil, .int .i64 sec, .int .i64 nano], .int .i64 g0, .int .i64 0]) (by simp [results, Try.results25, go_sem, b0, b1, b2, b3, b4, b5, b6, b7]) rfl ⟨_, _, rfl, ?_, ?_⟩
    · refine Mine.from (B := w.heap.size + 2) ?_ (by omega)
      iterate 8 (refine Mine.setCell ?_ _ _ _ (by omega))
      exact Mine.from hm (by rw [hWs]; omega)
    · iterate 8 (refine Below.set ?_ _ _ _ (by omega))
      exact hB2.drew.trans (hb2.mono (by rw [hWs]; omega))
  · have hy : proposeL ⟨key, side, cur, next, send, ceil, sec, nano⟩ = Ln.zero := by simp [proposeL, he0, h0]
    have h0b : (e0 == 0) = false := beq_eq_false_iff_ne.2 h0
    rw [hy, hg0, he0]
    unfold Ln.zero
    have HG := Lib.hid hg0
    have HE := Lib.hid he0
    clear hy hg0 he0 h0
    go_enter Try.func25, Try.ntmps25
    go_wp2_with fail
    refine (laneNext ⟨key, side, cur, next, send, ceil, sec, nano⟩ ao cap _ ⟨hl, hcur0, hcur1, hnext0, hnext1, hsend0, hsend1, hceil0, hceil1, hs⟩).mono ?_
    rintro e w1 ⟨rfl, hb1⟩
    rw [HG.out, HE.out]
    have hz := hb1.size
    simp only [alloc_size] at hz
    have hz0 : w.heap.size < w1.heap.size := by omega
    have hz1 : w.heap.size + 1 < w1.heap.size := by omega
    have x1 : w1.heap[w.heap.size]? = some (.cells #[.slice ao key.length cap, .int .i64 side, .int .i64 cur, .int .i64 next, .int .u64 send, .int .u64 ceil, .int .i64 sec, .int .i64 nano] 27 (0, 0)) := (hb_block hb1 (w.heap.size) (by simp only [alloc_size]; omega)).trans (by simp only [alloc_get, alloc_size]; repeat first | rw [if_pos trivial] | rw [if_neg (by omega)] | rw [if_pos (by omega)])
    have x2 : w1.heap[w.heap.size + 1]? = some (.cells #[.slice none 0 0, .int .i64 0, .int .i64 0, .int .i64 0, .int .u64 0, .int .u64 0, .int .i64 0, .int .i64 0] 27 (0, 0)) := (hb_block hb1 (w.heap.size + 1) (by simp only [alloc_size]; omega)).trans (by simp only [alloc_get, alloc_size]; repeat first | rw [if_pos trivial] | rw [if_neg (by omega)] | rw [if_pos (by omega)])
    have a0 : w1.cell? ⟨w.heap.size, 0, none⟩ = some (.slice ao key.length cap) := cell_of_row w1 (w.heap.size) 0 _ _ _ x1
    have a1 : w1.cell? ⟨w.heap.size, 1, none⟩ = some (.int .i64 side) := cell_of_row w1 (w.heap.size) 1 _ _ _ x1
    have a2 : w1.cell? ⟨w.heap.size, 2, none⟩ = some (.int .i64 cur) := cell_of_row w1 (w.heap.size) 2 _ _ _ x1
    have a3 : w1.cell? ⟨w.heap.size, 3, none⟩ = some (.int .i64 next) := cell_of_row w1 (w.heap.size) 3 _ _ _ x1
    have a4 : w1.cell? ⟨w.heap.size, 4, none⟩ = some (.int .u64 send) := cell_of_row w1 (w.heap.size) 4 _ _ _ x1
    have a5 : w1.cell? ⟨w.heap.size, 5, none⟩ = some (.int .u64 ceil) := cell_of_row w1 (w.heap.size) 5 _ _ _ x1
    have a6 : w1.cell? ⟨w.heap.size, 6, none⟩ = some (.int .i64 sec) := cell_of_row w1 (w.heap.size) 6 _ _ _ x1
    have a7 : w1.cell? ⟨w.heap.size, 7, none⟩ = some (.int .i64 nano) := cell_of_row w1 (w.heap.size) 7 _ _ _ x1
    have af (i : Nat) : w1.frozen? ⟨w.heap.size, i, none⟩ = false := frozen_of_row w1 (w.heap.size) i _ _ x1
    have hB1 := (((Below.refl _ w).alloc (Nat.le_refl _) _).alloc (by simp only [alloc_size]; omega) _).trans (hb1.mono (by simp only [alloc_size]; omega))
    clear hb1
    go_wp2_with fail
    generalize hW : w1.alloc (Obj.cells #[.int .i64 g0] 3 (0, 0)) = W
    have hB2 := hB1.alloc (B := w.heap.size) (by omega) (Obj.cells #[.int .i64 g0] 3 (0, 0))
    rw [hW] at hB2
    have hWs : W.drew.heap.size = w1.heap.size + 1 := by rw [← hW]; exact alloc_size _ _
    have x0 : W.heap[w1.heap.size]? = some (.cells #[.int .i64 g0] 3 (0, 0)) := by rw [← hW]; exact heap_alloc_new _ _
    have x1' : W.heap[w.heap.size]? = some (.cells #[.slice ao key.length cap, .int .i64 side, .int .i64 cur, .int .i64 next, .int .u64 send, .int .u64 ceil, .int .i64 sec, .int .i64 nano] 27 (0, 0)) := by rw [← hW]; exact (alloc_old _ _ _ (by omega)).trans x1
    have x2' : W.heap[w.heap.size + 1]? = some (.cells #[.slice none 0 0, .int .i64 0, .int .i64 0, .int .i64 0, .int .u64 0, .int .u64 0, .int .i64 0, .int .i64 0] 27 (0, 0)) := by rw [← hW]; exact (alloc_old _ _ _ (by omega)).trans x2
    have c0 : W.cell? ⟨w1.heap.size, 0, none⟩ = some (.int .i64 g0) := cell_of_row W (w1.heap.size) 0 _ _ _ x0
    clear a0 a1 a2 a3 a4 a5 a6 a7 af
    have a0 : W.cell? ⟨w.heap.size, 0, none⟩ = some (.slice ao key.length cap) := cell_of_row W (w.heap.size) 0 _ _ _ x1'
    have a1 : W.cell? ⟨w.heap.size, 1, none⟩ = some (.int .i64 side) := cell_of_row W (w.heap.size) 1 _ _ _ x1'
    have a2 : W.cell? ⟨w.heap.size, 2, none⟩ = some (.int .i64 cur) := cell_of_row W (w.heap.size) 2 _ _ _ x1'
    have a3 : W.cell? ⟨w.heap.size, 3, none⟩ = some (.int .i64 next) := cell_of_row W (w.heap.size) 3 _ _ _ x1'
    have a4 : W.cell? ⟨w.heap.size, 4, none⟩ = some (.int .u64 send) := cell_of_row W (w.heap.size) 4 _ _ _ x1'
    have a5 : W.cell? ⟨w.heap.size, 5, none⟩ = some (.int .u64 ceil) := cell_of_row W (w.heap.size) 5 _ _ _ x1'
    have a6 : W.cell? ⟨w.heap.size, 6, none⟩ = some (.int .i64 sec) := cell_of_row W (w.heap.size) 6 _ _ _ x1'
    have a7 : W.cell? ⟨w.heap.size, 7, none⟩ = some (.int .i64 nano) := cell_of_row W (w.heap.size) 7 _ _ _ x1'
    have af (i : Nat) : W.frozen? ⟨w.heap.size, i, none⟩ = false := frozen_of_row W (w.heap.size) i _ _ x1'
    have hrW : Rd W.drew ao key := (hr.on hB2 : Rd W ao key)
    have X2 := Lib.hid x2'
    have hn1 : w1.heap.size ≠ w.heap.size + 1 := by omega
    have hn2 : w.heap.size ≠ w.heap.size + 1 := by omega
    clear x0 x1 x2 x1' x2' hW hB1
    go_region_held3 (fun w' => w'.cell? ⟨w1.heap.size, 0, none⟩ = some (.int .i64 g0) ∧ w'.cell? ⟨w.heap.size, 0, none⟩ = some (.slice ao key.length cap) ∧ w'.cell? ⟨w.heap.size, 1, none⟩ = some (.int .i64 side) ∧ w'.cell? ⟨w.heap.size, 2, none⟩ = some (.int .i64 cur) ∧ w'.cell? ⟨w.heap.size, 3, none⟩ = some (.int .i64 next) ∧ w'.cell? ⟨w.heap.size, 4, none⟩ = some (.int .u64 send) ∧ w'.cell? ⟨w.heap.size, 5, none⟩ = some (.int .u64 ceil) ∧ w'.cell? ⟨w.heap.size, 6, none⟩ = some (.int .i64 sec) ∧ w'.cell? ⟨w.heap.size, 7, none⟩ = some (.int .i64 nano)) (((try simp only [cell_drew, cell_far _ _ _ _ _ _ hn1, cell_far _ _ _ _ _ _ hn2]); (refine ⟨?_, ?_, ?_, ?_, ?_, ?_, ?_, ?_, ?_⟩ <;> with_reducible assumption))) ((go_at_call 46; refine (laneChanged0 ⟨key, side, cur, next, send, ceil, sec, nano⟩ ao cap false _ W.drew hs (by simp)).mono ?_; rintro e w2 ⟨he, hb2⟩; obtain rfl : e = .returned (.agg #[.slice none 0 0, .int .i64 0, .int .i64 0, .int .i64 0, .int .u64 0, .int .u64 0, .int .i64 0, .int .i64 0]) := he; have dc0 : w2.cell? ⟨w1.heap.size, 0, none⟩ = some (.int .i64 g0) := (hb2.cell (by rw [hWs]; show w1.heap.size < _; omega)).trans c0; have da0 : w2.cell? ⟨w.heap.size, 0, none⟩ = some (.slice ao key.length cap) := (hb2.cell (by rw [hWs]; show w.heap.size < _; omega)).trans a0; have da1 : w2.cell? ⟨w.heap.size, 1, none⟩ = some (.int .i64 side) := (hb2.cell (by rw [hWs]; show w.heap.size < _; omega)).trans a1; have da2 : w2.cell? ⟨w.heap.size, 2, none⟩ = some (.int .i64 cur) := (hb2.cell (by rw [hWs]; show w.heap.size < _; omega)).trans a2; have da3 : w2.cell? ⟨w.heap.size, 3, none⟩ = some (.int .i64 next) := (hb2.cell (by rw [hWs]; show w.heap.size < _; omega)).trans a3; have da4 : w2.cell? ⟨w.heap.size, 4, none⟩ = some (.int .u64 send) := (hb2.cell (by rw [hWs]; show w.heap.size < _; omega)).trans a4; have da5 : w2.cell? ⟨w.heap.size, 5, none⟩ = some (.int .u64 ceil) := (hb2.cell (by rw [hWs]; show w.heap.size < _; omega)).trans a5; have da6 : w2.cell? ⟨w.heap.size, 6, none⟩ = some (.int .i64 sec) := (hb2.cell (by rw [hWs]; show w.heap.size < _; omega)).trans a6; have da7 : w2.cell? ⟨w.heap.size, 7, none⟩ = some (.int .i64 nano) := (hb2.cell (by rw [hWs]; show w.heap.size < _; omega)).trans a7; have y : w2.heap[w.heap.size + 1]? = some (.cells #[.slice none 0 0, .int .i64 0, .int .i64 0, .int .i64 0, .int .u64 0, .int .u64 0, .int .i64 0, .int .i64 0] 27 (0, 0)) := (hb2.block (w.heap.size + 1) (by rw [hWs]; omega)).trans X2.out; have b0 : w2.cell? ⟨w.heap.size + 1, 0, none⟩ = some (.slice none 0 0) := cell_of_row w2 (w.heap.size + 1) 0 _ _ _ y; have b1 : w2.cell? ⟨w.heap.size + 1, 1, none⟩ = some (.int .i64 0) := cell_of_row w2 (w.heap.size + 1) 1 _ _ _ y; have b2 : w2.cell? ⟨w.heap.size + 1, 2, none⟩ = some (.int .i64 0) := cell_of_row w2 (w.heap.size + 1) 2 _ _ _ y; have b3 : w2.cell? ⟨w.heap.size + 1, 3, none⟩ = some (.int .i64 0) := cell_of_row w2 (w.heap.size + 1) 3 _ _ _ y; have b4 : w2.cell? ⟨w.heap.size + 1, 4, none⟩ = some (.int .u64 0) := cell_of_row w2 (w.heap.size + 1) 4 _ _ _ y; have b5 : w2.cell? ⟨w.heap.size + 1, 5, none⟩ = some (.int .u64 0) := cell_of_row w2 (w.heap.size + 1) 5 _ _ _ y; have b6 : w2.cell? ⟨w.heap.size + 1, 6, none⟩ = some (.int .i64 0) := cell_of_row w2 (w.heap.size + 1) 6 _ _ _ y; have b7 : w2.cell? ⟨w.heap.size + 1, 7, none⟩ = some (.int .i64 0) := cell_of_row w2 (w.heap.size + 1) 7 _ _ _ y; have bf (i : Nat) : w2.frozen? ⟨w.heap.size + 1, i, none⟩ = false := frozen_of_row w2 (w.heap.size + 1) i _ _ y; clear y))
    go_wp2_with fail
    refine bodyPost_ret (v := .tuple #[.agg #[.slice none 0 0, .int .i64 0, .int .i64 0, .int .i64 0, .int .u64 0, .int .u64 0, .int .i64 0, .int .i64 0], .int .i64 g0, .int .i64 e0]) (by simp [results, Try.results25, go_sem, b0, b1, b2, b3, b4, b5, b6, b7]) rfl ⟨_, _, rfl, ?_, ?_⟩
    · exact Or.inl ⟨rfl, rfl, rfl⟩
    · iterate 8 (refine Below.set ?_ _ _ _ (by omega))
      exact hB2.drew.trans (hb2.mono (by rw [hWs]; omega))
end Go.Proofs.Ytihndipgdogebaa
