/- What the program's New, next, Again and Propose make of a lane. -/
import Derived.Test.YtihndipgdogebaaLane7
namespace Go.Proofs.Ytihndipgdogebaa
open Go.RowKit
def newL (key : List (BitVec 8)) (side : Int) : Ln := if Ln.ok ⟨key, side, 1, 0, 0, 0, 0, 0⟩ = true then ⟨key, side, 1, 0, 0, 0, 0, 0⟩ else Ln.zero
def topG (L : Ln) : Int := if L.cur < L.next then L.next else L.cur
def nextG (L : Ln) : Int := if L.ok = true then (if 2147483647 ≤ topG L then 0 else topG L + 1) else 0
def nextE (L : Ln) : Int := if L.ok = true then (if 2147483647 ≤ topG L then 168 else 0) else 2
def againL (L : Ln) : Ln := if nextE L = 0 then L.keep (nextG L) L.next 0 0 L.sec L.nano else Ln.zero
def proposeL (L : Ln) : Ln := if nextE L = 0 then L.keep L.cur (nextG L) L.send L.ceil L.sec L.nano else Ln.zero
theorem nextE_ok {L : Ln} (h : nextE L = 0) : L.ok = true := by
  unfold nextE at h
  by_cases hk : L.ok = true
  · exact hk
  · rw [if_neg hk] at h; omega
set_option maxHeartbeats 1600000 in
theorem laneNew (key : List (BitVec 8)) (side : Int) (ao : Option Addr) (cap : Nat) (w : World) (hr : Rd w ao key) :
   Calls Try.prog 17 #[.slice ao key.length cap, .int .i64 side] w fun e w' => ∃ ao' cap', e = .returned ((newL key side).val ao' cap') ∧ Mine w' w.heap.size 5 ao' cap' (newL key side).key ∧ Below w.heap.size w w' := by
  by_cases hok : Ln.ok ⟨key, side, 1, 0, 0, 0, 0, 0⟩ = true
  · have hy : newL key side = ⟨key, side, 1, 0, 0, 0, 0, 0⟩ := by simp [newL, hok]
    rw [hy]
    unfold Ln.val
    have HK := Lib.hid hok
    clear hok hy
    go_enter Try.func17, Try.ntmps17
    go_wp2_with fail
    refine (laneChanged1 ⟨key, side, 1, 0, 0, 0, 0, 0⟩ 1 0 0 0 0 0 ao cap 47 _ _ (by simp) HK.out ?hrw (fun _ _ => rfl) ?hclo).mono ?_
    case hrw => exact hr.on ((Below.refl _ w).alloc (Nat.le_refl _) _)
    case hclo =>
      intro W g ar cr hB hg hx
      exact cloNew W g ar cr key side 1 0 0 0 0 0 hx
    rintro e w2 ⟨ar, cr, he, hm, hb2⟩
    obtain rfl : e = .returned (.agg #[.slice ar key.length cr, .int .i64 side, .int .i64 1, .int .i64 0, .int .u64 0, .int .u64 0, .int .i64 0, .int .i64 0]) := he
    have y : w2.heap[w.heap.size]? = some (.cells #[.slice none 0 0, .int .i64 0, .int .i64 0, .int .i64 0, .int .u64 0, .int .u64 0, .int .i64 0, .int .i64 0] 27 (0, 0)) := (hb_block hb2 (w.heap.size) (by simp only [alloc_size]; omega)).trans (by simp only [alloc_get]; repeat first | rw [if_pos trivial] | rw [if_neg (by omega)] | rw [if_pos (by omega)])
    have b0 : w2.cell? ⟨w.heap.size, 0, none⟩ = some (.slice none 0 0) := cell_of_row w2 (w.heap.size) 0 _ _ _ y
    have b1 : w2.cell? ⟨w.heap.size, 1, none⟩ = some (.int .i64 0) := cell_of_row w2 (w.heap.size) 1 _ _ _ y
    have b2 : w2.cell? ⟨w.heap.size, 2, none⟩ = some (.int .i64 0) := cell_of_row w2 (w.heap.size) 2 _ _ _ y
    have b3 : w2.cell? ⟨w.heap.size, 3, none⟩ = some (.int .i64 0) := cell_of_row w2 (w.heap.size) 3 _ _ _ y
    have b4 : w2.cell? ⟨w.heap.size, 4, none⟩ = some (.int .u64 0) := cell_of_row w2 (w.heap.size) 4 _ _ _ y
    have b5 : w2.cell? ⟨w.heap.size, 5, none⟩ = some (.int .u64 0) := cell_of_row w2 (w.heap.size) 5 _ _ _ y
    have b6 : w2.cell? ⟨w.heap.size, 6, none⟩ = some (.int .i64 0) := cell_of_row w2 (w.heap.size) 6 _ _ _ y
    have b7 : w2.cell? ⟨w.heap.size, 7, none⟩ = some (.int .i64 0) := cell_of_row w2 (w.heap.size) 7 _ _ _ y
    have bf (i : Nat) : w2.frozen? ⟨w.heap.size, i, none⟩ = false := frozen_of_row w2 (w.heap.size) i _ _ y
    clear y
    go_wp2_with fail
    refine bodyPost_ret (v := .agg #[.slice ar key.length cr, .int .i64 side, .int .i64 1, .int .i64 0, .int .u64 0, .int .u64 0, .int .i64 0, .int .i64 0]) (by simp [results, Try.results17, go_sem, b0, b1, b2, b3, b4, b5, b6, b7]) rfl ⟨_, _, rfl, ?_, ?_⟩
    · refine Mine.from (B := w.heap.size + 1) ?_ (by omega)
      iterate 8 (refine Mine.setCell ?_ _ _ _ (by omega))
      exact Mine.from hm (by simp only [alloc_size]; omega)
    · iterate 8 (refine Below.set ?_ _ _ _ (by omega))
      exact ((Below.refl _ w).alloc (Nat.le_refl _) _).trans (hb2.mono (by simp only [alloc_size]; omega))
  · have hok' : Ln.ok ⟨key, side, 1, 0, 0, 0, 0, 0⟩ = false := by simpa using hok
    have hy : newL key side = Ln.zero := by simp [newL, hok']
    rw [hy]
    unfold Ln.zero Ln.val
    have HK := Lib.hid (show (true && Ln.ok ⟨key, side, 1, 0, 0, 0, 0, 0⟩) = false from by rw [hok']; rfl)
    clear hok hy hok'
    go_enter Try.func17, Try.ntmps17
    go_wp2_with fail
    refine (laneChanged0 ⟨key, side, 1, 0, 0, 0, 0, 0⟩ ao cap true _ _ (by simp) HK.out).mono ?_
    rintro e w2 ⟨he, hb2⟩
    obtain rfl : e = .returned (.agg #[.slice none 0 0, .int .i64 0, .int .i64 0, .int .i64 0, .int .u64 0, .int .u64 0, .int .i64 0, .int .i64 0]) := he
    have y : w2.heap[w.heap.size]? = some (.cells #[.slice none 0 0, .int .i64 0, .int .i64 0, .int .i64 0, .int .u64 0, .int .u64 0, .int .i64 0, .int .i64 0] 27 (0, 0)) := (hb_block hb2 (w.heap.size) (by simp only [alloc_size]; omega)).trans (by simp only [alloc_get]; repeat first | rw [if_pos trivial] | rw [if_neg (by omega)] | rw [if_pos (by omega)])
    have b0 : w2.cell? ⟨w.heap.size, 0, none⟩ = some (.slice none 0 0) := cell_of_row w2 (w.heap.size) 0 _ _ _ y
    have b1 : w2.cell? ⟨w.heap.size, 1, none⟩ = some (.int .i64 0) := cell_of_row w2 (w.heap.size) 1 _ _ _ y
    have b2 : w2.cell? ⟨w.heap.size, 2, none⟩ = some (.int .i64 0) := cell_of_row w2 (w.heap.size) 2 _ _ _ y
    have b3 : w2.cell? ⟨w.heap.size, 3, none⟩ = some (.int .i64 0) := cell_of_row w2 (w.heap.size) 3 _ _ _ y
    have b4 : w2.cell? ⟨w.heap.size, 4, none⟩ = some (.int .u64 0) := cell_of_row w2 (w.heap.size) 4 _ _ _ y
    have b5 : w2.cell? ⟨w.heap.size, 5, none⟩ = some (.int .u64 0) := cell_of_row w2 (w.heap.size) 5 _ _ _ y
    have b6 : w2.cell? ⟨w.heap.size, 6, none⟩ = some (.int .i64 0) := cell_of_row w2 (w.heap.size) 6 _ _ _ y
    have b7 : w2.cell? ⟨w.heap.size, 7, none⟩ = some (.int .i64 0) := cell_of_row w2 (w.heap.size) 7 _ _ _ y
    have bf (i : Nat) : w2.frozen? ⟨w.heap.size, i, none⟩ = false := frozen_of_row w2 (w.heap.size) i _ _ y
    clear y
    go_wp2_with fail
    refine bodyPost_ret (v := .agg #[.slice none 0 0, .int .i64 0, .int .i64 0, .int .i64 0, .int .u64 0, .int .u64 0, .int .i64 0, .int .i64 0]) (by simp [results, Try.results17, go_sem, b0, b1, b2, b3, b4, b5, b6, b7]) rfl ⟨_, _, rfl, ?_, ?_⟩
    · exact Or.inl ⟨rfl, rfl, rfl⟩
    · iterate 8 (refine Below.set ?_ _ _ _ (by omega))
      exact ((Below.refl _ w).alloc (Nat.le_refl _) _).trans (hb2.mono (by simp only [alloc_size]; omega))
set_option maxHeartbeats 1600000 in
theorem laneNext (L : Ln) (ao : Option Addr) (cap : Nat) (w : World) (hf : L.fits) :
   Calls Try.prog 51 #[L.val ao cap] w fun e w' => e = .returned (.tuple #[.int .i64 (nextG L), .int .i64 (nextE L)]) ∧ Below w.heap.size w w' := by
  obtain ⟨hl, hcur0, hcur1, hnext0, hnext1, hsend0, hsend1, hceil0, hceil1, hs⟩ := hf
  obtain ⟨key, side, cur, next, send, ceil, sec, nano⟩ := L
  unfold Ln.val
  simp only at hl hcur0 hcur1 hnext0 hnext1 hsend0 hsend1 hceil0 hceil1 hs ⊢
  have HS := Lib.hid hs
  by_cases hok : Ln.ok ⟨key, side, cur, next, send, ceil, sec, nano⟩ = true
  · by_cases hcn : cur < next
    · by_cases hg : 2147483647 ≤ next
      · have hz : nextG ⟨key, side, cur, next, send, ceil, sec, nano⟩ = 0 := by simp [nextG, topG, hok, hcn, hg]
        have hz2 : nextE ⟨key, side, cur, next, send, ceil, sec, nano⟩ = 168 := by simp [nextE, topG, hok, hcn, hg]
        rw [hz, hz2]
        have HK := Lib.hid hok
        clear hok hz hz2
        go_enter Try.func51, Try.ntmps51
        go_wp2_with fail
        all_goals
          refine (laneValid ⟨key, side, cur, next, send, ceil, sec, nano⟩ ao cap hs _).mono ?_
          rintro e w1 ⟨rfl, hb1⟩
          rw [HK.out]
          have hB := (fresh1 w _).trans (hb1.mono (by simp only [alloc_size]; omega))
          clear hb1
          go_wp2_with fail
          go_ret2
          exact ⟨rfl, hB⟩
      · have hz : nextG ⟨key, side, cur, next, send, ceil, sec, nano⟩ = next + 1 := by simp [nextG, topG, hok, hcn, hg]
        have hz2 : nextE ⟨key, side, cur, next, send, ceil, sec, nano⟩ = 0 := by simp [nextE, topG, hok, hcn, hg]
        rw [hz, hz2]
        have HK := Lib.hid hok
        clear hok hz hz2
        go_enter Try.func51, Try.ntmps51
        go_wp2_with fail
        all_goals
          refine (laneValid ⟨key, side, cur, next, send, ceil, sec, nano⟩ ao cap hs _).mono ?_
          rintro e w1 ⟨rfl, hb1⟩
          rw [HK.out]
          have hB := (fresh1 w _).trans (hb1.mono (by simp only [alloc_size]; omega))
          clear hb1
          go_wp2_with fail
          go_ret2
          exact ⟨rfl, hB⟩
    · by_cases hg : 2147483647 ≤ cur
      · have hz : nextG ⟨key, side, cur, next, send, ceil, sec, nano⟩ = 0 := by simp [nextG, topG, hok, hcn, hg]
        have hz2 : nextE ⟨key, side, cur, next, send, ceil, sec, nano⟩ = 168 := by simp [nextE, topG, hok, hcn, hg]
        rw [hz, hz2]
        have HK := Lib.hid hok
        clear hok hz hz2
        go_enter Try.func51, Try.ntmps51
        go_wp2_with fail
        all_goals
          refine (laneValid ⟨key, side, cur, next, send, ceil, sec, nano⟩ ao cap hs _).mono ?_
          rintro e w1 ⟨rfl, hb1⟩
          rw [HK.out]
          have hB := (fresh1 w _).trans (hb1.mono (by simp only [alloc_size]; omega))
          clear hb1
          go_wp2_with fail
          go_ret2
          exact ⟨rfl, hB⟩
      · have hz : nextG ⟨key, side, cur, next, send, ceil, sec, nano⟩ = cur + 1 := by simp [nextG, topG, hok, hcn, hg]
        have hz2 : nextE ⟨key, side, cur, next, send, ceil, sec, nano⟩ = 0 := by simp [nextE, topG, hok, hcn, hg]
        rw [hz, hz2]
        have HK := Lib.hid hok
        clear hok hz hz2
        go_enter Try.func51, Try.ntmps51
        go_wp2_with fail
        all_goals
          refine (laneValid ⟨key, side, cur, next, send, ceil, sec, nano⟩ ao cap hs _).mono ?_
          rintro e w1 ⟨rfl, hb1⟩
          rw [HK.out]
          have hB := (fresh1 w _).trans (hb1.mono (by simp only [alloc_size]; omega))
          clear hb1
          go_wp2_with fail
          go_ret2
          exact ⟨rfl, hB⟩
  · have hok' : Ln.ok ⟨key, side, cur, next, send, ceil, sec, nano⟩ = false := by simpa using hok
    clear hok
    have hok := hok'
    clear hok'
    have hz : nextG ⟨key, side, cur, next, send, ceil, sec, nano⟩ = 0 := by simp [nextG, hok]
    have hz2 : nextE ⟨key, side, cur, next, send, ceil, sec, nano⟩ = 2 := by simp [nextE, hok]
    rw [hz, hz2]
    have HK := Lib.hid hok
    clear hok hz hz2
    go_enter Try.func51, Try.ntmps51
    go_wp2_with fail
    all_goals
      refine (laneValid ⟨key, side, cur, next, send, ceil, sec, nano⟩ ao cap hs _).mono ?_
      rintro e w1 ⟨rfl, hb1⟩
      rw [HK.out]
      have hB := (fresh1 w _).trans (hb1.mono (by simp only [alloc_size]; omega))
      clear hb1
      go_wp2_with fail
      go_ret2
      exact ⟨rfl, hB⟩
set_option maxHeartbeats 4000000 in
theorem laneAgain (L : Ln) (ao : Option Addr) (cap : Nat) (w : World) (hf : L.fits) (hr : Rd w ao L.key) :
   Calls Try.prog 23 #[L.val ao cap] w fun e w' => ∃ ao' cap', e = .returned (.tuple #[(againL L).val ao' cap', .int .i64 (nextE L)]) ∧ Mine w' w.heap.size 5 ao' cap' (againL L).key ∧ Below w.heap.size w w' := by
  obtain ⟨hl, hcur0, hcur1, hnext0, hnext1, hsend0, hsend1, hceil0, hceil1, hs⟩ := hf
  obtain ⟨key, side, cur, next, send, ceil, sec, nano⟩ := L
  unfold Ln.val
  simp only at hl hcur0 hcur1 hnext0 hnext1 hsend0 hsend1 hceil0 hceil1 hs hr ⊢
  obtain ⟨g0, hg0⟩ : ∃ g, nextG ⟨key, side, cur, next, send, ceil, sec, nano⟩ = g := ⟨_, rfl⟩
  obtain ⟨e0, he0⟩ : ∃ g, nextE ⟨key, side, cur, next, send, ceil, sec, nano⟩ = g := ⟨_, rfl⟩
  by_cases h0 : e0 = 0
  · subst h0
    have hy : againL ⟨key, side, cur, next, send, ceil, sec, nano⟩ = Ln.keep ⟨key, side, cur, next, send, ceil, sec, nano⟩ g0 next 0 0 sec nano := by simp [againL, he0, hg0]
    have HK := Lib.hid (nextE_ok he0)
    rw [hy]
    try rw [hg0]
    rw [he0]
    unfold Ln.keep
    have HG := Lib.hid hg0
    have HE := Lib.hid he0
    clear hy hg0 he0
    go_enter Try.func23, Try.ntmps23
    go_wp2_with fail
    refine (laneNext ⟨key, side, cur, next, send, ceil, sec, nano⟩ ao cap _ ⟨hl, hcur0, hcur1, hnext0, hnext1, hsend0, hsend1, hceil0, hceil1, hs⟩).mono ?_
    rintro e w1 ⟨rfl, hb1⟩
    rw [HG.out, HE.out]
    have hz := hb1.size
    simp only [alloc_size] at hz
    have hz0 : w.heap.size < w1.heap.size := by omega
    have hz1 : w.heap.size + 1 < w1.heap.size := by omega
    have x1 : w1.heap[w.heap.size]? = some (.cells #[.slice ao key.length cap, .int .i64 side, .int .i64 cur, .int .i64 next, .int .u64 send, .int .u64 ceil, .int .i64 sec, .int .i64 nano] 27 (0, 0)) := (hb_block hb1 (w.heap.size) (by simp only [alloc_size]; omega)).trans (by simp only [alloc_get, alloc_size]; repeat first | rw [if_pos trivial] | rw [if_neg (by omega)] | rw [if_pos (by omega)])
    have x2 : w1.heap[w.heap.size + 1]? = some (.cells #[.slice none 0 0, .int .i64 0, .int .i64 0, .int .i64 0, .int .u64 0, .int .u64 0, .int .i64 0, .int .i64 0] 27 (0, 0)) := (hb_block hb1 (w.heap.size + 1) (by simp only [alloc_size]; omega)).trans (by simp only [alloc_get, alloc_size]; repeat first | rw [if_pos trivial] | rw [if_neg (by omega)] | rw [if_pos (by omega)])
    have a0 : w1.cell? ⟨w.heap.size, 0, none⟩ = some (.slice ao key.length cap) := cell_of_row w1 (w.heap.size) 0 _ _ _ x1
    have a1 : w1.cell? ⟨w.heap.size, 1, none⟩ = some (.int .i64 side) := cell_of_row w1 (w.heap.size) 1 _ _ _ x1
    have a2 : w1.cell? ⟨w.heap.size, 2, none⟩ = some (.int .i64 cur) := cell_of_row w1 (w.heap.size) 2 _ _ _ x1
    have a3 : w1.cell? ⟨w.heap.size, 3, none⟩ = some (.int .i64 next) := cell_of_row w1 (w.heap.size) 3 _ _ _ x1
    have a4 : w1.cell? ⟨w.heap.size, 4, none⟩ = some (.int .u64 send) := cell_of_row w1 (w.heap.size) 4 _ _ _ x1
    have a5 : w1.cell? ⟨w.heap.size, 5, none⟩ = some (.int .u64 ceil) := cell_of_row w1 (w.heap.size) 5 _ _ _ x1
    have a6 : w1.cell? ⟨w.heap.size, 6, none⟩ = some (.int .i64 sec) := cell_of_row w1 (w.heap.size) 6 _ _ _ x1
    have a7 : w1.cell? ⟨w.heap.size, 7, none⟩ = some (.int .i64 nano) := cell_of_row w1 (w.heap.size) 7 _ _ _ x1
    have af (i : Nat) : w1.frozen? ⟨w.heap.size, i, none⟩ = false := frozen_of_row w1 (w.heap.size) i _ _ x1
    have hB1 := (((Below.refl _ w).alloc (Nat.le_refl _) _).alloc (by simp only [alloc_size]; omega) _).trans (hb1.mono (by simp only [alloc_size]; omega))
    clear hb1
    go_wp2_with fail
    refine (laneChanged1 ⟨key, side, cur, next, send, ceil, sec, nano⟩ g0 next 0 0 sec nano ao cap 52 _ _ hs HK.out ?hrw (fun _ _ => rfl) ?hclo).mono ?_
    case hrw => exact (hr.on hB1).on (fresh1 _ _)
    case hclo =>
      intro W gg ar cr hB hg hx
      exact cloAgain W gg ar cr key side cur next send ceil sec nano hx w1.heap.size g0 (by have h := hg; simp only [alloc_size] at h; omega) ((hB.cell (by simp only [alloc_size]; omega)).trans (by go_simp))
    rintro e w2 ⟨ar, cr, he, hm, hb2⟩
    obtain rfl : e = .returned (.agg #[.slice ar key.length cr, .int .i64 side, .int .i64 g0, .int .i64 next, .int .u64 0, .int .u64 0, .int .i64 sec, .int .i64 nano]) := he
    have y : w2.heap[w.heap.size + 1]? = some (.cells #[.slice none 0 0, .int .i64 0, .int .i64 0, .int .i64 0, .int .u64 0, .int .u64 0, .int .i64 0, .int .i64 0] 27 (0, 0)) := (hb2.block (w.heap.size + 1) (by simp only [alloc_size]; omega)).trans ((alloc_old _ _ _ (by omega)).trans x2)
    have b0 : w2.cell? ⟨w.heap.size + 1, 0, none⟩ = some (.slice none 0 0) := cell_of_row w2 (w.heap.size + 1) 0 _ _ _ y
    have b1 : w2.cell? ⟨w.heap.size + 1, 1, none⟩ = some (.int .i64 0) := cell_of_row w2 (w.heap.size + 1) 1 _ _ _ y
    have b2 : w2.cell? ⟨w.heap.size + 1, 2, none⟩ = some (.int .i64 0) := cell_of_row w2 (w.heap.size + 1) 2 _ _ _ y
    have b3 : w2.cell? ⟨w.heap.size + 1, 3, none⟩ = some (.int .i64 0) := cell_of_row w2 (w.heap.size + 1) 3 _ _ _ y
    have b4 : w2.cell? ⟨w.heap.size + 1, 4, none⟩ = some (.int .u64 0) := cell_of_row w2 (w.heap.size + 1) 4 _ _ _ y
    have b5 : w2.cell? ⟨w.heap.size + 1, 5, none⟩ = some (.int .u64 0) := cell_of_row w2 (w.heap.size + 1) 5 _ _ _ y
    have b6 : w2.cell? ⟨w.heap.size + 1, 6, none⟩ = some (.int .i64 0) := cell_of_row w2 (w.heap.size + 1) 6 _ _ _ y
    have b7 : w2.cell? ⟨w.heap.size + 1, 7, none⟩ = some (.int .i64 0) := cell_of_row w2 (w.heap.size + 1) 7 _ _ _ y
    have bf (i : Nat) : w2.frozen? ⟨w.heap.size + 1, i, none⟩ = false := frozen_of_row w2 (w.heap.size + 1) i _ _ y
    clear y
    go_wp2_with fail
    refine bodyPost_ret (v := .tuple #[.agg #[.slice ar key.length cr, .int .i64 side, .int .i64 g0, .int .i64 next, .int .u64 0, .int .u64 0, .int .i64 sec, .int .i64 nano], .int .i64 0]) (by simp [results, Try.results23, go_sem, b0, b1, b2, b3, b4, b5, b6, b7]) rfl ⟨_, _, rfl, ?_, ?_⟩
    · refine Mine.from (B := w.heap.size + 2) ?_ (by omega)
      iterate 8 (refine Mine.setCell ?_ _ _ _ (by omega))
      exact Mine.from hm (by simp only [alloc_size]; omega)
    · iterate 8 (refine Below.set ?_ _ _ _ (by omega))
      exact (hB1.alloc (by omega) _).trans (hb2.mono (by simp only [alloc_size]; omega))
  · have hy : againL ⟨key, side, cur, next, send, ceil, sec, nano⟩ = Ln.zero := by simp [againL, he0, h0]
    have h0b : (e0 == 0) = false := beq_eq_false_iff_ne.2 h0
    rw [hy]
    try rw [hg0]
    rw [he0]
    unfold Ln.zero
    have HG := Lib.hid hg0
    have HE := Lib.hid he0
    clear hy hg0 he0 h0
    go_enter Try.func23, Try.ntmps23
    go_wp2_with fail
    refine (laneNext ⟨key, side, cur, next, send, ceil, sec, nano⟩ ao cap _ ⟨hl, hcur0, hcur1, hnext0, hnext1, hsend0, hsend1, hceil0, hceil1, hs⟩).mono ?_
    rintro e w1 ⟨rfl, hb1⟩
    rw [HG.out, HE.out]
    have hz := hb1.size
    simp only [alloc_size] at hz
    have hz0 : w.heap.size < w1.heap.size := by omega
    have hz1 : w.heap.size + 1 < w1.heap.size := by omega
    have x1 : w1.heap[w.heap.size]? = some (.cells #[.slice ao key.length cap, .int .i64 side, .int .i64 cur, .int .i64 next, .int .u64 send, .int .u64 ceil, .int .i64 sec, .int .i64 nano] 27 (0, 0)) := (hb_block hb1 (w.heap.size) (by simp only [alloc_size]; omega)).trans (by simp only [alloc_get, alloc_size]; repeat first | rw [if_pos trivial] | rw [if_neg (by omega)] | rw [if_pos (by omega)])
    have x2 : w1.heap[w.heap.size + 1]? = some (.cells #[.slice none 0 0, .int .i64 0, .int .i64 0, .int .i64 0, .int .u64 0, .int .u64 0, .int .i64 0, .int .i64 0] 27 (0, 0)) := (hb_block hb1 (w.heap.size + 1) (by simp only [alloc_size]; omega)).trans (by simp only [alloc_get, alloc_size]; repeat first | rw [if_pos trivial] | rw [if_neg (by omega)] | rw [if_pos (by omega)])
    have a0 : w1.cell? ⟨w.heap.size, 0, none⟩ = some (.slice ao key.length cap) := cell_of_row w1 (w.heap.size) 0 _ _ _ x1
    have a1 : w1.cell? ⟨w.heap.size, 1, none⟩ = some (.int .i64 side) := cell_of_row w1 (w.heap.size) 1 _ _ _ x1
    have a2 : w1.cell? ⟨w.heap.size, 2, none⟩ = some (.int .i64 cur) := cell_of_row w1 (w.heap.size) 2 _ _ _ x1
    have a3 : w1.cell? ⟨w.heap.size, 3, none⟩ = some (.int .i64 next) := cell_of_row w1 (w.heap.size) 3 _ _ _ x1
    have a4 : w1.cell? ⟨w.heap.size, 4, none⟩ = some (.int .u64 send) := cell_of_row w1 (w.heap.size) 4 _ _ _ x1
    have a5 : w1.cell? ⟨w.heap.size, 5, none⟩ = some (.int .u64 ceil) := cell_of_row w1 (w.heap.size) 5 _ _ _ x1
    have a6 : w1.cell? ⟨w.heap.size, 6, none⟩ = some (.int .i64 sec) := cell_of_row w1 (w.heap.size) 6 _ _ _ x1
    have a7 : w1.cell? ⟨w.heap.size, 7, none⟩ = some (.int .i64 nano) := cell_of_row w1 (w.heap.size) 7 _ _ _ x1
    have af (i : Nat) : w1.frozen? ⟨w.heap.size, i, none⟩ = false := frozen_of_row w1 (w.heap.size) i _ _ x1
    have hB1 := (((Below.refl _ w).alloc (Nat.le_refl _) _).alloc (by simp only [alloc_size]; omega) _).trans (hb1.mono (by simp only [alloc_size]; omega))
    clear hb1
    go_wp2_with fail
    refine (laneChanged0 ⟨key, side, cur, next, send, ceil, sec, nano⟩ ao cap false _ _ hs (by simp)).mono ?_
    rintro e w2 ⟨he, hb2⟩
    obtain rfl : e = .returned (.agg #[.slice none 0 0, .int .i64 0, .int .i64 0, .int .i64 0, .int .u64 0, .int .u64 0, .int .i64 0, .int .i64 0]) := he
    have y : w2.heap[w.heap.size + 1]? = some (.cells #[.slice none 0 0, .int .i64 0, .int .i64 0, .int .i64 0, .int .u64 0, .int .u64 0, .int .i64 0, .int .i64 0] 27 (0, 0)) := (hb2.block (w.heap.size + 1) (by simp only [alloc_size]; omega)).trans ((alloc_old _ _ _ (by omega)).trans x2)
    have b0 : w2.cell? ⟨w.heap.size + 1, 0, none⟩ = some (.slice none 0 0) := cell_of_row w2 (w.heap.size + 1) 0 _ _ _ y
    have b1 : w2.cell? ⟨w.heap.size + 1, 1, none⟩ = some (.int .i64 0) := cell_of_row w2 (w.heap.size + 1) 1 _ _ _ y
    have b2 : w2.cell? ⟨w.heap.size + 1, 2, none⟩ = some (.int .i64 0) := cell_of_row w2 (w.heap.size + 1) 2 _ _ _ y
    have b3 : w2.cell? ⟨w.heap.size + 1, 3, none⟩ = some (.int .i64 0) := cell_of_row w2 (w.heap.size + 1) 3 _ _ _ y
    have b4 : w2.cell? ⟨w.heap.size + 1, 4, none⟩ = some (.int .u64 0) := cell_of_row w2 (w.heap.size + 1) 4 _ _ _ y
    have b5 : w2.cell? ⟨w.heap.size + 1, 5, none⟩ = some (.int .u64 0) := cell_of_row w2 (w.heap.size + 1) 5 _ _ _ y
    have b6 : w2.cell? ⟨w.heap.size + 1, 6, none⟩ = some (.int .i64 0) := cell_of_row w2 (w.heap.size + 1) 6 _ _ _ y
    have b7 : w2.cell? ⟨w.heap.size + 1, 7, none⟩ = some (.int .i64 0) := cell_of_row w2 (w.heap.size + 1) 7 _ _ _ y
    have bf (i : Nat) : w2.frozen? ⟨w.heap.size + 1, i, none⟩ = false := frozen_of_row w2 (w.heap.size + 1) i _ _ y
    clear y
    go_wp2_with fail
    refine bodyPost_ret (v := .tuple #[.agg #[.slice none 0 0, .int .i64 0, .int .i64 0, .int .i64 0, .int .u64 0, .int .u64 0, .int .i64 0, .int .i64 0], .int .i64 e0]) (by simp [results, Try.results23, go_sem, b0, b1, b2, b3, b4, b5, b6, b7]) rfl ⟨_, _, rfl, ?_, ?_⟩
    · exact Or.inl ⟨rfl, rfl, rfl⟩
    · iterate 8 (refine Below.set ?_ _ _ _ (by omega))
      exact (hB1.alloc (by omega) _).trans (hb2.mono (by simp only [alloc_size]; omega))
end Go.Proofs.Ytihndipgdogebaa
