/- The walk of LaneCalls. -/
import Derived.Test.YtihndipgdogebaaLane14
namespace Go.Proofs.Ytihndipgdogebaa
open Go.RowKit
theorem set8 {W U : World} {b : Nat} {cs : Array Value} {t : TypeId} {v0 v1 v2 v3 v4 v5 v6 v7 : Value}
    (hU : (((((((W.setCell ⟨b, 0, none⟩ v0).setCell ⟨b, 1, none⟩ v1).setCell ⟨b, 2, none⟩ v2).setCell ⟨b, 3, none⟩ v3).setCell ⟨b, 4, none⟩ v4).setCell ⟨b, 5, none⟩ v5).setCell ⟨b, 6, none⟩ v6).setCell ⟨b, 7, none⟩ v7 = U)
    (hx : W.heap[b]? = some (.cells cs t (0, 0))) (hs : cs.size = 8) :
    U.heap[b]? = some (.cells #[v0, v1, v2, v3, v4, v5, v6, v7] t (0, 0)) ∧ U.heap.size = W.heap.size ∧ Only (fun k => k = b) W U := by
  subst hU
  refine ⟨?_, by simp [World.setCell], ?_⟩
  · obtain ⟨l⟩ := cs
    match l, hs with
    | [a0, a1, a2, a3, a4, a5, a6, a7], _ =>
      have h0 : (W.setCell ⟨b, 0, none⟩ v0).heap[b]? = some (.cells #[v0, a1, a2, a3, a4, a5, a6, a7] t (0, 0)) := heap_setCell_same W b 0 _ _ v0 hx
      have h1 : ((W.setCell ⟨b, 0, none⟩ v0).setCell ⟨b, 1, none⟩ v1).heap[b]? = some (.cells #[v0, v1, a2, a3, a4, a5, a6, a7] t (0, 0)) := heap_setCell_same _ b 1 _ _ v1 h0
      have h2 : (((W.setCell ⟨b, 0, none⟩ v0).setCell ⟨b, 1, none⟩ v1).setCell ⟨b, 2, none⟩ v2).heap[b]? = some (.cells #[v0, v1, v2, a3, a4, a5, a6, a7] t (0, 0)) := heap_setCell_same _ b 2 _ _ v2 h1
      generalize ((W.setCell ⟨b, 0, none⟩ v0).setCell ⟨b, 1, none⟩ v1).setCell ⟨b, 2, none⟩ v2 = W2 at h2 ⊢
      have h3 : (W2.setCell ⟨b, 3, none⟩ v3).heap[b]? = some (.cells #[v0, v1, v2, v3, a4, a5, a6, a7] t (0, 0)) := heap_setCell_same _ b 3 _ _ v3 h2
      have h4 : ((W2.setCell ⟨b, 3, none⟩ v3).setCell ⟨b, 4, none⟩ v4).heap[b]? = some (.cells #[v0, v1, v2, v3, v4, a5, a6, a7] t (0, 0)) := heap_setCell_same _ b 4 _ _ v4 h3
      generalize (W2.setCell ⟨b, 3, none⟩ v3).setCell ⟨b, 4, none⟩ v4 = W4 at h4 ⊢
      have h5 : (W4.setCell ⟨b, 5, none⟩ v5).heap[b]? = some (.cells #[v0, v1, v2, v3, v4, v5, a6, a7] t (0, 0)) := heap_setCell_same _ b 5 _ _ v5 h4
      have h6 : ((W4.setCell ⟨b, 5, none⟩ v5).setCell ⟨b, 6, none⟩ v6).heap[b]? = some (.cells #[v0, v1, v2, v3, v4, v5, v6, a7] t (0, 0)) := heap_setCell_same _ b 6 _ _ v6 h5
      exact heap_setCell_same _ b 7 _ _ v7 h6
  · exact (((((((Only.setCell W b 0 v0).trans (Only.setCell _ b 1 v1)).trans (Only.setCell _ b 2 v2)).trans (Only.setCell _ b 3 v3)).trans (Only.setCell _ b 4 v4)).trans (Only.setCell _ b 5 v5)).trans (Only.setCell _ b 6 v6)).trans (Only.setCell _ b 7 v7)
theorem keys_len {L : Ln} {cur next send ceil sec nano : Int} {p : Prop} [Decidable p] {n : Nat} (h : L.key.length ≤ n) : (if p then L.keep cur next send ceil sec nano else Ln.zero).key.length ≤ n := by
  split
  · exact h
  · simp [Ln.zero]
set_option maxRecDepth 100000 in
theorem lawCalls_long (L : Ln) (ao : Option Addr) (cap : Nat) (g b c at1 ss sn : Int) (w : World) (hl : 4096 < L.key.length) : Calls Try.prog 6 #[L.val ao cap, .agg #[.int .i64 g, .int .i64 b, .int .u64 c, .int .u64 at1, .int .i64 ss, .int .i64 sn]] w fun e w' => e = .returned (.bool true) ∧ Below w.heap.size w w' := by
  have hl2 : (4096 : Int) < (L.key.length : Int) := by omega
  obtain ⟨key, side, cur, next, send, ceil, sec, nano⟩ := L
  unfold Ln.val
  simp only at hl hl2 ⊢
  go_enter Try.func6, Try.ntmps6
  go_wp2_with fail
  generalize hU : ((w.alloc (.cells #[.slice ao key.length cap, .int .i64 side, .int .i64 cur, .int .i64 next, .int .u64 send, .int .u64 ceil, .int .i64 sec, .int .i64 nano] 27 (0, 0))).alloc (.cells #[.int .i64 g, .int .i64 b, .int .u64 c, .int .u64 at1, .int .i64 ss, .int .i64 sn] 37 (0, 0))) = U1
  have HB := Lib.hid (show Below w.heap.size w U1 by rw [← hU]; exact (((Below.refl _ w).alloc (Nat.le_refl _) _).alloc (by simp only [alloc_size]; omega) _))
  have XL := Lib.hid (show U1.heap[w.heap.size]? = some (.cells #[.slice ao key.length cap, .int .i64 side, .int .i64 cur, .int .i64 next, .int .u64 send, .int .u64 ceil, .int .i64 sec, .int .i64 nano] 27 (0, 0)) by rw [← hU]; exact (by simp only [alloc_get, alloc_size]; repeat first | rw [if_pos trivial] | rw [if_neg (by omega)] | rw [if_pos (by omega)]))
  have lL : w.heap.size < U1.heap.size := by rw [← hU]; exact (by simp only [alloc_size]; omega)
  have XN := Lib.hid (show U1.heap[w.heap.size + 1]? = some (.cells #[.int .i64 g, .int .i64 b, .int .u64 c, .int .u64 at1, .int .i64 ss, .int .i64 sn] 37 (0, 0)) by rw [← hU]; exact (by simp only [alloc_get, alloc_size]; repeat first | rw [if_pos trivial] | rw [if_neg (by omega)] | rw [if_pos (by omega)]))
  have lN : w.heap.size + 1 < U1.heap.size := by rw [← hU]; exact (by simp only [alloc_size]; omega)
  have pL_N : w.heap.size < w.heap.size + 1 := by omega
  clear hU
  refine (laneKnown _).mono ?_
  rintro e W2 ⟨rfl, hb⟩
  have hz := hb.size
  have HB2 := Lib.hid (HB.out.trans (hb.mono HB.out.size))
  clear HB
  have HB := HB2
  clear HB2
  have YL := Lib.hid (show W2.heap[w.heap.size]? = some (.cells #[.slice ao key.length cap, .int .i64 side, .int .i64 cur, .int .i64 next, .int .u64 send, .int .u64 ceil, .int .i64 sec, .int .i64 nano] 27 (0, 0)) from (hb.block (w.heap.size) lL).trans XL.out)
  have lL2 : w.heap.size < W2.heap.size := by omega
  clear XL lL
  have XL := YL
  have lL := lL2
  clear YL lL2
  have YN := Lib.hid (show W2.heap[w.heap.size + 1]? = some (.cells #[.int .i64 g, .int .i64 b, .int .u64 c, .int .u64 at1, .int .i64 ss, .int .i64 sn] 37 (0, 0)) from (hb.block (w.heap.size + 1) lN).trans XN.out)
  have lN2 : w.heap.size + 1 < W2.heap.size := by omega
  clear XN lN
  have XN := YN
  have lN := lN2
  clear YN lN2
  clear hb hz
  have xL := XL.out
  have qL_0 : W2.cell? ⟨w.heap.size, 0, none⟩ = some (.slice ao key.length cap) := cell_of_row W2 (w.heap.size) 0 _ _ _ xL
  have qL_1 : W2.cell? ⟨w.heap.size, 1, none⟩ = some (.int .i64 side) := cell_of_row W2 (w.heap.size) 1 _ _ _ xL
  have qL_2 : W2.cell? ⟨w.heap.size, 2, none⟩ = some (.int .i64 cur) := cell_of_row W2 (w.heap.size) 2 _ _ _ xL
  have qL_3 : W2.cell? ⟨w.heap.size, 3, none⟩ = some (.int .i64 next) := cell_of_row W2 (w.heap.size) 3 _ _ _ xL
  have qL_4 : W2.cell? ⟨w.heap.size, 4, none⟩ = some (.int .u64 send) := cell_of_row W2 (w.heap.size) 4 _ _ _ xL
  have qL_5 : W2.cell? ⟨w.heap.size, 5, none⟩ = some (.int .u64 ceil) := cell_of_row W2 (w.heap.size) 5 _ _ _ xL
  have qL_6 : W2.cell? ⟨w.heap.size, 6, none⟩ = some (.int .i64 sec) := cell_of_row W2 (w.heap.size) 6 _ _ _ xL
  have qL_7 : W2.cell? ⟨w.heap.size, 7, none⟩ = some (.int .i64 nano) := cell_of_row W2 (w.heap.size) 7 _ _ _ xL
  have qL_f (i : Nat) : W2.frozen? ⟨w.heap.size, i, none⟩ = false := frozen_of_row W2 (w.heap.size) i _ _ xL
  clear xL
  go_wp2_with fail
  clear qL_0 qL_1 qL_2 qL_3 qL_4 qL_5 qL_6 qL_7 qL_f
  go_ret
  exact ⟨rfl, HB.out⟩
set_option maxRecDepth 100000 in
set_option maxHeartbeats 8000000 in
theorem lawCalls_short (L : Ln) (ao : Option Addr) (cap : Nat) (g b c at1 ss sn : Int) (w : World) (hl : L.key.length ≤ 4096) (hf : L.fits) (hr : Rd w ao L.key) (hc0 : 0 ≤ c) (hc1 : c ≤ 18446744073709551615) (ha0 : 0 ≤ at1) (ha1 : at1 ≤ 18446744073709551615) (hss : ss ≤ 9223372036854775807) : Calls Try.prog 6 #[L.val ao cap, .agg #[.int .i64 g, .int .i64 b, .int .u64 c, .int .u64 at1, .int .i64 ss, .int .i64 sn]] w fun e w' => e = .returned (.bool true) ∧ Below w.heap.size w w' := by
  obtain ⟨N0, hN0⟩ : ∃ N, againL L = N := ⟨_, rfl⟩
  have hk0 : N0.key.length ≤ 4096 := by rw [← hN0]; exact keys_len hl
  obtain ⟨N1, hN1⟩ : ∃ N, proposeL L = N := ⟨_, rfl⟩
  have hk1 : N1.key.length ≤ 4096 := by rw [← hN1]; exact keys_len hl
  obtain ⟨N2, hN2⟩ : ∃ N, reserveL L at1 b = N := ⟨_, rfl⟩
  have hk2 : N2.key.length ≤ 4096 := by rw [← hN2]; exact keys_len hl
  obtain ⟨N3, hN3⟩ : ∃ N, openedL L g c b = N := ⟨_, rfl⟩
  have hk3 : N3.key.length ≤ 4096 := by rw [← hN3]; exact keys_len hl
  obtain ⟨N4, hN4⟩ : ∃ N, raiseL L c b = N := ⟨_, rfl⟩
  have hk4 : N4.key.length ≤ 4096 := by rw [← hN4]; exact keys_len hl
  obtain ⟨N5, hN5⟩ : ∃ N, answeredL L g c ss sn b = N := ⟨_, rfl⟩
  have hk5 : N5.key.length ≤ 4096 := by rw [← hN5]; exact keys_len hl
  obtain ⟨ng, hng⟩ : ∃ x, nextG L = x := ⟨_, rfl⟩
  obtain ⟨ne, hne⟩ : ∃ x, nextE L = x := ⟨_, rfl⟩
  obtain ⟨aa, haa⟩ : ∃ x, atA L g c ss sn b = x := ⟨_, rfl⟩
  obtain ⟨k0, s0, c0, n0, e0, f0, x0, y0⟩ := N0
  simp only at hk0
  obtain ⟨k1, s1, c1, n1, e1, f1, x1, y1⟩ := N1
  simp only at hk1
  obtain ⟨k2, s2, c2, n2, e2, f2, x2, y2⟩ := N2
  simp only at hk2
  obtain ⟨k3, s3, c3, n3, e3, f3, x3, y3⟩ := N3
  simp only at hk3
  obtain ⟨k4, s4, c4, n4, e4, f4, x4, y4⟩ := N4
  simp only at hk4
  obtain ⟨k5, s5, c5, n5, e5, f5, x5, y5⟩ := N5
  simp only at hk5
  have HF := Lib.hid hf
  obtain ⟨key, side, cur, next, send, ceil, sec, nano⟩ := L
  unfold Ln.val
  simp only at hl hr ⊢
  have HN0 := Lib.hid hN0
  have HN1 := Lib.hid hN1
  have HN2 := Lib.hid hN2
  have HN3 := Lib.hid hN3
  have HN4 := Lib.hid hN4
  have HN5 := Lib.hid hN5
  have HG := Lib.hid hng
  have HE := Lib.hid hne
  have HA := Lib.hid haa
  clear hf hng hne haa hN0 hN1 hN2 hN3 hN4 hN5
  have hl2 : (key.length : Int) ≤ (4096 : Int) := by omega
  have i0 : (ne != ne) = false := by simp
  have i1 : (ng != ng) = false := by simp
  have i2 : (aa == aa) = true := by simp
  go_enter Try.func6, Try.ntmps6
  go_wp2_with fail
  generalize hU : ((w.alloc (.cells #[.slice ao key.length cap, .int .i64 side, .int .i64 cur, .int .i64 next, .int .u64 send, .int .u64 ceil, .int .i64 sec, .int .i64 nano] 27 (0, 0))).alloc (.cells #[.int .i64 g, .int .i64 b, .int .u64 c, .int .u64 at1, .int .i64 ss, .int .i64 sn] 37 (0, 0))) = U1
  have HB := Lib.hid (show Below w.heap.size w U1 by rw [← hU]; exact (((Below.refl _ w).alloc (Nat.le_refl _) _).alloc (by simp only [alloc_size]; omega) _))
  have XL := Lib.hid (show U1.heap[w.heap.size]? = some (.cells #[.slice ao key.length cap, .int .i64 side, .int .i64 cur, .int .i64 next, .int .u64 send, .int .u64 ceil, .int .i64 sec, .int .i64 nano] 27 (0, 0)) by rw [← hU]; exact (by simp only [alloc_get, alloc_size]; repeat first | rw [if_pos trivial] | rw [if_neg (by omega)] | rw [if_pos (by omega)]))
  have lL : w.heap.size < U1.heap.size := by rw [← hU]; exact (by simp only [alloc_size]; omega)
  have XN := Lib.hid (show U1.heap[w.heap.size + 1]? = some (.cells #[.int .i64 g, .int .i64 b, .int .u64 c, .int .u64 at1, .int .i64 ss, .int .i64 sn] 37 (0, 0)) by rw [← hU]; exact (by simp only [alloc_get, alloc_size]; repeat first | rw [if_pos trivial] | rw [if_neg (by omega)] | rw [if_pos (by omega)]))
  have lN : w.heap.size + 1 < U1.heap.size := by rw [← hU]; exact (by simp only [alloc_size]; omega)
  have pL_N : w.heap.size < w.heap.size + 1 := by omega
  clear hU
  refine (laneKnown _).mono ?_
  rintro e W2 ⟨rfl, hb⟩
  have hz := hb.size
  have HB2 := Lib.hid (HB.out.trans (hb.mono HB.out.size))
  clear HB
  have HB := HB2
  clear HB2
  have YL := Lib.hid (show W2.heap[w.heap.size]? = some (.cells #[.slice ao key.length cap, .int .i64 side, .int .i64 cur, .int .i64 next, .int .u64 send, .int .u64 ceil, .int .i64 sec, .int .i64 nano] 27 (0, 0)) from (hb.block (w.heap.size) lL).trans XL.out)
  have lL2 : w.heap.size < W2.heap.size := by omega
  clear XL lL
  have XL := YL
  have lL := lL2
  clear YL lL2
  have YN := Lib.hid (show W2.heap[w.heap.size + 1]? = some (.cells #[.int .i64 g, .int .i64 b, .int .u64 c, .int .u64 at1, .int .i64 ss, .int .i64 sn] 37 (0, 0)) from (hb.block (w.heap.size + 1) lN).trans XN.out)
  have lN2 : w.heap.size + 1 < W2.heap.size := by omega
  clear XN lN
  have XN := YN
  have lN := lN2
  clear YN lN2
  clear hb hz
  have xL := XL.out
  have qL_0 : W2.cell? ⟨w.heap.size, 0, none⟩ = some (.slice ao key.length cap) := cell_of_row W2 (w.heap.size) 0 _ _ _ xL
  have qL_1 : W2.cell? ⟨w.heap.size, 1, none⟩ = some (.int .i64 side) := cell_of_row W2 (w.heap.size) 1 _ _ _ xL
  have qL_2 : W2.cell? ⟨w.heap.size, 2, none⟩ = some (.int .i64 cur) := cell_of_row W2 (w.heap.size) 2 _ _ _ xL
  have qL_3 : W2.cell? ⟨w.heap.size, 3, none⟩ = some (.int .i64 next) := cell_of_row W2 (w.heap.size) 3 _ _ _ xL
  have qL_4 : W2.cell? ⟨w.heap.size, 4, none⟩ = some (.int .u64 send) := cell_of_row W2 (w.heap.size) 4 _ _ _ xL
  have qL_5 : W2.cell? ⟨w.heap.size, 5, none⟩ = some (.int .u64 ceil) := cell_of_row W2 (w.heap.size) 5 _ _ _ xL
  have qL_6 : W2.cell? ⟨w.heap.size, 6, none⟩ = some (.int .i64 sec) := cell_of_row W2 (w.heap.size) 6 _ _ _ xL
  have qL_7 : W2.cell? ⟨w.heap.size, 7, none⟩ = some (.int .i64 nano) := cell_of_row W2 (w.heap.size) 7 _ _ _ xL
  have qL_f (i : Nat) : W2.frozen? ⟨w.heap.size, i, none⟩ = false := frozen_of_row W2 (w.heap.size) i _ _ xL
  clear xL
  go_wp2_with fail
  clear qL_0 qL_1 qL_2 qL_3 qL_4 qL_5 qL_6 qL_7 qL_f
  refine (laneRoomy ⟨key, side, cur, next, send, ceil, sec, nano⟩ ao cap _ hl (hr.on HB.out)).mono ?_
  rintro e W3 ⟨gr, cr, he, hgr, hcr, O0, hb⟩
  obtain rfl : e = .returned (.agg #[.slice (some ⟨gr, 0, none⟩) key.length cr, .int .i64 side, .int .i64 cur, .int .i64 next, .int .u64 send, .int .u64 ceil, .int .i64 sec, .int .i64 nano]) := he
  clear hgr
  have hz := hb.size
  have HB2 := Lib.hid (HB.out.trans (hb.mono HB.out.size))
  clear HB
  have HB := HB2
  clear HB2
  have YL := Lib.hid (show W3.heap[w.heap.size]? = some (.cells #[.slice ao key.length cap, .int .i64 side, .int .i64 cur, .int .i64 next, .int .u64 send, .int .u64 ceil, .int .i64 sec, .int .i64 nano] 27 (0, 0)) from (hb.block (w.heap.size) lL).trans XL.out)
  have lL2 : w.heap.size < W3.heap.size := by omega
  clear XL lL
  have XL := YL
  have lL := lL2
  clear YL lL2
  have YN := Lib.hid (show W3.heap[w.heap.size + 1]? = some (.cells #[.int .i64 g, .int .i64 b, .int .u64 c, .int .u64 at1, .int .i64 ss, .int .i64 sn] 37 (0, 0)) from (hb.block (w.heap.size + 1) lN).trans XN.out)
  have lN2 : w.heap.size + 1 < W3.heap.size := by omega
  clear XN lN
  have XN := YN
  have lN := lN2
  clear YN lN2
  clear hb hz
  go_wp2_with fail
  generalize hU : W3.alloc (.cells #[.slice (some ⟨gr, 0, none⟩) key.length cr, .int .i64 side, .int .i64 cur, .int .i64 next, .int .u64 send, .int .u64 ceil, .int .i64 sec, .int .i64 nano] 27 (0, 0)) = U4
  have HB2 := Lib.hid (show Below w.heap.size w U4 by rw [← hU]; exact below_push HB.out)
  clear HB
  have HB := HB2
  clear HB2
  have YL := Lib.hid (show U4.heap[w.heap.size]? = some (.cells #[.slice ao key.length cap, .int .i64 side, .int .i64 cur, .int .i64 next, .int .u64 send, .int .u64 ceil, .int .i64 sec, .int .i64 nano] 27 (0, 0)) by rw [← hU]; exact (alloc_old _ _ _ lL).trans XL.out)
  have pL_R : w.heap.size < W3.heap.size := lL
  have lL2 : w.heap.size < U4.heap.size := by rw [← hU]; simp only [alloc_size]; omega
  clear XL lL
  have XL := YL
  have lL := lL2
  clear YL lL2
  have YN := Lib.hid (show U4.heap[w.heap.size + 1]? = some (.cells #[.int .i64 g, .int .i64 b, .int .u64 c, .int .u64 at1, .int .i64 ss, .int .i64 sn] 37 (0, 0)) by rw [← hU]; exact (alloc_old _ _ _ lN).trans XN.out)
  have pN_R : w.heap.size + 1 < W3.heap.size := lN
  have lN2 : w.heap.size + 1 < U4.heap.size := by rw [← hU]; simp only [alloc_size]; omega
  clear XN lN
  have XN := YN
  have lN := lN2
  clear YN lN2
  have XR := Lib.hid (show U4.heap[W3.heap.size]? = some (.cells #[.slice (some ⟨gr, 0, none⟩) key.length cr, .int .i64 side, .int .i64 cur, .int .i64 next, .int .u64 send, .int .u64 ceil, .int .i64 sec, .int .i64 nano] 27 (0, 0)) by rw [← hU]; exact heap_alloc_new _ _)
  have lR : W3.heap.size < U4.heap.size := by rw [← hU]; simp only [alloc_size]; omega
  have o0_R : gr < W3.heap.size := O0.lt
  have N0 := Own.alloc O0 (.cells #[.slice (some ⟨gr, 0, none⟩) key.length cr, .int .i64 side, .int .i64 cur, .int .i64 next, .int .u64 send, .int .u64 ceil, .int .i64 sec, .int .i64 nano] 27 (0, 0))
  rw [hU] at N0
  clear O0
  have O0 := N0
  clear N0
  clear hU
  refine (laneAgain ⟨key, side, cur, next, send, ceil, sec, nano⟩ (some ⟨gr, 0, none⟩) cr _ HF.out (by exact O0.pre.rd)).mono ?_
  rintro e W5 ⟨A0, cA0, he, Mx, hb⟩
  rw [HN0.out] at he Mx
  rw [HE.out] at he
  obtain rfl : e = .returned (.tuple #[(.agg #[.slice A0 k0.length cA0, .int .i64 s0, .int .i64 c0, .int .i64 n0, .int .u64 e0, .int .u64 f0, .int .i64 x0, .int .i64 y0]), .int .i64 ne]) := he
  have MA0 : Mine _ _ _ A0 cA0 k0 := Mx
  clear Mx
  have hz := hb.size
  have HB2 := Lib.hid (HB.out.trans (hb.mono HB.out.size))
  clear HB
  have HB := HB2
  clear HB2
  have YL := Lib.hid (show W5.heap[w.heap.size]? = some (.cells #[.slice ao key.length cap, .int .i64 side, .int .i64 cur, .int .i64 next, .int .u64 send, .int .u64 ceil, .int .i64 sec, .int .i64 nano] 27 (0, 0)) from (hb.block (w.heap.size) lL).trans XL.out)
  have lL2 : w.heap.size < W5.heap.size := by omega
  have mA0_L : w.heap.size < U4.heap.size := lL
  clear XL lL
  have XL := YL
  have lL := lL2
  clear YL lL2
  have YN := Lib.hid (show W5.heap[w.heap.size + 1]? = some (.cells #[.int .i64 g, .int .i64 b, .int .u64 c, .int .u64 at1, .int .i64 ss, .int .i64 sn] 37 (0, 0)) from (hb.block (w.heap.size + 1) lN).trans XN.out)
  have lN2 : w.heap.size + 1 < W5.heap.size := by omega
  have mA0_N : w.heap.size + 1 < U4.heap.size := lN
  clear XN lN
  have XN := YN
  have lN := lN2
  clear YN lN2
  have YR := Lib.hid (show W5.heap[W3.heap.size]? = some (.cells #[.slice (some ⟨gr, 0, none⟩) key.length cr, .int .i64 side, .int .i64 cur, .int .i64 next, .int .u64 send, .int .u64 ceil, .int .i64 sec, .int .i64 nano] 27 (0, 0)) from (hb.block (W3.heap.size) lR).trans XR.out)
  have lR2 : W3.heap.size < W5.heap.size := by omega
  have mA0_R : W3.heap.size < U4.heap.size := lR
  clear XR lR
  have XR := YR
  have lR := lR2
  clear YR lR2
  have N0 := Own.below O0 hb O0.lt
  clear O0
  have O0 := N0
  clear N0
  clear hb hz
  have xL := XL.out
  have qL_0 : W5.cell? ⟨w.heap.size, 0, none⟩ = some (.slice ao key.length cap) := cell_of_row W5 (w.heap.size) 0 _ _ _ xL
  have qL_1 : W5.cell? ⟨w.heap.size, 1, none⟩ = some (.int .i64 side) := cell_of_row W5 (w.heap.size) 1 _ _ _ xL
  have qL_2 : W5.cell? ⟨w.heap.size, 2, none⟩ = some (.int .i64 cur) := cell_of_row W5 (w.heap.size) 2 _ _ _ xL
  have qL_3 : W5.cell? ⟨w.heap.size, 3, none⟩ = some (.int .i64 next) := cell_of_row W5 (w.heap.size) 3 _ _ _ xL
  have qL_4 : W5.cell? ⟨w.heap.size, 4, none⟩ = some (.int .u64 send) := cell_of_row W5 (w.heap.size) 4 _ _ _ xL
  have qL_5 : W5.cell? ⟨w.heap.size, 5, none⟩ = some (.int .u64 ceil) := cell_of_row W5 (w.heap.size) 5 _ _ _ xL
  have qL_6 : W5.cell? ⟨w.heap.size, 6, none⟩ = some (.int .i64 sec) := cell_of_row W5 (w.heap.size) 6 _ _ _ xL
  have qL_7 : W5.cell? ⟨w.heap.size, 7, none⟩ = some (.int .i64 nano) := cell_of_row W5 (w.heap.size) 7 _ _ _ xL
  have qL_f (i : Nat) : W5.frozen? ⟨w.heap.size, i, none⟩ = false := frozen_of_row W5 (w.heap.size) i _ _ xL
  clear xL
  go_wp2_with fail
  generalize hU : W5.alloc (.cells #[.slice A0 k0.length cA0, .int .i64 s0, .int .i64 c0, .int .i64 n0, .int .u64 e0, .int .u64 f0, .int .i64 x0, .int .i64 y0] 27 (0, 0)) = U6
  have HB2 := Lib.hid (show Below w.heap.size w U6 by rw [← hU]; exact below_push HB.out)
  clear HB
  have HB := HB2
  clear HB2
  clear qL_0 qL_1 qL_2 qL_3 qL_4 qL_5 qL_6 qL_7 qL_f
  have YL := Lib.hid (show U6.heap[w.heap.size]? = some (.cells #[.slice ao key.length cap, .int .i64 side, .int .i64 cur, .int .i64 next, .int .u64 send, .int .u64 ceil, .int .i64 sec, .int .i64 nano] 27 (0, 0)) by rw [← hU]; exact (alloc_old _ _ _ lL).trans XL.out)
  have pL_a : w.heap.size < W5.heap.size := lL
  have lL2 : w.heap.size < U6.heap.size := by rw [← hU]; simp only [alloc_size]; omega
  clear XL lL
  have XL := YL
  have lL := lL2
  clear YL lL2
  have YN := Lib.hid (show U6.heap[w.heap.size + 1]? = some (.cells #[.int .i64 g, .int .i64 b, .int .u64 c, .int .u64 at1, .int .i64 ss, .int .i64 sn] 37 (0, 0)) by rw [← hU]; exact (alloc_old _ _ _ lN).trans XN.out)
  have pN_a : w.heap.size + 1 < W5.heap.size := lN
  have lN2 : w.heap.size + 1 < U6.heap.size := by rw [← hU]; simp only [alloc_size]; omega
  clear XN lN
  have XN := YN
  have lN := lN2
  clear YN lN2
  have YR := Lib.hid (show U6.heap[W3.heap.size]? = some (.cells #[.slice (some ⟨gr, 0, none⟩) key.length cr, .int .i64 side, .int .i64 cur, .int .i64 next, .int .u64 send, .int .u64 ceil, .int .i64 sec, .int .i64 nano] 27 (0, 0)) by rw [← hU]; exact (alloc_old _ _ _ lR).trans XR.out)
  have pR_a : W3.heap.size < W5.heap.size := lR
  have lR2 : W3.heap.size < U6.heap.size := by rw [← hU]; simp only [alloc_size]; omega
  clear XR lR
  have XR := YR
  have lR := lR2
  clear YR lR2
  have Xa := Lib.hid (show U6.heap[W5.heap.size]? = some (.cells #[.slice A0 k0.length cA0, .int .i64 s0, .int .i64 c0, .int .i64 n0, .int .u64 e0, .int .u64 f0, .int .i64 x0, .int .i64 y0] 27 (0, 0)) by rw [← hU]; exact heap_alloc_new _ _)
  have la : W5.heap.size < U6.heap.size := by rw [← hU]; simp only [alloc_size]; omega
  have NA0 := Mine.below MA0 (fresh1 W5 (.cells #[.slice A0 k0.length cA0, .int .i64 s0, .int .i64 c0, .int .i64 n0, .int .u64 e0, .int .u64 f0, .int .i64 x0, .int .i64 y0] 27 (0, 0)))
  rw [hU] at NA0
  clear MA0
  have MA0 := NA0
  clear NA0
  have o0_a : gr < W5.heap.size := O0.lt
  have N0 := Own.alloc O0 (.cells #[.slice A0 k0.length cA0, .int .i64 s0, .int .i64 c0, .int .i64 n0, .int .u64 e0, .int .u64 f0, .int .i64 x0, .int .i64 y0] 27 (0, 0))
  rw [hU] at N0
  clear O0
  have O0 := N0
  clear N0
  clear hU
  refine (refAgain ⟨key, side, cur, next, send, ceil, sec, nano⟩ ao cap _ HF.out (hr.on HB.out)).mono ?_
  rintro e W7 ⟨B0, cB0, he, Mx, hb⟩
  rw [HN0.out] at he Mx
  rw [HE.out] at he
  obtain rfl : e = .returned (.tuple #[(.agg #[.slice B0 k0.length cB0, .int .i64 s0, .int .i64 c0, .int .i64 n0, .int .u64 e0, .int .u64 f0, .int .i64 x0, .int .i64 y0]), .int .i64 ne]) := he
  have MB0 : Mine _ _ _ B0 cB0 k0 := Mx
  clear Mx
  have hz := hb.size
  have HB2 := Lib.hid (HB.out.trans (hb.mono HB.out.size))
  clear HB
  have HB := HB2
  clear HB2
  have YL := Lib.hid (show W7.heap[w.heap.size]? = some (.cells #[.slice ao key.length cap, .int .i64 side, .int .i64 cur, .int .i64 next, .int .u64 send, .int .u64 ceil, .int .i64 sec, .int .i64 nano] 27 (0, 0)) from (hb.block (w.heap.size) lL).trans XL.out)
  have lL2 : w.heap.size < W7.heap.size := by omega
  have mB0_L : w.heap.size < U6.heap.size := lL
  clear XL lL
  have XL := YL
  have lL := lL2
  clear YL lL2
  have YN := Lib.hid (show W7.heap[w.heap.size + 1]? = some (.cells #[.int .i64 g, .int .i64 b, .int .u64 c, .int .u64 at1, .int .i64 ss, .int .i64 sn] 37 (0, 0)) from (hb.block (w.heap.size + 1) lN).trans XN.out)
  have lN2 : w.heap.size + 1 < W7.heap.size := by omega
  have mB0_N : w.heap.size + 1 < U6.heap.size := lN
  clear XN lN
  have XN := YN
  have lN := lN2
  clear YN lN2
  have YR := Lib.hid (show W7.heap[W3.heap.size]? = some (.cells #[.slice (some ⟨gr, 0, none⟩) key.length cr, .int .i64 side, .int .i64 cur, .int .i64 next, .int .u64 send, .int .u64 ceil, .int .i64 sec, .int .i64 nano] 27 (0, 0)) from (hb.block (W3.heap.size) lR).trans XR.out)
  have lR2 : W3.heap.size < W7.heap.size := by omega
  have mB0_R : W3.heap.size < U6.heap.size := lR
  clear XR lR
  have XR := YR
  have lR := lR2
  clear YR lR2
  have Ya := Lib.hid (show W7.heap[W5.heap.size]? = some (.cells #[.slice A0 k0.length cA0, .int .i64 s0, .int .i64 c0, .int .i64 n0, .int .u64 e0, .int .u64 f0, .int .i64 x0, .int .i64 y0] 27 (0, 0)) from (hb.block (W5.heap.size) la).trans Xa.out)
  have la2 : W5.heap.size < W7.heap.size := by omega
  have mB0_a : W5.heap.size < U6.heap.size := la
  clear Xa la
  have Xa := Ya
  have la := la2
  clear Ya la2
  have NA0 := Mine.below MA0 hb
  clear MA0
  have MA0 := NA0
  clear NA0
  have N0 := Own.below O0 hb O0.lt
  clear O0
  have O0 := N0
  clear N0
  clear hb hz
  have xa := Xa.out
  have qa_0 : W7.cell? ⟨W5.heap.size, 0, none⟩ = some (.slice A0 k0.length cA0) := cell_of_row W7 (W5.heap.size) 0 _ _ _ xa
  have qa_1 : W7.cell? ⟨W5.heap.size, 1, none⟩ = some (.int .i64 s0) := cell_of_row W7 (W5.heap.size) 1 _ _ _ xa
  have qa_2 : W7.cell? ⟨W5.heap.size, 2, none⟩ = some (.int .i64 c0) := cell_of_row W7 (W5.heap.size) 2 _ _ _ xa
  have qa_3 : W7.cell? ⟨W5.heap.size, 3, none⟩ = some (.int .i64 n0) := cell_of_row W7 (W5.heap.size) 3 _ _ _ xa
  have qa_4 : W7.cell? ⟨W5.heap.size, 4, none⟩ = some (.int .u64 e0) := cell_of_row W7 (W5.heap.size) 4 _ _ _ xa
  have qa_5 : W7.cell? ⟨W5.heap.size, 5, none⟩ = some (.int .u64 f0) := cell_of_row W7 (W5.heap.size) 5 _ _ _ xa
  have qa_6 : W7.cell? ⟨W5.heap.size, 6, none⟩ = some (.int .i64 x0) := cell_of_row W7 (W5.heap.size) 6 _ _ _ xa
  have qa_7 : W7.cell? ⟨W5.heap.size, 7, none⟩ = some (.int .i64 y0) := cell_of_row W7 (W5.heap.size) 7 _ _ _ xa
  have qa_f (i : Nat) : W7.frozen? ⟨W5.heap.size, i, none⟩ = false := frozen_of_row W7 (W5.heap.size) i _ _ xa
  clear xa
  go_wp2_with fail
  generalize hU : W7.alloc (.cells #[.slice B0 k0.length cB0, .int .i64 s0, .int .i64 c0, .int .i64 n0, .int .u64 e0, .int .u64 f0, .int .i64 x0, .int .i64 y0] 27 (0, 0)) = U8
  have HB2 := Lib.hid (show Below w.heap.size w U8 by rw [← hU]; exact below_push HB.out)
  clear HB
  have HB := HB2
  clear HB2
  clear qa_0 qa_1 qa_2 qa_3 qa_4 qa_5 qa_6 qa_7 qa_f
  have YL := Lib.hid (show U8.heap[w.heap.size]? = some (.cells #[.slice ao key.length cap, .int .i64 side, .int .i64 cur, .int .i64 next, .int .u64 send, .int .u64 ceil, .int .i64 sec, .int .i64 nano] 27 (0, 0)) by rw [← hU]; exact (alloc_old _ _ _ lL).trans XL.out)
  have pL_b : w.heap.size < W7.heap.size := lL
  have lL2 : w.heap.size < U8.heap.size := by rw [← hU]; simp only [alloc_size]; omega
  clear XL lL
  have XL := YL
  have lL := lL2
  clear YL lL2
  have YN := Lib.hid (show U8.heap[w.heap.size + 1]? = some (.cells #[.int .i64 g, .int .i64 b, .int .u64 c, .int .u64 at1, .int .i64 ss, .int .i64 sn] 37 (0, 0)) by rw [← hU]; exact (alloc_old _ _ _ lN).trans XN.out)
  have pN_b : w.heap.size + 1 < W7.heap.size := lN
  have lN2 : w.heap.size + 1 < U8.heap.size := by rw [← hU]; simp only [alloc_size]; omega
  clear XN lN
  have XN := YN
  have lN := lN2
  clear YN lN2
  have YR := Lib.hid (show U8.heap[W3.heap.size]? = some (.cells #[.slice (some ⟨gr, 0, none⟩) key.length cr, .int .i64 side, .int .i64 cur, .int .i64 next, .int .u64 send, .int .u64 ceil, .int .i64 sec, .int .i64 nano] 27 (0, 0)) by rw [← hU]; exact (alloc_old _ _ _ lR).trans XR.out)
  have pR_b : W3.heap.size < W7.heap.size := lR
  have lR2 : W3.heap.size < U8.heap.size := by rw [← hU]; simp only [alloc_size]; omega
  clear XR lR
  have XR := YR
  have lR := lR2
  clear YR lR2
  have Ya := Lib.hid (show U8.heap[W5.heap.size]? = some (.cells #[.slice A0 k0.length cA0, .int .i64 s0, .int .i64 c0, .int .i64 n0, .int .u64 e0, .int .u64 f0, .int .i64 x0, .int .i64 y0] 27 (0, 0)) by rw [← hU]; exact (alloc_old _ _ _ la).trans Xa.out)
  have pa_b : W5.heap.size < W7.heap.size := la
  have la2 : W5.heap.size < U8.heap.size := by rw [← hU]; simp only [alloc_size]; omega
  clear Xa la
  have Xa := Ya
  have la := la2
  clear Ya la2
  have Xb := Lib.hid (show U8.heap[W7.heap.size]? = some (.cells #[.slice B0 k0.length cB0, .int .i64 s0, .int .i64 c0, .int .i64 n0, .int .u64 e0, .int .u64 f0, .int .i64 x0, .int .i64 y0] 27 (0, 0)) by rw [← hU]; exact heap_alloc_new _ _)
  have lb : W7.heap.size < U8.heap.size := by rw [← hU]; simp only [alloc_size]; omega
  have NA0 := Mine.below MA0 (fresh1 W7 (.cells #[.slice B0 k0.length cB0, .int .i64 s0, .int .i64 c0, .int .i64 n0, .int .u64 e0, .int .u64 f0, .int .i64 x0, .int .i64 y0] 27 (0, 0)))
  rw [hU] at NA0
  clear MA0
  have MA0 := NA0
  clear NA0
  have NB0 := Mine.below MB0 (fresh1 W7 (.cells #[.slice B0 k0.length cB0, .int .i64 s0, .int .i64 c0, .int .i64 n0, .int .u64 e0, .int .u64 f0, .int .i64 x0, .int .i64 y0] 27 (0, 0)))
  rw [hU] at NB0
  clear MB0
  have MB0 := NB0
  clear NB0
  have o0_b : gr < W7.heap.size := O0.lt
  have N0 := Own.alloc O0 (.cells #[.slice B0 k0.length cB0, .int .i64 s0, .int .i64 c0, .int .i64 n0, .int .u64 e0, .int .u64 f0, .int .i64 x0, .int .i64 y0] 27 (0, 0))
  rw [hU] at N0
  clear O0
  have O0 := N0
  clear N0
  clear hU
  refine (sameLane ⟨k0, s0, c0, n0, e0, f0, x0, y0⟩ ⟨k0, s0, c0, n0, e0, f0, x0, y0⟩ A0 B0 cA0 cB0 _ (by show k0.length ≤ _; omega) (by show k0.length ≤ _; omega) MA0.rd MB0.rd).mono ?_
  rintro e W9 ⟨he, hb⟩
  rw [sameL_refl] at he
  subst he
  have hz := hb.size
  have HB2 := Lib.hid (HB.out.trans (hb.mono HB.out.size))
  clear HB
  have HB := HB2
  clear HB2
  have YL := Lib.hid (show W9.heap[w.heap.size]? = some (.cells #[.slice ao key.length cap, .int .i64 side, .int .i64 cur, .int .i64 next, .int .u64 send, .int .u64 ceil, .int .i64 sec, .int .i64 nano] 27 (0, 0)) from (hb.block (w.heap.size) lL).trans XL.out)
  have lL2 : w.heap.size < W9.heap.size := by omega
  clear XL lL
  have XL := YL
  have lL := lL2
  clear YL lL2
  have YN := Lib.hid (show W9.heap[w.heap.size + 1]? = some (.cells #[.int .i64 g, .int .i64 b, .int .u64 c, .int .u64 at1, .int .i64 ss, .int .i64 sn] 37 (0, 0)) from (hb.block (w.heap.size + 1) lN).trans XN.out)
  have lN2 : w.heap.size + 1 < W9.heap.size := by omega
  clear XN lN
  have XN := YN
  have lN := lN2
  clear YN lN2
  have YR := Lib.hid (show W9.heap[W3.heap.size]? = some (.cells #[.slice (some ⟨gr, 0, none⟩) key.length cr, .int .i64 side, .int .i64 cur, .int .i64 next, .int .u64 send, .int .u64 ceil, .int .i64 sec, .int .i64 nano] 27 (0, 0)) from (hb.block (W3.heap.size) lR).trans XR.out)
  have lR2 : W3.heap.size < W9.heap.size := by omega
  clear XR lR
  have XR := YR
  have lR := lR2
  clear YR lR2
  have Ya := Lib.hid (show W9.heap[W5.heap.size]? = some (.cells #[.slice A0 k0.length cA0, .int .i64 s0, .int .i64 c0, .int .i64 n0, .int .u64 e0, .int .u64 f0, .int .i64 x0, .int .i64 y0] 27 (0, 0)) from (hb.block (W5.heap.size) la).trans Xa.out)
  have la2 : W5.heap.size < W9.heap.size := by omega
  clear Xa la
  have Xa := Ya
  have la := la2
  clear Ya la2
  have Yb := Lib.hid (show W9.heap[W7.heap.size]? = some (.cells #[.slice B0 k0.length cB0, .int .i64 s0, .int .i64 c0, .int .i64 n0, .int .u64 e0, .int .u64 f0, .int .i64 x0, .int .i64 y0] 27 (0, 0)) from (hb.block (W7.heap.size) lb).trans Xb.out)
  have lb2 : W7.heap.size < W9.heap.size := by omega
  clear Xb lb
  have Xb := Yb
  have lb := lb2
  clear Yb lb2
  have NA0 := Mine.below MA0 hb
  clear MA0
  have MA0 := NA0
  clear NA0
  have NB0 := Mine.below MB0 hb
  clear MB0
  have MB0 := NB0
  clear NB0
  have N0 := Own.below O0 hb O0.lt
  clear O0
  have O0 := N0
  clear N0
  clear hb hz
  clear mA0_L
  clear mA0_N
  clear mA0_R
  clear MA0
  clear mB0_L
  clear mB0_N
  clear mB0_R
  clear mB0_a
  clear MB0
  have xR := XR.out
  have qR_0 : W9.cell? ⟨W3.heap.size, 0, none⟩ = some (.slice (some ⟨gr, 0, none⟩) key.length cr) := cell_of_row W9 (W3.heap.size) 0 _ _ _ xR
  have qR_1 : W9.cell? ⟨W3.heap.size, 1, none⟩ = some (.int .i64 side) := cell_of_row W9 (W3.heap.size) 1 _ _ _ xR
  have qR_2 : W9.cell? ⟨W3.heap.size, 2, none⟩ = some (.int .i64 cur) := cell_of_row W9 (W3.heap.size) 2 _ _ _ xR
  have qR_3 : W9.cell? ⟨W3.heap.size, 3, none⟩ = some (.int .i64 next) := cell_of_row W9 (W3.heap.size) 3 _ _ _ xR
  have qR_4 : W9.cell? ⟨W3.heap.size, 4, none⟩ = some (.int .u64 send) := cell_of_row W9 (W3.heap.size) 4 _ _ _ xR
  have qR_5 : W9.cell? ⟨W3.heap.size, 5, none⟩ = some (.int .u64 ceil) := cell_of_row W9 (W3.heap.size) 5 _ _ _ xR
  have qR_6 : W9.cell? ⟨W3.heap.size, 6, none⟩ = some (.int .i64 sec) := cell_of_row W9 (W3.heap.size) 6 _ _ _ xR
  have qR_7 : W9.cell? ⟨W3.heap.size, 7, none⟩ = some (.int .i64 nano) := cell_of_row W9 (W3.heap.size) 7 _ _ _ xR
  have qR_f (i : Nat) : W9.frozen? ⟨W3.heap.size, i, none⟩ = false := frozen_of_row W9 (W3.heap.size) i _ _ xR
  clear xR
  go_wp2_with fail
  clear qR_0 qR_1 qR_2 qR_3 qR_4 qR_5 qR_6 qR_7 qR_f
  refine (lanePropose ⟨key, side, cur, next, send, ceil, sec, nano⟩ (some ⟨gr, 0, none⟩) cr _ HF.out (by exact O0.pre.rd)).mono ?_
  rintro e W10 ⟨A1, cA1, he, Mx, hb⟩
  rw [HN1.out] at he Mx
  rw [HG.out, HE.out] at he
  obtain rfl : e = .returned (.tuple #[(.agg #[.slice A1 k1.length cA1, .int .i64 s1, .int .i64 c1, .int .i64 n1, .int .u64 e1, .int .u64 f1, .int .i64 x1, .int .i64 y1]), .int .i64 ng, .int .i64 ne]) := he
  have MA1 : Mine _ _ _ A1 cA1 k1 := Mx
  clear Mx
  have hz := hb.size
  have HB2 := Lib.hid (HB.out.trans (hb.mono HB.out.size))
  clear HB
  have HB := HB2
  clear HB2
  have YL := Lib.hid (show W10.heap[w.heap.size]? = some (.cells #[.slice ao key.length cap, .int .i64 side, .int .i64 cur, .int .i64 next, .int .u64 send, .int .u64 ceil, .int .i64 sec, .int .i64 nano] 27 (0, 0)) from (hb.block (w.heap.size) lL).trans XL.out)
  have lL2 : w.heap.size < W10.heap.size := by omega
  have mA1_L : w.heap.size < W9.heap.size := lL
  clear XL lL
  have XL := YL
  have lL := lL2
  clear YL lL2
  have YN := Lib.hid (show W10.heap[w.heap.size + 1]? = some (.cells #[.int .i64 g, .int .i64 b, .int .u64 c, .int .u64 at1, .int .i64 ss, .int .i64 sn] 37 (0, 0)) from (hb.block (w.heap.size + 1) lN).trans XN.out)
  have lN2 : w.heap.size + 1 < W10.heap.size := by omega
  have mA1_N : w.heap.size + 1 < W9.heap.size := lN
  clear XN lN
  have XN := YN
  have lN := lN2
  clear YN lN2
  have YR := Lib.hid (show W10.heap[W3.heap.size]? = some (.cells #[.slice (some ⟨gr, 0, none⟩) key.length cr, .int .i64 side, .int .i64 cur, .int .i64 next, .int .u64 send, .int .u64 ceil, .int .i64 sec, .int .i64 nano] 27 (0, 0)) from (hb.block (W3.heap.size) lR).trans XR.out)
  have lR2 : W3.heap.size < W10.heap.size := by omega
  have mA1_R : W3.heap.size < W9.heap.size := lR
  clear XR lR
  have XR := YR
  have lR := lR2
  clear YR lR2
  have Ya := Lib.hid (show W10.heap[W5.heap.size]? = some (.cells #[.slice A0 k0.length cA0, .int .i64 s0, .int .i64 c0, .int .i64 n0, .int .u64 e0, .int .u64 f0, .int .i64 x0, .int .i64 y0] 27 (0, 0)) from (hb.block (W5.heap.size) la).trans Xa.out)
  have la2 : W5.heap.size < W10.heap.size := by omega
  have mA1_a : W5.heap.size < W9.heap.size := la
  clear Xa la
  have Xa := Ya
  have la := la2
  clear Ya la2
  have Yb := Lib.hid (show W10.heap[W7.heap.size]? = some (.cells #[.slice B0 k0.length cB0, .int .i64 s0, .int .i64 c0, .int .i64 n0, .int .u64 e0, .int .u64 f0, .int .i64 x0, .int .i64 y0] 27 (0, 0)) from (hb.block (W7.heap.size) lb).trans Xb.out)
  have lb2 : W7.heap.size < W10.heap.size := by omega
  have mA1_b : W7.heap.size < W9.heap.size := lb
  clear Xb lb
  have Xb := Yb
  have lb := lb2
  clear Yb lb2
  have N0 := Own.below O0 hb O0.lt
  clear O0
  have O0 := N0
  clear N0
  clear hb hz
  have xL := XL.out
  have qL_0 : W10.cell? ⟨w.heap.size, 0, none⟩ = some (.slice ao key.length cap) := cell_of_row W10 (w.heap.size) 0 _ _ _ xL
  have qL_1 : W10.cell? ⟨w.heap.size, 1, none⟩ = some (.int .i64 side) := cell_of_row W10 (w.heap.size) 1 _ _ _ xL
  have qL_2 : W10.cell? ⟨w.heap.size, 2, none⟩ = some (.int .i64 cur) := cell_of_row W10 (w.heap.size) 2 _ _ _ xL
  have qL_3 : W10.cell? ⟨w.heap.size, 3, none⟩ = some (.int .i64 next) := cell_of_row W10 (w.heap.size) 3 _ _ _ xL
  have qL_4 : W10.cell? ⟨w.heap.size, 4, none⟩ = some (.int .u64 send) := cell_of_row W10 (w.heap.size) 4 _ _ _ xL
  have qL_5 : W10.cell? ⟨w.heap.size, 5, none⟩ = some (.int .u64 ceil) := cell_of_row W10 (w.heap.size) 5 _ _ _ xL
  have qL_6 : W10.cell? ⟨w.heap.size, 6, none⟩ = some (.int .i64 sec) := cell_of_row W10 (w.heap.size) 6 _ _ _ xL
  have qL_7 : W10.cell? ⟨w.heap.size, 7, none⟩ = some (.int .i64 nano) := cell_of_row W10 (w.heap.size) 7 _ _ _ xL
  have qL_f (i : Nat) : W10.frozen? ⟨w.heap.size, i, none⟩ = false := frozen_of_row W10 (w.heap.size) i _ _ xL
  clear xL
  go_wp2_with fail
  generalize hU : W10.alloc (.cells #[.slice A1 k1.length cA1, .int .i64 s1, .int .i64 c1, .int .i64 n1, .int .u64 e1, .int .u64 f1, .int .i64 x1, .int .i64 y1] 27 (0, 0)) = U11
  have HB2 := Lib.hid (show Below w.heap.size w U11 by rw [← hU]; exact below_push HB.out)
  clear HB
  have HB := HB2
  clear HB2
  clear qL_0 qL_1 qL_2 qL_3 qL_4 qL_5 qL_6 qL_7 qL_f
  have YL := Lib.hid (show U11.heap[w.heap.size]? = some (.cells #[.slice ao key.length cap, .int .i64 side, .int .i64 cur, .int .i64 next, .int .u64 send, .int .u64 ceil, .int .i64 sec, .int .i64 nano] 27 (0, 0)) by rw [← hU]; exact (alloc_old _ _ _ lL).trans XL.out)
  have pL_c : w.heap.size < W10.heap.size := lL
  have lL2 : w.heap.size < U11.heap.size := by rw [← hU]; simp only [alloc_size]; omega
  clear XL lL
  have XL := YL
  have lL := lL2
  clear YL lL2
  have YN := Lib.hid (show U11.heap[w.heap.size + 1]? = some (.cells #[.int .i64 g, .int .i64 b, .int .u64 c, .int .u64 at1, .int .i64 ss, .int .i64 sn] 37 (0, 0)) by rw [← hU]; exact (alloc_old _ _ _ lN).trans XN.out)
  have pN_c : w.heap.size + 1 < W10.heap.size := lN
  have lN2 : w.heap.size + 1 < U11.heap.size := by rw [← hU]; simp only [alloc_size]; omega
  clear XN lN
  have XN := YN
  have lN := lN2
  clear YN lN2
  have YR := Lib.hid (show U11.heap[W3.heap.size]? = some (.cells #[.slice (some ⟨gr, 0, none⟩) key.length cr, .int .i64 side, .int .i64 cur, .int .i64 next, .int .u64 send, .int .u64 ceil, .int .i64 sec, .int .i64 nano] 27 (0, 0)) by rw [← hU]; exact (alloc_old _ _ _ lR).trans XR.out)
  have pR_c : W3.heap.size < W10.heap.size := lR
  have lR2 : W3.heap.size < U11.heap.size := by rw [← hU]; simp only [alloc_size]; omega
  clear XR lR
  have XR := YR
  have lR := lR2
  clear YR lR2
  have Ya := Lib.hid (show U11.heap[W5.heap.size]? = some (.cells #[.slice A0 k0.length cA0, .int .i64 s0, .int .i64 c0, .int .i64 n0, .int .u64 e0, .int .u64 f0, .int .i64 x0, .int .i64 y0] 27 (0, 0)) by rw [← hU]; exact (alloc_old _ _ _ la).trans Xa.out)
  have pa_c : W5.heap.size < W10.heap.size := la
  have la2 : W5.heap.size < U11.heap.size := by rw [← hU]; simp only [alloc_size]; omega
  clear Xa la
  have Xa := Ya
  have la := la2
  clear Ya la2
  have Yb := Lib.hid (show U11.heap[W7.heap.size]? = some (.cells #[.slice B0 k0.length cB0, .int .i64 s0, .int .i64 c0, .int .i64 n0, .int .u64 e0, .int .u64 f0, .int .i64 x0, .int .i64 y0] 27 (0, 0)) by rw [← hU]; exact (alloc_old _ _ _ lb).trans Xb.out)
  have pb_c : W7.heap.size < W10.heap.size := lb
  have lb2 : W7.heap.size < U11.heap.size := by rw [← hU]; simp only [alloc_size]; omega
  clear Xb lb
  have Xb := Yb
  have lb := lb2
  clear Yb lb2
  have Xc := Lib.hid (show U11.heap[W10.heap.size]? = some (.cells #[.slice A1 k1.length cA1, .int .i64 s1, .int .i64 c1, .int .i64 n1, .int .u64 e1, .int .u64 f1, .int .i64 x1, .int .i64 y1] 27 (0, 0)) by rw [← hU]; exact heap_alloc_new _ _)
  have lc : W10.heap.size < U11.heap.size := by rw [← hU]; simp only [alloc_size]; omega
  have NA1 := Mine.below MA1 (fresh1 W10 (.cells #[.slice A1 k1.length cA1, .int .i64 s1, .int .i64 c1, .int .i64 n1, .int .u64 e1, .int .u64 f1, .int .i64 x1, .int .i64 y1] 27 (0, 0)))
  rw [hU] at NA1
  clear MA1
  have MA1 := NA1
  clear NA1
  have o0_c : gr < W10.heap.size := O0.lt
  have N0 := Own.alloc O0 (.cells #[.slice A1 k1.length cA1, .int .i64 s1, .int .i64 c1, .int .i64 n1, .int .u64 e1, .int .u64 f1, .int .i64 x1, .int .i64 y1] 27 (0, 0))
  rw [hU] at N0
  clear O0
  have O0 := N0
  clear N0
  clear hU
  refine (refPropose ⟨key, side, cur, next, send, ceil, sec, nano⟩ ao cap _ HF.out (hr.on HB.out)).mono ?_
  rintro e W12 ⟨B1, cB1, he, Mx, hb⟩
  rw [HN1.out] at he Mx
  rw [HG.out, HE.out] at he
  obtain rfl : e = .returned (.tuple #[(.agg #[.slice B1 k1.length cB1, .int .i64 s1, .int .i64 c1, .int .i64 n1, .int .u64 e1, .int .u64 f1, .int .i64 x1, .int .i64 y1]), .int .i64 ng, .int .i64 ne]) := he
  have MB1 : Mine _ _ _ B1 cB1 k1 := Mx
  clear Mx
  have hz := hb.size
  have HB2 := Lib.hid (HB.out.trans (hb.mono HB.out.size))
  clear HB
  have HB := HB2
  clear HB2
  have YL := Lib.hid (show W12.heap[w.heap.size]? = some (.cells #[.slice ao key.length cap, .int .i64 side, .int .i64 cur, .int .i64 next, .int .u64 send, .int .u64 ceil, .int .i64 sec, .int .i64 nano] 27 (0, 0)) from (hb.block (w.heap.size) lL).trans XL.out)
  have lL2 : w.heap.size < W12.heap.size := by omega
  have mB1_L : w.heap.size < U11.heap.size := lL
  clear XL lL
  have XL := YL
  have lL := lL2
  clear YL lL2
  have YN := Lib.hid (show W12.heap[w.heap.size + 1]? = some (.cells #[.int .i64 g, .int .i64 b, .int .u64 c, .int .u64 at1, .int .i64 ss, .int .i64 sn] 37 (0, 0)) from (hb.block (w.heap.size + 1) lN).trans XN.out)
  have lN2 : w.heap.size + 1 < W12.heap.size := by omega
  have mB1_N : w.heap.size + 1 < U11.heap.size := lN
  clear XN lN
  have XN := YN
  have lN := lN2
  clear YN lN2
  have YR := Lib.hid (show W12.heap[W3.heap.size]? = some (.cells #[.slice (some ⟨gr, 0, none⟩) key.length cr, .int .i64 side, .int .i64 cur, .int .i64 next, .int .u64 send, .int .u64 ceil, .int .i64 sec, .int .i64 nano] 27 (0, 0)) from (hb.block (W3.heap.size) lR).trans XR.out)
  have lR2 : W3.heap.size < W12.heap.size := by omega
  have mB1_R : W3.heap.size < U11.heap.size := lR
  clear XR lR
  have XR := YR
  have lR := lR2
  clear YR lR2
  have Ya := Lib.hid (show W12.heap[W5.heap.size]? = some (.cells #[.slice A0 k0.length cA0, .int .i64 s0, .int .i64 c0, .int .i64 n0, .int .u64 e0, .int .u64 f0, .int .i64 x0, .int .i64 y0] 27 (0, 0)) from (hb.block (W5.heap.size) la).trans Xa.out)
  have la2 : W5.heap.size < W12.heap.size := by omega
  have mB1_a : W5.heap.size < U11.heap.size := la
  clear Xa la
  have Xa := Ya
  have la := la2
  clear Ya la2
  have Yb := Lib.hid (show W12.heap[W7.heap.size]? = some (.cells #[.slice B0 k0.length cB0, .int .i64 s0, .int .i64 c0, .int .i64 n0, .int .u64 e0, .int .u64 f0, .int .i64 x0, .int .i64 y0] 27 (0, 0)) from (hb.block (W7.heap.size) lb).trans Xb.out)
  have lb2 : W7.heap.size < W12.heap.size := by omega
  have mB1_b : W7.heap.size < U11.heap.size := lb
  clear Xb lb
  have Xb := Yb
  have lb := lb2
  clear Yb lb2
  have Yc := Lib.hid (show W12.heap[W10.heap.size]? = some (.cells #[.slice A1 k1.length cA1, .int .i64 s1, .int .i64 c1, .int .i64 n1, .int .u64 e1, .int .u64 f1, .int .i64 x1, .int .i64 y1] 27 (0, 0)) from (hb.block (W10.heap.size) lc).trans Xc.out)
  have lc2 : W10.heap.size < W12.heap.size := by omega
  have mB1_c : W10.heap.size < U11.heap.size := lc
  clear Xc lc
  have Xc := Yc
  have lc := lc2
  clear Yc lc2
  have NA1 := Mine.below MA1 hb
  clear MA1
  have MA1 := NA1
  clear NA1
  have N0 := Own.below O0 hb O0.lt
  clear O0
  have O0 := N0
  clear N0
  clear hb hz
  have xc := Xc.out
  have qc_0 : W12.cell? ⟨W10.heap.size, 0, none⟩ = some (.slice A1 k1.length cA1) := cell_of_row W12 (W10.heap.size) 0 _ _ _ xc
  have qc_1 : W12.cell? ⟨W10.heap.size, 1, none⟩ = some (.int .i64 s1) := cell_of_row W12 (W10.heap.size) 1 _ _ _ xc
  have qc_2 : W12.cell? ⟨W10.heap.size, 2, none⟩ = some (.int .i64 c1) := cell_of_row W12 (W10.heap.size) 2 _ _ _ xc
  have qc_3 : W12.cell? ⟨W10.heap.size, 3, none⟩ = some (.int .i64 n1) := cell_of_row W12 (W10.heap.size) 3 _ _ _ xc
  have qc_4 : W12.cell? ⟨W10.heap.size, 4, none⟩ = some (.int .u64 e1) := cell_of_row W12 (W10.heap.size) 4 _ _ _ xc
  have qc_5 : W12.cell? ⟨W10.heap.size, 5, none⟩ = some (.int .u64 f1) := cell_of_row W12 (W10.heap.size) 5 _ _ _ xc
  have qc_6 : W12.cell? ⟨W10.heap.size, 6, none⟩ = some (.int .i64 x1) := cell_of_row W12 (W10.heap.size) 6 _ _ _ xc
  have qc_7 : W12.cell? ⟨W10.heap.size, 7, none⟩ = some (.int .i64 y1) := cell_of_row W12 (W10.heap.size) 7 _ _ _ xc
  have qc_f (i : Nat) : W12.frozen? ⟨W10.heap.size, i, none⟩ = false := frozen_of_row W12 (W10.heap.size) i _ _ xc
  clear xc
  go_wp2_with fail
  generalize hU : W12.alloc (.cells #[.slice B1 k1.length cB1, .int .i64 s1, .int .i64 c1, .int .i64 n1, .int .u64 e1, .int .u64 f1, .int .i64 x1, .int .i64 y1] 27 (0, 0)) = U13
  have HB2 := Lib.hid (show Below w.heap.size w U13 by rw [← hU]; exact below_push HB.out)
  clear HB
  have HB := HB2
  clear HB2
  clear qc_0 qc_1 qc_2 qc_3 qc_4 qc_5 qc_6 qc_7 qc_f
  have YL := Lib.hid (show U13.heap[w.heap.size]? = some (.cells #[.slice ao key.length cap, .int .i64 side, .int .i64 cur, .int .i64 next, .int .u64 send, .int .u64 ceil, .int .i64 sec, .int .i64 nano] 27 (0, 0)) by rw [← hU]; exact (alloc_old _ _ _ lL).trans XL.out)
  have pL_d : w.heap.size < W12.heap.size := lL
  have lL2 : w.heap.size < U13.heap.size := by rw [← hU]; simp only [alloc_size]; omega
  clear XL lL
  have XL := YL
  have lL := lL2
  clear YL lL2
  have YN := Lib.hid (show U13.heap[w.heap.size + 1]? = some (.cells #[.int .i64 g, .int .i64 b, .int .u64 c, .int .u64 at1, .int .i64 ss, .int .i64 sn] 37 (0, 0)) by rw [← hU]; exact (alloc_old _ _ _ lN).trans XN.out)
  have pN_d : w.heap.size + 1 < W12.heap.size := lN
  have lN2 : w.heap.size + 1 < U13.heap.size := by rw [← hU]; simp only [alloc_size]; omega
  clear XN lN
  have XN := YN
  have lN := lN2
  clear YN lN2
  have YR := Lib.hid (show U13.heap[W3.heap.size]? = some (.cells #[.slice (some ⟨gr, 0, none⟩) key.length cr, .int .i64 side, .int .i64 cur, .int .i64 next, .int .u64 send, .int .u64 ceil, .int .i64 sec, .int .i64 nano] 27 (0, 0)) by rw [← hU]; exact (alloc_old _ _ _ lR).trans XR.out)
  have pR_d : W3.heap.size < W12.heap.size := lR
  have lR2 : W3.heap.size < U13.heap.size := by rw [← hU]; simp only [alloc_size]; omega
  clear XR lR
  have XR := YR
  have lR := lR2
  clear YR lR2
  have Ya := Lib.hid (show U13.heap[W5.heap.size]? = some (.cells #[.slice A0 k0.length cA0, .int .i64 s0, .int .i64 c0, .int .i64 n0, .int .u64 e0, .int .u64 f0, .int .i64 x0, .int .i64 y0] 27 (0, 0)) by rw [← hU]; exact (alloc_old _ _ _ la).trans Xa.out)
  have pa_d : W5.heap.size < W12.heap.size := la
  have la2 : W5.heap.size < U13.heap.size := by rw [← hU]; simp only [alloc_size]; omega
  clear Xa la
  have Xa := Ya
  have la := la2
  clear Ya la2
  have Yb := Lib.hid (show U13.heap[W7.heap.size]? = some (.cells #[.slice B0 k0.length cB0, .int .i64 s0, .int .i64 c0, .int .i64 n0, .int .u64 e0, .int .u64 f0, .int .i64 x0, .int .i64 y0] 27 (0, 0)) by rw [← hU]; exact (alloc_old _ _ _ lb).trans Xb.out)
  have pb_d : W7.heap.size < W12.heap.size := lb
  have lb2 : W7.heap.size < U13.heap.size := by rw [← hU]; simp only [alloc_size]; omega
  clear Xb lb
  have Xb := Yb
  have lb := lb2
  clear Yb lb2
  have Yc := Lib.hid (show U13.heap[W10.heap.size]? = some (.cells #[.slice A1 k1.length cA1, .int .i64 s1, .int .i64 c1, .int .i64 n1, .int .u64 e1, .int .u64 f1, .int .i64 x1, .int .i64 y1] 27 (0, 0)) by rw [← hU]; exact (alloc_old _ _ _ lc).trans Xc.out)
  have pc_d : W10.heap.size < W12.heap.size := lc
  have lc2 : W10.heap.size < U13.heap.size := by rw [← hU]; simp only [alloc_size]; omega
  clear Xc lc
  have Xc := Yc
  have lc := lc2
  clear Yc lc2
  have Xd := Lib.hid (show U13.heap[W12.heap.size]? = some (.cells #[.slice B1 k1.length cB1, .int .i64 s1, .int .i64 c1, .int .i64 n1, .int .u64 e1, .int .u64 f1, .int .i64 x1, .int .i64 y1] 27 (0, 0)) by rw [← hU]; exact heap_alloc_new _ _)
  have ld : W12.heap.size < U13.heap.size := by rw [← hU]; simp only [alloc_size]; omega
  have NA1 := Mine.below MA1 (fresh1 W12 (.cells #[.slice B1 k1.length cB1, .int .i64 s1, .int .i64 c1, .int .i64 n1, .int .u64 e1, .int .u64 f1, .int .i64 x1, .int .i64 y1] 27 (0, 0)))
  rw [hU] at NA1
  clear MA1
  have MA1 := NA1
  clear NA1
  have NB1 := Mine.below MB1 (fresh1 W12 (.cells #[.slice B1 k1.length cB1, .int .i64 s1, .int .i64 c1, .int .i64 n1, .int .u64 e1, .int .u64 f1, .int .i64 x1, .int .i64 y1] 27 (0, 0)))
  rw [hU] at NB1
  clear MB1
  have MB1 := NB1
  clear NB1
  have o0_d : gr < W12.heap.size := O0.lt
  have N0 := Own.alloc O0 (.cells #[.slice B1 k1.length cB1, .int .i64 s1, .int .i64 c1, .int .i64 n1, .int .u64 e1, .int .u64 f1, .int .i64 x1, .int .i64 y1] 27 (0, 0))
  rw [hU] at N0
  clear O0
  have O0 := N0
  clear N0
  clear hU
  refine (sameLane ⟨k1, s1, c1, n1, e1, f1, x1, y1⟩ ⟨k1, s1, c1, n1, e1, f1, x1, y1⟩ A1 B1 cA1 cB1 _ (by show k1.length ≤ _; omega) (by show k1.length ≤ _; omega) MA1.rd MB1.rd).mono ?_
  rintro e W14 ⟨he, hb⟩
  rw [sameL_refl] at he
  subst he
  have hz := hb.size
  have HB2 := Lib.hid (HB.out.trans (hb.mono HB.out.size))
  clear HB
  have HB := HB2
  clear HB2
  have YL := Lib.hid (show W14.heap[w.heap.size]? = some (.cells #[.slice ao key.length cap, .int .i64 side, .int .i64 cur, .int .i64 next, .int .u64 send, .int .u64 ceil, .int .i64 sec, .int .i64 nano] 27 (0, 0)) from (hb.block (w.heap.size) lL).trans XL.out)
  have lL2 : w.heap.size < W14.heap.size := by omega
  clear XL lL
  have XL := YL
  have lL := lL2
  clear YL lL2
  have YN := Lib.hid (show W14.heap[w.heap.size + 1]? = some (.cells #[.int .i64 g, .int .i64 b, .int .u64 c, .int .u64 at1, .int .i64 ss, .int .i64 sn] 37 (0, 0)) from (hb.block (w.heap.size + 1) lN).trans XN.out)
  have lN2 : w.heap.size + 1 < W14.heap.size := by omega
  clear XN lN
  have XN := YN
  have lN := lN2
  clear YN lN2
  have YR := Lib.hid (show W14.heap[W3.heap.size]? = some (.cells #[.slice (some ⟨gr, 0, none⟩) key.length cr, .int .i64 side, .int .i64 cur, .int .i64 next, .int .u64 send, .int .u64 ceil, .int .i64 sec, .int .i64 nano] 27 (0, 0)) from (hb.block (W3.heap.size) lR).trans XR.out)
  have lR2 : W3.heap.size < W14.heap.size := by omega
  clear XR lR
  have XR := YR
  have lR := lR2
  clear YR lR2
  have Ya := Lib.hid (show W14.heap[W5.heap.size]? = some (.cells #[.slice A0 k0.length cA0, .int .i64 s0, .int .i64 c0, .int .i64 n0, .int .u64 e0, .int .u64 f0, .int .i64 x0, .int .i64 y0] 27 (0, 0)) from (hb.block (W5.heap.size) la).trans Xa.out)
  have la2 : W5.heap.size < W14.heap.size := by omega
  clear Xa la
  have Xa := Ya
  have la := la2
  clear Ya la2
  have Yb := Lib.hid (show W14.heap[W7.heap.size]? = some (.cells #[.slice B0 k0.length cB0, .int .i64 s0, .int .i64 c0, .int .i64 n0, .int .u64 e0, .int .u64 f0, .int .i64 x0, .int .i64 y0] 27 (0, 0)) from (hb.block (W7.heap.size) lb).trans Xb.out)
  have lb2 : W7.heap.size < W14.heap.size := by omega
  clear Xb lb
  have Xb := Yb
  have lb := lb2
  clear Yb lb2
  have Yc := Lib.hid (show W14.heap[W10.heap.size]? = some (.cells #[.slice A1 k1.length cA1, .int .i64 s1, .int .i64 c1, .int .i64 n1, .int .u64 e1, .int .u64 f1, .int .i64 x1, .int .i64 y1] 27 (0, 0)) from (hb.block (W10.heap.size) lc).trans Xc.out)
  have lc2 : W10.heap.size < W14.heap.size := by omega
  clear Xc lc
  have Xc := Yc
  have lc := lc2
  clear Yc lc2
  have Yd := Lib.hid (show W14.heap[W12.heap.size]? = some (.cells #[.slice B1 k1.length cB1, .int .i64 s1, .int .i64 c1, .int .i64 n1, .int .u64 e1, .int .u64 f1, .int .i64 x1, .int .i64 y1] 27 (0, 0)) from (hb.block (W12.heap.size) ld).trans Xd.out)
  have ld2 : W12.heap.size < W14.heap.size := by omega
  clear Xd ld
  have Xd := Yd
  have ld := ld2
  clear Yd ld2
  have NA1 := Mine.below MA1 hb
  clear MA1
  have MA1 := NA1
  clear NA1
  have NB1 := Mine.below MB1 hb
  clear MB1
  have MB1 := NB1
  clear NB1
  have N0 := Own.below O0 hb O0.lt
  clear O0
  have O0 := N0
  clear N0
  clear hb hz
  clear mA1_L
  clear mA1_N
  clear mA1_R
  clear mA1_a
  clear mA1_b
  clear MA1
  clear mB1_L
  clear mB1_N
  clear mB1_R
  clear mB1_a
  clear mB1_b
  clear mB1_c
  clear MB1
  have xR := XR.out
  have qR_0 : W14.cell? ⟨W3.heap.size, 0, none⟩ = some (.slice (some ⟨gr, 0, none⟩) key.length cr) := cell_of_row W14 (W3.heap.size) 0 _ _ _ xR
  have qR_1 : W14.cell? ⟨W3.heap.size, 1, none⟩ = some (.int .i64 side) := cell_of_row W14 (W3.heap.size) 1 _ _ _ xR
  have qR_2 : W14.cell? ⟨W3.heap.size, 2, none⟩ = some (.int .i64 cur) := cell_of_row W14 (W3.heap.size) 2 _ _ _ xR
  have qR_3 : W14.cell? ⟨W3.heap.size, 3, none⟩ = some (.int .i64 next) := cell_of_row W14 (W3.heap.size) 3 _ _ _ xR
  have qR_4 : W14.cell? ⟨W3.heap.size, 4, none⟩ = some (.int .u64 send) := cell_of_row W14 (W3.heap.size) 4 _ _ _ xR
  have qR_5 : W14.cell? ⟨W3.heap.size, 5, none⟩ = some (.int .u64 ceil) := cell_of_row W14 (W3.heap.size) 5 _ _ _ xR
  have qR_6 : W14.cell? ⟨W3.heap.size, 6, none⟩ = some (.int .i64 sec) := cell_of_row W14 (W3.heap.size) 6 _ _ _ xR
  have qR_7 : W14.cell? ⟨W3.heap.size, 7, none⟩ = some (.int .i64 nano) := cell_of_row W14 (W3.heap.size) 7 _ _ _ xR
  have qR_f (i : Nat) : W14.frozen? ⟨W3.heap.size, i, none⟩ = false := frozen_of_row W14 (W3.heap.size) i _ _ xR
  clear xR
  have xN := XN.out
  have qN_0 : W14.cell? ⟨w.heap.size + 1, 0, none⟩ = some (.int .i64 g) := cell_of_row W14 (w.heap.size + 1) 0 _ _ _ xN
  have qN_1 : W14.cell? ⟨w.heap.size + 1, 1, none⟩ = some (.int .i64 b) := cell_of_row W14 (w.heap.size + 1) 1 _ _ _ xN
  have qN_2 : W14.cell? ⟨w.heap.size + 1, 2, none⟩ = some (.int .u64 c) := cell_of_row W14 (w.heap.size + 1) 2 _ _ _ xN
  have qN_3 : W14.cell? ⟨w.heap.size + 1, 3, none⟩ = some (.int .u64 at1) := cell_of_row W14 (w.heap.size + 1) 3 _ _ _ xN
  have qN_4 : W14.cell? ⟨w.heap.size + 1, 4, none⟩ = some (.int .i64 ss) := cell_of_row W14 (w.heap.size + 1) 4 _ _ _ xN
  have qN_5 : W14.cell? ⟨w.heap.size + 1, 5, none⟩ = some (.int .i64 sn) := cell_of_row W14 (w.heap.size + 1) 5 _ _ _ xN
  have qN_f (i : Nat) : W14.frozen? ⟨w.heap.size + 1, i, none⟩ = false := frozen_of_row W14 (w.heap.size + 1) i _ _ xN
  clear xN
  go_wp2_with (go_at_call 27; refine (numOf _ _).mono ?_; rintro e w' ⟨rfl, hw⟩; obtain rfl := hw.symm; clear hw)
  clear qR_0 qR_1 qR_2 qR_3 qR_4 qR_5 qR_6 qR_7 qR_f
  clear qN_0 qN_1 qN_2 qN_3 qN_4 qN_5 qN_f
  refine (laneReserve ⟨key, side, cur, next, send, ceil, sec, nano⟩ (some ⟨gr, 0, none⟩) cr at1 b ha0 ha1 _ HF.out (by exact O0.pre.rd)).mono ?_
  rintro e W15 ⟨A2, cA2, he, Mx, hb⟩
  rw [HN2.out] at he Mx
  obtain rfl : e = .returned (.agg #[.slice A2 k2.length cA2, .int .i64 s2, .int .i64 c2, .int .i64 n2, .int .u64 e2, .int .u64 f2, .int .i64 x2, .int .i64 y2]) := he
  have MA2 : Mine _ _ _ A2 cA2 k2 := Mx
  clear Mx
  have hz := hb.size
  have HB2 := Lib.hid (HB.out.trans (hb.mono HB.out.size))
  clear HB
  have HB := HB2
  clear HB2
  have YL := Lib.hid (show W15.heap[w.heap.size]? = some (.cells #[.slice ao key.length cap, .int .i64 side, .int .i64 cur, .int .i64 next, .int .u64 send, .int .u64 ceil, .int .i64 sec, .int .i64 nano] 27 (0, 0)) from (hb.block (w.heap.size) lL).trans XL.out)
  have lL2 : w.heap.size < W15.heap.size := by omega
  have mA2_L : w.heap.size < W14.heap.size := lL
  clear XL lL
  have XL := YL
  have lL := lL2
  clear YL lL2
  have YN := Lib.hid (show W15.heap[w.heap.size + 1]? = some (.cells #[.int .i64 g, .int .i64 b, .int .u64 c, .int .u64 at1, .int .i64 ss, .int .i64 sn] 37 (0, 0)) from (hb.block (w.heap.size + 1) lN).trans XN.out)
  have lN2 : w.heap.size + 1 < W15.heap.size := by omega
  have mA2_N : w.heap.size + 1 < W14.heap.size := lN
  clear XN lN
  have XN := YN
  have lN := lN2
  clear YN lN2
  have YR := Lib.hid (show W15.heap[W3.heap.size]? = some (.cells #[.slice (some ⟨gr, 0, none⟩) key.length cr, .int .i64 side, .int .i64 cur, .int .i64 next, .int .u64 send, .int .u64 ceil, .int .i64 sec, .int .i64 nano] 27 (0, 0)) from (hb.block (W3.heap.size) lR).trans XR.out)
  have lR2 : W3.heap.size < W15.heap.size := by omega
  have mA2_R : W3.heap.size < W14.heap.size := lR
  clear XR lR
  have XR := YR
  have lR := lR2
  clear YR lR2
  have Ya := Lib.hid (show W15.heap[W5.heap.size]? = some (.cells #[.slice A0 k0.length cA0, .int .i64 s0, .int .i64 c0, .int .i64 n0, .int .u64 e0, .int .u64 f0, .int .i64 x0, .int .i64 y0] 27 (0, 0)) from (hb.block (W5.heap.size) la).trans Xa.out)
  have la2 : W5.heap.size < W15.heap.size := by omega
  have mA2_a : W5.heap.size < W14.heap.size := la
  clear Xa la
  have Xa := Ya
  have la := la2
  clear Ya la2
  have Yb := Lib.hid (show W15.heap[W7.heap.size]? = some (.cells #[.slice B0 k0.length cB0, .int .i64 s0, .int .i64 c0, .int .i64 n0, .int .u64 e0, .int .u64 f0, .int .i64 x0, .int .i64 y0] 27 (0, 0)) from (hb.block (W7.heap.size) lb).trans Xb.out)
  have lb2 : W7.heap.size < W15.heap.size := by omega
  have mA2_b : W7.heap.size < W14.heap.size := lb
  clear Xb lb
  have Xb := Yb
  have lb := lb2
  clear Yb lb2
  have Yc := Lib.hid (show W15.heap[W10.heap.size]? = some (.cells #[.slice A1 k1.length cA1, .int .i64 s1, .int .i64 c1, .int .i64 n1, .int .u64 e1, .int .u64 f1, .int .i64 x1, .int .i64 y1] 27 (0, 0)) from (hb.block (W10.heap.size) lc).trans Xc.out)
  have lc2 : W10.heap.size < W15.heap.size := by omega
  have mA2_c : W10.heap.size < W14.heap.size := lc
  clear Xc lc
  have Xc := Yc
  have lc := lc2
  clear Yc lc2
  have Yd := Lib.hid (show W15.heap[W12.heap.size]? = some (.cells #[.slice B1 k1.length cB1, .int .i64 s1, .int .i64 c1, .int .i64 n1, .int .u64 e1, .int .u64 f1, .int .i64 x1, .int .i64 y1] 27 (0, 0)) from (hb.block (W12.heap.size) ld).trans Xd.out)
  have ld2 : W12.heap.size < W15.heap.size := by omega
  have mA2_d : W12.heap.size < W14.heap.size := ld
  clear Xd ld
  have Xd := Yd
  have ld := ld2
  clear Yd ld2
  have N0 := Own.below O0 hb O0.lt
  clear O0
  have O0 := N0
  clear N0
  clear hb hz
  have xL := XL.out
  have qL_0 : W15.cell? ⟨w.heap.size, 0, none⟩ = some (.slice ao key.length cap) := cell_of_row W15 (w.heap.size) 0 _ _ _ xL
  have qL_1 : W15.cell? ⟨w.heap.size, 1, none⟩ = some (.int .i64 side) := cell_of_row W15 (w.heap.size) 1 _ _ _ xL
  have qL_2 : W15.cell? ⟨w.heap.size, 2, none⟩ = some (.int .i64 cur) := cell_of_row W15 (w.heap.size) 2 _ _ _ xL
  have qL_3 : W15.cell? ⟨w.heap.size, 3, none⟩ = some (.int .i64 next) := cell_of_row W15 (w.heap.size) 3 _ _ _ xL
  have qL_4 : W15.cell? ⟨w.heap.size, 4, none⟩ = some (.int .u64 send) := cell_of_row W15 (w.heap.size) 4 _ _ _ xL
  have qL_5 : W15.cell? ⟨w.heap.size, 5, none⟩ = some (.int .u64 ceil) := cell_of_row W15 (w.heap.size) 5 _ _ _ xL
  have qL_6 : W15.cell? ⟨w.heap.size, 6, none⟩ = some (.int .i64 sec) := cell_of_row W15 (w.heap.size) 6 _ _ _ xL
  have qL_7 : W15.cell? ⟨w.heap.size, 7, none⟩ = some (.int .i64 nano) := cell_of_row W15 (w.heap.size) 7 _ _ _ xL
  have qL_f (i : Nat) : W15.frozen? ⟨w.heap.size, i, none⟩ = false := frozen_of_row W15 (w.heap.size) i _ _ xL
  clear xL
  have xN := XN.out
  have qN_0 : W15.cell? ⟨w.heap.size + 1, 0, none⟩ = some (.int .i64 g) := cell_of_row W15 (w.heap.size + 1) 0 _ _ _ xN
  have qN_1 : W15.cell? ⟨w.heap.size + 1, 1, none⟩ = some (.int .i64 b) := cell_of_row W15 (w.heap.size + 1) 1 _ _ _ xN
  have qN_2 : W15.cell? ⟨w.heap.size + 1, 2, none⟩ = some (.int .u64 c) := cell_of_row W15 (w.heap.size + 1) 2 _ _ _ xN
  have qN_3 : W15.cell? ⟨w.heap.size + 1, 3, none⟩ = some (.int .u64 at1) := cell_of_row W15 (w.heap.size + 1) 3 _ _ _ xN
  have qN_4 : W15.cell? ⟨w.heap.size + 1, 4, none⟩ = some (.int .i64 ss) := cell_of_row W15 (w.heap.size + 1) 4 _ _ _ xN
  have qN_5 : W15.cell? ⟨w.heap.size + 1, 5, none⟩ = some (.int .i64 sn) := cell_of_row W15 (w.heap.size + 1) 5 _ _ _ xN
  have qN_f (i : Nat) : W15.frozen? ⟨w.heap.size + 1, i, none⟩ = false := frozen_of_row W15 (w.heap.size + 1) i _ _ xN
  clear xN
  have xa := Xa.out
  have qa_0 : W15.cell? ⟨W5.heap.size, 0, none⟩ = some (.slice A0 k0.length cA0) := cell_of_row W15 (W5.heap.size) 0 _ _ _ xa
  have qa_1 : W15.cell? ⟨W5.heap.size, 1, none⟩ = some (.int .i64 s0) := cell_of_row W15 (W5.heap.size) 1 _ _ _ xa
  have qa_2 : W15.cell? ⟨W5.heap.size, 2, none⟩ = some (.int .i64 c0) := cell_of_row W15 (W5.heap.size) 2 _ _ _ xa
  have qa_3 : W15.cell? ⟨W5.heap.size, 3, none⟩ = some (.int .i64 n0) := cell_of_row W15 (W5.heap.size) 3 _ _ _ xa
  have qa_4 : W15.cell? ⟨W5.heap.size, 4, none⟩ = some (.int .u64 e0) := cell_of_row W15 (W5.heap.size) 4 _ _ _ xa
  have qa_5 : W15.cell? ⟨W5.heap.size, 5, none⟩ = some (.int .u64 f0) := cell_of_row W15 (W5.heap.size) 5 _ _ _ xa
  have qa_6 : W15.cell? ⟨W5.heap.size, 6, none⟩ = some (.int .i64 x0) := cell_of_row W15 (W5.heap.size) 6 _ _ _ xa
  have qa_7 : W15.cell? ⟨W5.heap.size, 7, none⟩ = some (.int .i64 y0) := cell_of_row W15 (W5.heap.size) 7 _ _ _ xa
  have qa_f (i : Nat) : W15.frozen? ⟨W5.heap.size, i, none⟩ = false := frozen_of_row W15 (W5.heap.size) i _ _ xa
  clear xa
  go_wp2_with fail
  generalize hU : ((((((((W15.setCell ⟨W5.heap.size, 0, none⟩ (.slice A2 k2.length cA2)).setCell ⟨W5.heap.size, 1, none⟩ (.int .i64 s2)).setCell ⟨W5.heap.size, 2, none⟩ (.int .i64 c2)).setCell ⟨W5.heap.size, 3, none⟩ (.int .i64 n2)).setCell ⟨W5.heap.size, 4, none⟩ (.int .u64 e2)).setCell ⟨W5.heap.size, 5, none⟩ (.int .u64 f2)).setCell ⟨W5.heap.size, 6, none⟩ (.int .i64 x2)).setCell ⟨W5.heap.size, 7, none⟩ (.int .i64 y2)) = U16
  clear qL_0 qL_1 qL_2 qL_3 qL_4 qL_5 qL_6 qL_7 qL_f
  clear qN_0 qN_1 qN_2 qN_3 qN_4 qN_5 qN_f
  clear qa_0 qa_1 qa_2 qa_3 qa_4 qa_5 qa_6 qa_7 qa_f
  obtain ⟨hx, hsz, hO⟩ := set8 hU Xa.out rfl
  have HB2 := Lib.hid (HB.out.trans (hO.below (B := w.heap.size) (fun k hk => by omega) HB.out.size))
  clear HB
  have HB := HB2
  clear HB2
  have YL := Lib.hid (show U16.heap[w.heap.size]? = some (.cells #[.slice ao key.length cap, .int .i64 side, .int .i64 cur, .int .i64 next, .int .u64 send, .int .u64 ceil, .int .i64 sec, .int .i64 nano] 27 (0, 0)) from (hO.block (w.heap.size) lL (by omega)).trans XL.out)
  have lL2 : w.heap.size < U16.heap.size := by omega
  clear XL
  have XL := YL
  clear YL
  have YN := Lib.hid (show U16.heap[w.heap.size + 1]? = some (.cells #[.int .i64 g, .int .i64 b, .int .u64 c, .int .u64 at1, .int .i64 ss, .int .i64 sn] 37 (0, 0)) from (hO.block (w.heap.size + 1) lN (by omega)).trans XN.out)
  have lN2 : w.heap.size + 1 < U16.heap.size := by omega
  clear XN
  have XN := YN
  clear YN
  have YR := Lib.hid (show U16.heap[W3.heap.size]? = some (.cells #[.slice (some ⟨gr, 0, none⟩) key.length cr, .int .i64 side, .int .i64 cur, .int .i64 next, .int .u64 send, .int .u64 ceil, .int .i64 sec, .int .i64 nano] 27 (0, 0)) from (hO.block (W3.heap.size) lR (by omega)).trans XR.out)
  have lR2 : W3.heap.size < U16.heap.size := by omega
  clear XR
  have XR := YR
  clear YR
  have Ya := Lib.hid hx
  have la2 : W5.heap.size < U16.heap.size := by omega
  clear Xa
  have Xa := Ya
  clear Ya
  have Yb := Lib.hid (show U16.heap[W7.heap.size]? = some (.cells #[.slice B0 k0.length cB0, .int .i64 s0, .int .i64 c0, .int .i64 n0, .int .u64 e0, .int .u64 f0, .int .i64 x0, .int .i64 y0] 27 (0, 0)) from (hO.block (W7.heap.size) lb (by omega)).trans Xb.out)
  have lb2 : W7.heap.size < U16.heap.size := by omega
  clear Xb
  have Xb := Yb
  clear Yb
  have Yc := Lib.hid (show U16.heap[W10.heap.size]? = some (.cells #[.slice A1 k1.length cA1, .int .i64 s1, .int .i64 c1, .int .i64 n1, .int .u64 e1, .int .u64 f1, .int .i64 x1, .int .i64 y1] 27 (0, 0)) from (hO.block (W10.heap.size) lc (by omega)).trans Xc.out)
  have lc2 : W10.heap.size < U16.heap.size := by omega
  clear Xc
  have Xc := Yc
  clear Yc
  have Yd := Lib.hid (show U16.heap[W12.heap.size]? = some (.cells #[.slice B1 k1.length cB1, .int .i64 s1, .int .i64 c1, .int .i64 n1, .int .u64 e1, .int .u64 f1, .int .i64 x1, .int .i64 y1] 27 (0, 0)) from (hO.block (W12.heap.size) ld (by omega)).trans Xd.out)
  have ld2 : W12.heap.size < U16.heap.size := by omega
  clear Xd
  have Xd := Yd
  clear Yd
  clear lL
  have lL := lL2
  clear lL2
  clear lN
  have lN := lN2
  clear lN2
  clear lR
  have lR := lR2
  clear lR2
  clear la
  have la := la2
  clear la2
  clear lb
  have lb := lb2
  clear lb2
  clear lc
  have lc := lc2
  clear lc2
  clear ld
  have ld := ld2
  clear ld2
  have NA2 := Mine.only MA2 hO (fun a ha => by have h1 := Mine.at MA2 a ha; omega)
  clear MA2
  have MA2 := NA2
  clear NA2
  have N0 := Own.only O0 hO (by omega)
  clear O0
  have O0 := N0
  clear N0
  clear hU hx hsz hO
  refine (refReserve ⟨key, side, cur, next, send, ceil, sec, nano⟩ ao cap at1 b ha0 ha1 _ HF.out (hr.on HB.out)).mono ?_
  rintro e W17 ⟨B2, cB2, he, Mx, hb⟩
  rw [HN2.out] at he Mx
  obtain rfl : e = .returned (.agg #[.slice B2 k2.length cB2, .int .i64 s2, .int .i64 c2, .int .i64 n2, .int .u64 e2, .int .u64 f2, .int .i64 x2, .int .i64 y2]) := he
  have MB2 : Mine _ _ _ B2 cB2 k2 := Mx
  clear Mx
  have hz := hb.size
  have HB2 := Lib.hid (HB.out.trans (hb.mono HB.out.size))
  clear HB
  have HB := HB2
  clear HB2
  have YL := Lib.hid (show W17.heap[w.heap.size]? = some (.cells #[.slice ao key.length cap, .int .i64 side, .int .i64 cur, .int .i64 next, .int .u64 send, .int .u64 ceil, .int .i64 sec, .int .i64 nano] 27 (0, 0)) from (hb.block (w.heap.size) lL).trans XL.out)
  have lL2 : w.heap.size < W17.heap.size := by omega
  have mB2_L : w.heap.size < U16.heap.size := lL
  clear XL lL
  have XL := YL
  have lL := lL2
  clear YL lL2
  have YN := Lib.hid (show W17.heap[w.heap.size + 1]? = some (.cells #[.int .i64 g, .int .i64 b, .int .u64 c, .int .u64 at1, .int .i64 ss, .int .i64 sn] 37 (0, 0)) from (hb.block (w.heap.size + 1) lN).trans XN.out)
  have lN2 : w.heap.size + 1 < W17.heap.size := by omega
  have mB2_N : w.heap.size + 1 < U16.heap.size := lN
  clear XN lN
  have XN := YN
  have lN := lN2
  clear YN lN2
  have YR := Lib.hid (show W17.heap[W3.heap.size]? = some (.cells #[.slice (some ⟨gr, 0, none⟩) key.length cr, .int .i64 side, .int .i64 cur, .int .i64 next, .int .u64 send, .int .u64 ceil, .int .i64 sec, .int .i64 nano] 27 (0, 0)) from (hb.block (W3.heap.size) lR).trans XR.out)
  have lR2 : W3.heap.size < W17.heap.size := by omega
  have mB2_R : W3.heap.size < U16.heap.size := lR
  clear XR lR
  have XR := YR
  have lR := lR2
  clear YR lR2
  have Ya := Lib.hid (show W17.heap[W5.heap.size]? = some (.cells #[.slice A2 k2.length cA2, .int .i64 s2, .int .i64 c2, .int .i64 n2, .int .u64 e2, .int .u64 f2, .int .i64 x2, .int .i64 y2] 27 (0, 0)) from (hb.block (W5.heap.size) la).trans Xa.out)
  have la2 : W5.heap.size < W17.heap.size := by omega
  have mB2_a : W5.heap.size < U16.heap.size := la
  clear Xa la
  have Xa := Ya
  have la := la2
  clear Ya la2
  have Yb := Lib.hid (show W17.heap[W7.heap.size]? = some (.cells #[.slice B0 k0.length cB0, .int .i64 s0, .int .i64 c0, .int .i64 n0, .int .u64 e0, .int .u64 f0, .int .i64 x0, .int .i64 y0] 27 (0, 0)) from (hb.block (W7.heap.size) lb).trans Xb.out)
  have lb2 : W7.heap.size < W17.heap.size := by omega
  have mB2_b : W7.heap.size < U16.heap.size := lb
  clear Xb lb
  have Xb := Yb
  have lb := lb2
  clear Yb lb2
  have Yc := Lib.hid (show W17.heap[W10.heap.size]? = some (.cells #[.slice A1 k1.length cA1, .int .i64 s1, .int .i64 c1, .int .i64 n1, .int .u64 e1, .int .u64 f1, .int .i64 x1, .int .i64 y1] 27 (0, 0)) from (hb.block (W10.heap.size) lc).trans Xc.out)
  have lc2 : W10.heap.size < W17.heap.size := by omega
  have mB2_c : W10.heap.size < U16.heap.size := lc
  clear Xc lc
  have Xc := Yc
  have lc := lc2
  clear Yc lc2
  have Yd := Lib.hid (show W17.heap[W12.heap.size]? = some (.cells #[.slice B1 k1.length cB1, .int .i64 s1, .int .i64 c1, .int .i64 n1, .int .u64 e1, .int .u64 f1, .int .i64 x1, .int .i64 y1] 27 (0, 0)) from (hb.block (W12.heap.size) ld).trans Xd.out)
  have ld2 : W12.heap.size < W17.heap.size := by omega
  have mB2_d : W12.heap.size < U16.heap.size := ld
  clear Xd ld
  have Xd := Yd
  have ld := ld2
  clear Yd ld2
  have NA2 := Mine.below MA2 hb
  clear MA2
  have MA2 := NA2
  clear NA2
  have N0 := Own.below O0 hb O0.lt
  clear O0
  have O0 := N0
  clear N0
  clear hb hz
  have xa := Xa.out
  have qa_0 : W17.cell? ⟨W5.heap.size, 0, none⟩ = some (.slice A2 k2.length cA2) := cell_of_row W17 (W5.heap.size) 0 _ _ _ xa
  have qa_1 : W17.cell? ⟨W5.heap.size, 1, none⟩ = some (.int .i64 s2) := cell_of_row W17 (W5.heap.size) 1 _ _ _ xa
  have qa_2 : W17.cell? ⟨W5.heap.size, 2, none⟩ = some (.int .i64 c2) := cell_of_row W17 (W5.heap.size) 2 _ _ _ xa
  have qa_3 : W17.cell? ⟨W5.heap.size, 3, none⟩ = some (.int .i64 n2) := cell_of_row W17 (W5.heap.size) 3 _ _ _ xa
  have qa_4 : W17.cell? ⟨W5.heap.size, 4, none⟩ = some (.int .u64 e2) := cell_of_row W17 (W5.heap.size) 4 _ _ _ xa
  have qa_5 : W17.cell? ⟨W5.heap.size, 5, none⟩ = some (.int .u64 f2) := cell_of_row W17 (W5.heap.size) 5 _ _ _ xa
  have qa_6 : W17.cell? ⟨W5.heap.size, 6, none⟩ = some (.int .i64 x2) := cell_of_row W17 (W5.heap.size) 6 _ _ _ xa
  have qa_7 : W17.cell? ⟨W5.heap.size, 7, none⟩ = some (.int .i64 y2) := cell_of_row W17 (W5.heap.size) 7 _ _ _ xa
  have qa_f (i : Nat) : W17.frozen? ⟨W5.heap.size, i, none⟩ = false := frozen_of_row W17 (W5.heap.size) i _ _ xa
  clear xa
  have xb := Xb.out
  have qb_0 : W17.cell? ⟨W7.heap.size, 0, none⟩ = some (.slice B0 k0.length cB0) := cell_of_row W17 (W7.heap.size) 0 _ _ _ xb
  have qb_1 : W17.cell? ⟨W7.heap.size, 1, none⟩ = some (.int .i64 s0) := cell_of_row W17 (W7.heap.size) 1 _ _ _ xb
  have qb_2 : W17.cell? ⟨W7.heap.size, 2, none⟩ = some (.int .i64 c0) := cell_of_row W17 (W7.heap.size) 2 _ _ _ xb
  have qb_3 : W17.cell? ⟨W7.heap.size, 3, none⟩ = some (.int .i64 n0) := cell_of_row W17 (W7.heap.size) 3 _ _ _ xb
  have qb_4 : W17.cell? ⟨W7.heap.size, 4, none⟩ = some (.int .u64 e0) := cell_of_row W17 (W7.heap.size) 4 _ _ _ xb
  have qb_5 : W17.cell? ⟨W7.heap.size, 5, none⟩ = some (.int .u64 f0) := cell_of_row W17 (W7.heap.size) 5 _ _ _ xb
  have qb_6 : W17.cell? ⟨W7.heap.size, 6, none⟩ = some (.int .i64 x0) := cell_of_row W17 (W7.heap.size) 6 _ _ _ xb
  have qb_7 : W17.cell? ⟨W7.heap.size, 7, none⟩ = some (.int .i64 y0) := cell_of_row W17 (W7.heap.size) 7 _ _ _ xb
  have qb_f (i : Nat) : W17.frozen? ⟨W7.heap.size, i, none⟩ = false := frozen_of_row W17 (W7.heap.size) i _ _ xb
  clear xb
  go_wp2_with fail
  generalize hU : ((((((((W17.setCell ⟨W7.heap.size, 0, none⟩ (.slice B2 k2.length cB2)).setCell ⟨W7.heap.size, 1, none⟩ (.int .i64 s2)).setCell ⟨W7.heap.size, 2, none⟩ (.int .i64 c2)).setCell ⟨W7.heap.size, 3, none⟩ (.int .i64 n2)).setCell ⟨W7.heap.size, 4, none⟩ (.int .u64 e2)).setCell ⟨W7.heap.size, 5, none⟩ (.int .u64 f2)).setCell ⟨W7.heap.size, 6, none⟩ (.int .i64 x2)).setCell ⟨W7.heap.size, 7, none⟩ (.int .i64 y2)) = U18
  clear qa_0 qa_1 qa_2 qa_3 qa_4 qa_5 qa_6 qa_7 qa_f
  clear qb_0 qb_1 qb_2 qb_3 qb_4 qb_5 qb_6 qb_7 qb_f
  obtain ⟨hx, hsz, hO⟩ := set8 hU Xb.out rfl
  have HB2 := Lib.hid (HB.out.trans (hO.below (B := w.heap.size) (fun k hk => by omega) HB.out.size))
  clear HB
  have HB := HB2
  clear HB2
  have YL := Lib.hid (show U18.heap[w.heap.size]? = some (.cells #[.slice ao key.length cap, .int .i64 side, .int .i64 cur, .int .i64 next, .int .u64 send, .int .u64 ceil, .int .i64 sec, .int .i64 nano] 27 (0, 0)) from (hO.block (w.heap.size) lL (by omega)).trans XL.out)
  have lL2 : w.heap.size < U18.heap.size := by omega
  clear XL
  have XL := YL
  clear YL
  have YN := Lib.hid (show U18.heap[w.heap.size + 1]? = some (.cells #[.int .i64 g, .int .i64 b, .int .u64 c, .int .u64 at1, .int .i64 ss, .int .i64 sn] 37 (0, 0)) from (hO.block (w.heap.size + 1) lN (by omega)).trans XN.out)
  have lN2 : w.heap.size + 1 < U18.heap.size := by omega
  clear XN
  have XN := YN
  clear YN
  have YR := Lib.hid (show U18.heap[W3.heap.size]? = some (.cells #[.slice (some ⟨gr, 0, none⟩) key.length cr, .int .i64 side, .int .i64 cur, .int .i64 next, .int .u64 send, .int .u64 ceil, .int .i64 sec, .int .i64 nano] 27 (0, 0)) from (hO.block (W3.heap.size) lR (by omega)).trans XR.out)
  have lR2 : W3.heap.size < U18.heap.size := by omega
  clear XR
  have XR := YR
  clear YR
  have Ya := Lib.hid (show U18.heap[W5.heap.size]? = some (.cells #[.slice A2 k2.length cA2, .int .i64 s2, .int .i64 c2, .int .i64 n2, .int .u64 e2, .int .u64 f2, .int .i64 x2, .int .i64 y2] 27 (0, 0)) from (hO.block (W5.heap.size) la (by omega)).trans Xa.out)
  have la2 : W5.heap.size < U18.heap.size := by omega
  clear Xa
  have Xa := Ya
  clear Ya
  have Yb := Lib.hid hx
  have lb2 : W7.heap.size < U18.heap.size := by omega
  clear Xb
  have Xb := Yb
  clear Yb
  have Yc := Lib.hid (show U18.heap[W10.heap.size]? = some (.cells #[.slice A1 k1.length cA1, .int .i64 s1, .int .i64 c1, .int .i64 n1, .int .u64 e1, .int .u64 f1, .int .i64 x1, .int .i64 y1] 27 (0, 0)) from (hO.block (W10.heap.size) lc (by omega)).trans Xc.out)
  have lc2 : W10.heap.size < U18.heap.size := by omega
  clear Xc
  have Xc := Yc
  clear Yc
  have Yd := Lib.hid (show U18.heap[W12.heap.size]? = some (.cells #[.slice B1 k1.length cB1, .int .i64 s1, .int .i64 c1, .int .i64 n1, .int .u64 e1, .int .u64 f1, .int .i64 x1, .int .i64 y1] 27 (0, 0)) from (hO.block (W12.heap.size) ld (by omega)).trans Xd.out)
  have ld2 : W12.heap.size < U18.heap.size := by omega
  clear Xd
  have Xd := Yd
  clear Yd
  clear lL
  have lL := lL2
  clear lL2
  clear lN
  have lN := lN2
  clear lN2
  clear lR
  have lR := lR2
  clear lR2
  clear la
  have la := la2
  clear la2
  clear lb
  have lb := lb2
  clear lb2
  clear lc
  have lc := lc2
  clear lc2
  clear ld
  have ld := ld2
  clear ld2
  have NA2 := Mine.only MA2 hO (fun a ha => by have h1 := Mine.at MA2 a ha; omega)
  clear MA2
  have MA2 := NA2
  clear NA2
  have NB2 := Mine.only MB2 hO (fun a ha => by have h1 := Mine.at MB2 a ha; omega)
  clear MB2
  have MB2 := NB2
  clear NB2
  have N0 := Own.only O0 hO (by omega)
  clear O0
  have O0 := N0
  clear N0
  clear hU hx hsz hO
  refine (sameLane ⟨k2, s2, c2, n2, e2, f2, x2, y2⟩ ⟨k2, s2, c2, n2, e2, f2, x2, y2⟩ A2 B2 cA2 cB2 _ (by show k2.length ≤ _; omega) (by show k2.length ≤ _; omega) MA2.rd MB2.rd).mono ?_
  rintro e W19 ⟨he, hb⟩
  rw [sameL_refl] at he
  subst he
  have hz := hb.size
  have HB2 := Lib.hid (HB.out.trans (hb.mono HB.out.size))
  clear HB
  have HB := HB2
  clear HB2
  have YL := Lib.hid (show W19.heap[w.heap.size]? = some (.cells #[.slice ao key.length cap, .int .i64 side, .int .i64 cur, .int .i64 next, .int .u64 send, .int .u64 ceil, .int .i64 sec, .int .i64 nano] 27 (0, 0)) from (hb.block (w.heap.size) lL).trans XL.out)
  have lL2 : w.heap.size < W19.heap.size := by omega
  clear XL lL
  have XL := YL
  have lL := lL2
  clear YL lL2
  have YN := Lib.hid (show W19.heap[w.heap.size + 1]? = some (.cells #[.int .i64 g, .int .i64 b, .int .u64 c, .int .u64 at1, .int .i64 ss, .int .i64 sn] 37 (0, 0)) from (hb.block (w.heap.size + 1) lN).trans XN.out)
  have lN2 : w.heap.size + 1 < W19.heap.size := by omega
  clear XN lN
  have XN := YN
  have lN := lN2
  clear YN lN2
  have YR := Lib.hid (show W19.heap[W3.heap.size]? = some (.cells #[.slice (some ⟨gr, 0, none⟩) key.length cr, .int .i64 side, .int .i64 cur, .int .i64 next, .int .u64 send, .int .u64 ceil, .int .i64 sec, .int .i64 nano] 27 (0, 0)) from (hb.block (W3.heap.size) lR).trans XR.out)
  have lR2 : W3.heap.size < W19.heap.size := by omega
  clear XR lR
  have XR := YR
  have lR := lR2
  clear YR lR2
  have Ya := Lib.hid (show W19.heap[W5.heap.size]? = some (.cells #[.slice A2 k2.length cA2, .int .i64 s2, .int .i64 c2, .int .i64 n2, .int .u64 e2, .int .u64 f2, .int .i64 x2, .int .i64 y2] 27 (0, 0)) from (hb.block (W5.heap.size) la).trans Xa.out)
  have la2 : W5.heap.size < W19.heap.size := by omega
  clear Xa la
  have Xa := Ya
  have la := la2
  clear Ya la2
  have Yb := Lib.hid (show W19.heap[W7.heap.size]? = some (.cells #[.slice B2 k2.length cB2, .int .i64 s2, .int .i64 c2, .int .i64 n2, .int .u64 e2, .int .u64 f2, .int .i64 x2, .int .i64 y2] 27 (0, 0)) from (hb.block (W7.heap.size) lb).trans Xb.out)
  have lb2 : W7.heap.size < W19.heap.size := by omega
  clear Xb lb
  have Xb := Yb
  have lb := lb2
  clear Yb lb2
  have Yc := Lib.hid (show W19.heap[W10.heap.size]? = some (.cells #[.slice A1 k1.length cA1, .int .i64 s1, .int .i64 c1, .int .i64 n1, .int .u64 e1, .int .u64 f1, .int .i64 x1, .int .i64 y1] 27 (0, 0)) from (hb.block (W10.heap.size) lc).trans Xc.out)
  have lc2 : W10.heap.size < W19.heap.size := by omega
  clear Xc lc
  have Xc := Yc
  have lc := lc2
  clear Yc lc2
  have Yd := Lib.hid (show W19.heap[W12.heap.size]? = some (.cells #[.slice B1 k1.length cB1, .int .i64 s1, .int .i64 c1, .int .i64 n1, .int .u64 e1, .int .u64 f1, .int .i64 x1, .int .i64 y1] 27 (0, 0)) from (hb.block (W12.heap.size) ld).trans Xd.out)
  have ld2 : W12.heap.size < W19.heap.size := by omega
  clear Xd ld
  have Xd := Yd
  have ld := ld2
  clear Yd ld2
  have NA2 := Mine.below MA2 hb
  clear MA2
  have MA2 := NA2
  clear NA2
  have NB2 := Mine.below MB2 hb
  clear MB2
  have MB2 := NB2
  clear NB2
  have N0 := Own.below O0 hb O0.lt
  clear O0
  have O0 := N0
  clear N0
  clear hb hz
  clear mA2_L
  clear mA2_N
  clear mA2_R
  clear mA2_a
  clear mA2_b
  clear mA2_c
  clear mA2_d
  clear MA2
  clear mB2_L
  clear mB2_N
  clear mB2_R
  clear mB2_a
  clear mB2_b
  clear mB2_c
  clear mB2_d
  clear MB2
  have xR := XR.out
  have qR_0 : W19.cell? ⟨W3.heap.size, 0, none⟩ = some (.slice (some ⟨gr, 0, none⟩) key.length cr) := cell_of_row W19 (W3.heap.size) 0 _ _ _ xR
  have qR_1 : W19.cell? ⟨W3.heap.size, 1, none⟩ = some (.int .i64 side) := cell_of_row W19 (W3.heap.size) 1 _ _ _ xR
  have qR_2 : W19.cell? ⟨W3.heap.size, 2, none⟩ = some (.int .i64 cur) := cell_of_row W19 (W3.heap.size) 2 _ _ _ xR
  have qR_3 : W19.cell? ⟨W3.heap.size, 3, none⟩ = some (.int .i64 next) := cell_of_row W19 (W3.heap.size) 3 _ _ _ xR
  have qR_4 : W19.cell? ⟨W3.heap.size, 4, none⟩ = some (.int .u64 send) := cell_of_row W19 (W3.heap.size) 4 _ _ _ xR
  have qR_5 : W19.cell? ⟨W3.heap.size, 5, none⟩ = some (.int .u64 ceil) := cell_of_row W19 (W3.heap.size) 5 _ _ _ xR
  have qR_6 : W19.cell? ⟨W3.heap.size, 6, none⟩ = some (.int .i64 sec) := cell_of_row W19 (W3.heap.size) 6 _ _ _ xR
  have qR_7 : W19.cell? ⟨W3.heap.size, 7, none⟩ = some (.int .i64 nano) := cell_of_row W19 (W3.heap.size) 7 _ _ _ xR
  have qR_f (i : Nat) : W19.frozen? ⟨W3.heap.size, i, none⟩ = false := frozen_of_row W19 (W3.heap.size) i _ _ xR
  clear xR
  have xN := XN.out
  have qN_0 : W19.cell? ⟨w.heap.size + 1, 0, none⟩ = some (.int .i64 g) := cell_of_row W19 (w.heap.size + 1) 0 _ _ _ xN
  have qN_1 : W19.cell? ⟨w.heap.size + 1, 1, none⟩ = some (.int .i64 b) := cell_of_row W19 (w.heap.size + 1) 1 _ _ _ xN
  have qN_2 : W19.cell? ⟨w.heap.size + 1, 2, none⟩ = some (.int .u64 c) := cell_of_row W19 (w.heap.size + 1) 2 _ _ _ xN
  have qN_3 : W19.cell? ⟨w.heap.size + 1, 3, none⟩ = some (.int .u64 at1) := cell_of_row W19 (w.heap.size + 1) 3 _ _ _ xN
  have qN_4 : W19.cell? ⟨w.heap.size + 1, 4, none⟩ = some (.int .i64 ss) := cell_of_row W19 (w.heap.size + 1) 4 _ _ _ xN
  have qN_5 : W19.cell? ⟨w.heap.size + 1, 5, none⟩ = some (.int .i64 sn) := cell_of_row W19 (w.heap.size + 1) 5 _ _ _ xN
  have qN_f (i : Nat) : W19.frozen? ⟨w.heap.size + 1, i, none⟩ = false := frozen_of_row W19 (w.heap.size + 1) i _ _ xN
  clear xN
  go_wp2_with fail
  clear qR_0 qR_1 qR_2 qR_3 qR_4 qR_5 qR_6 qR_7 qR_f
  clear qN_0 qN_1 qN_2 qN_3 qN_4 qN_5 qN_f
  refine (laneOpened ⟨key, side, cur, next, send, ceil, sec, nano⟩ (some ⟨gr, 0, none⟩) cr g c b hc0 hc1 _ HF.out (by exact O0.pre.rd)).mono ?_
  rintro e W20 ⟨A3, cA3, he, Mx, hb⟩
  rw [HN3.out] at he Mx
  obtain rfl : e = .returned (.agg #[.slice A3 k3.length cA3, .int .i64 s3, .int .i64 c3, .int .i64 n3, .int .u64 e3, .int .u64 f3, .int .i64 x3, .int .i64 y3]) := he
  have MA3 : Mine _ _ _ A3 cA3 k3 := Mx
  clear Mx
  have hz := hb.size
  have HB2 := Lib.hid (HB.out.trans (hb.mono HB.out.size))
  clear HB
  have HB := HB2
  clear HB2
  have YL := Lib.hid (show W20.heap[w.heap.size]? = some (.cells #[.slice ao key.length cap, .int .i64 side, .int .i64 cur, .int .i64 next, .int .u64 send, .int .u64 ceil, .int .i64 sec, .int .i64 nano] 27 (0, 0)) from (hb.block (w.heap.size) lL).trans XL.out)
  have lL2 : w.heap.size < W20.heap.size := by omega
  have mA3_L : w.heap.size < W19.heap.size := lL
  clear XL lL
  have XL := YL
  have lL := lL2
  clear YL lL2
  have YN := Lib.hid (show W20.heap[w.heap.size + 1]? = some (.cells #[.int .i64 g, .int .i64 b, .int .u64 c, .int .u64 at1, .int .i64 ss, .int .i64 sn] 37 (0, 0)) from (hb.block (w.heap.size + 1) lN).trans XN.out)
  have lN2 : w.heap.size + 1 < W20.heap.size := by omega
  have mA3_N : w.heap.size + 1 < W19.heap.size := lN
  clear XN lN
  have XN := YN
  have lN := lN2
  clear YN lN2
  have YR := Lib.hid (show W20.heap[W3.heap.size]? = some (.cells #[.slice (some ⟨gr, 0, none⟩) key.length cr, .int .i64 side, .int .i64 cur, .int .i64 next, .int .u64 send, .int .u64 ceil, .int .i64 sec, .int .i64 nano] 27 (0, 0)) from (hb.block (W3.heap.size) lR).trans XR.out)
  have lR2 : W3.heap.size < W20.heap.size := by omega
  have mA3_R : W3.heap.size < W19.heap.size := lR
  clear XR lR
  have XR := YR
  have lR := lR2
  clear YR lR2
  have Ya := Lib.hid (show W20.heap[W5.heap.size]? = some (.cells #[.slice A2 k2.length cA2, .int .i64 s2, .int .i64 c2, .int .i64 n2, .int .u64 e2, .int .u64 f2, .int .i64 x2, .int .i64 y2] 27 (0, 0)) from (hb.block (W5.heap.size) la).trans Xa.out)
  have la2 : W5.heap.size < W20.heap.size := by omega
  have mA3_a : W5.heap.size < W19.heap.size := la
  clear Xa la
  have Xa := Ya
  have la := la2
  clear Ya la2
  have Yb := Lib.hid (show W20.heap[W7.heap.size]? = some (.cells #[.slice B2 k2.length cB2, .int .i64 s2, .int .i64 c2, .int .i64 n2, .int .u64 e2, .int .u64 f2, .int .i64 x2, .int .i64 y2] 27 (0, 0)) from (hb.block (W7.heap.size) lb).trans Xb.out)
  have lb2 : W7.heap.size < W20.heap.size := by omega
  have mA3_b : W7.heap.size < W19.heap.size := lb
  clear Xb lb
  have Xb := Yb
  have lb := lb2
  clear Yb lb2
  have Yc := Lib.hid (show W20.heap[W10.heap.size]? = some (.cells #[.slice A1 k1.length cA1, .int .i64 s1, .int .i64 c1, .int .i64 n1, .int .u64 e1, .int .u64 f1, .int .i64 x1, .int .i64 y1] 27 (0, 0)) from (hb.block (W10.heap.size) lc).trans Xc.out)
  have lc2 : W10.heap.size < W20.heap.size := by omega
  have mA3_c : W10.heap.size < W19.heap.size := lc
  clear Xc lc
  have Xc := Yc
  have lc := lc2
  clear Yc lc2
  have Yd := Lib.hid (show W20.heap[W12.heap.size]? = some (.cells #[.slice B1 k1.length cB1, .int .i64 s1, .int .i64 c1, .int .i64 n1, .int .u64 e1, .int .u64 f1, .int .i64 x1, .int .i64 y1] 27 (0, 0)) from (hb.block (W12.heap.size) ld).trans Xd.out)
  have ld2 : W12.heap.size < W20.heap.size := by omega
  have mA3_d : W12.heap.size < W19.heap.size := ld
  clear Xd ld
  have Xd := Yd
  have ld := ld2
  clear Yd ld2
  have N0 := Own.below O0 hb O0.lt
  clear O0
  have O0 := N0
  clear N0
  clear hb hz
  have xL := XL.out
  have qL_0 : W20.cell? ⟨w.heap.size, 0, none⟩ = some (.slice ao key.length cap) := cell_of_row W20 (w.heap.size) 0 _ _ _ xL
  have qL_1 : W20.cell? ⟨w.heap.size, 1, none⟩ = some (.int .i64 side) := cell_of_row W20 (w.heap.size) 1 _ _ _ xL
  have qL_2 : W20.cell? ⟨w.heap.size, 2, none⟩ = some (.int .i64 cur) := cell_of_row W20 (w.heap.size) 2 _ _ _ xL
  have qL_3 : W20.cell? ⟨w.heap.size, 3, none⟩ = some (.int .i64 next) := cell_of_row W20 (w.heap.size) 3 _ _ _ xL
  have qL_4 : W20.cell? ⟨w.heap.size, 4, none⟩ = some (.int .u64 send) := cell_of_row W20 (w.heap.size) 4 _ _ _ xL
  have qL_5 : W20.cell? ⟨w.heap.size, 5, none⟩ = some (.int .u64 ceil) := cell_of_row W20 (w.heap.size) 5 _ _ _ xL
  have qL_6 : W20.cell? ⟨w.heap.size, 6, none⟩ = some (.int .i64 sec) := cell_of_row W20 (w.heap.size) 6 _ _ _ xL
  have qL_7 : W20.cell? ⟨w.heap.size, 7, none⟩ = some (.int .i64 nano) := cell_of_row W20 (w.heap.size) 7 _ _ _ xL
  have qL_f (i : Nat) : W20.frozen? ⟨w.heap.size, i, none⟩ = false := frozen_of_row W20 (w.heap.size) i _ _ xL
  clear xL
  have xN := XN.out
  have qN_0 : W20.cell? ⟨w.heap.size + 1, 0, none⟩ = some (.int .i64 g) := cell_of_row W20 (w.heap.size + 1) 0 _ _ _ xN
  have qN_1 : W20.cell? ⟨w.heap.size + 1, 1, none⟩ = some (.int .i64 b) := cell_of_row W20 (w.heap.size + 1) 1 _ _ _ xN
  have qN_2 : W20.cell? ⟨w.heap.size + 1, 2, none⟩ = some (.int .u64 c) := cell_of_row W20 (w.heap.size + 1) 2 _ _ _ xN
  have qN_3 : W20.cell? ⟨w.heap.size + 1, 3, none⟩ = some (.int .u64 at1) := cell_of_row W20 (w.heap.size + 1) 3 _ _ _ xN
  have qN_4 : W20.cell? ⟨w.heap.size + 1, 4, none⟩ = some (.int .i64 ss) := cell_of_row W20 (w.heap.size + 1) 4 _ _ _ xN
  have qN_5 : W20.cell? ⟨w.heap.size + 1, 5, none⟩ = some (.int .i64 sn) := cell_of_row W20 (w.heap.size + 1) 5 _ _ _ xN
  have qN_f (i : Nat) : W20.frozen? ⟨w.heap.size + 1, i, none⟩ = false := frozen_of_row W20 (w.heap.size + 1) i _ _ xN
  clear xN
  have xa := Xa.out
  have qa_0 : W20.cell? ⟨W5.heap.size, 0, none⟩ = some (.slice A2 k2.length cA2) := cell_of_row W20 (W5.heap.size) 0 _ _ _ xa
  have qa_1 : W20.cell? ⟨W5.heap.size, 1, none⟩ = some (.int .i64 s2) := cell_of_row W20 (W5.heap.size) 1 _ _ _ xa
  have qa_2 : W20.cell? ⟨W5.heap.size, 2, none⟩ = some (.int .i64 c2) := cell_of_row W20 (W5.heap.size) 2 _ _ _ xa
  have qa_3 : W20.cell? ⟨W5.heap.size, 3, none⟩ = some (.int .i64 n2) := cell_of_row W20 (W5.heap.size) 3 _ _ _ xa
  have qa_4 : W20.cell? ⟨W5.heap.size, 4, none⟩ = some (.int .u64 e2) := cell_of_row W20 (W5.heap.size) 4 _ _ _ xa
  have qa_5 : W20.cell? ⟨W5.heap.size, 5, none⟩ = some (.int .u64 f2) := cell_of_row W20 (W5.heap.size) 5 _ _ _ xa
  have qa_6 : W20.cell? ⟨W5.heap.size, 6, none⟩ = some (.int .i64 x2) := cell_of_row W20 (W5.heap.size) 6 _ _ _ xa
  have qa_7 : W20.cell? ⟨W5.heap.size, 7, none⟩ = some (.int .i64 y2) := cell_of_row W20 (W5.heap.size) 7 _ _ _ xa
  have qa_f (i : Nat) : W20.frozen? ⟨W5.heap.size, i, none⟩ = false := frozen_of_row W20 (W5.heap.size) i _ _ xa
  clear xa
  go_wp2_with fail
  generalize hU : ((((((((W20.setCell ⟨W5.heap.size, 0, none⟩ (.slice A3 k3.length cA3)).setCell ⟨W5.heap.size, 1, none⟩ (.int .i64 s3)).setCell ⟨W5.heap.size, 2, none⟩ (.int .i64 c3)).setCell ⟨W5.heap.size, 3, none⟩ (.int .i64 n3)).setCell ⟨W5.heap.size, 4, none⟩ (.int .u64 e3)).setCell ⟨W5.heap.size, 5, none⟩ (.int .u64 f3)).setCell ⟨W5.heap.size, 6, none⟩ (.int .i64 x3)).setCell ⟨W5.heap.size, 7, none⟩ (.int .i64 y3)) = U21
  clear qL_0 qL_1 qL_2 qL_3 qL_4 qL_5 qL_6 qL_7 qL_f
  clear qN_0 qN_1 qN_2 qN_3 qN_4 qN_5 qN_f
  clear qa_0 qa_1 qa_2 qa_3 qa_4 qa_5 qa_6 qa_7 qa_f
  obtain ⟨hx, hsz, hO⟩ := set8 hU Xa.out rfl
  have HB2 := Lib.hid (HB.out.trans (hO.below (B := w.heap.size) (fun k hk => by omega) HB.out.size))
  clear HB
  have HB := HB2
  clear HB2
  have YL := Lib.hid (show U21.heap[w.heap.size]? = some (.cells #[.slice ao key.length cap, .int .i64 side, .int .i64 cur, .int .i64 next, .int .u64 send, .int .u64 ceil, .int .i64 sec, .int .i64 nano] 27 (0, 0)) from (hO.block (w.heap.size) lL (by omega)).trans XL.out)
  have lL2 : w.heap.size < U21.heap.size := by omega
  clear XL
  have XL := YL
  clear YL
  have YN := Lib.hid (show U21.heap[w.heap.size + 1]? = some (.cells #[.int .i64 g, .int .i64 b, .int .u64 c, .int .u64 at1, .int .i64 ss, .int .i64 sn] 37 (0, 0)) from (hO.block (w.heap.size + 1) lN (by omega)).trans XN.out)
  have lN2 : w.heap.size + 1 < U21.heap.size := by omega
  clear XN
  have XN := YN
  clear YN
  have YR := Lib.hid (show U21.heap[W3.heap.size]? = some (.cells #[.slice (some ⟨gr, 0, none⟩) key.length cr, .int .i64 side, .int .i64 cur, .int .i64 next, .int .u64 send, .int .u64 ceil, .int .i64 sec, .int .i64 nano] 27 (0, 0)) from (hO.block (W3.heap.size) lR (by omega)).trans XR.out)
  have lR2 : W3.heap.size < U21.heap.size := by omega
  clear XR
  have XR := YR
  clear YR
  have Ya := Lib.hid hx
  have la2 : W5.heap.size < U21.heap.size := by omega
  clear Xa
  have Xa := Ya
  clear Ya
  have Yb := Lib.hid (show U21.heap[W7.heap.size]? = some (.cells #[.slice B2 k2.length cB2, .int .i64 s2, .int .i64 c2, .int .i64 n2, .int .u64 e2, .int .u64 f2, .int .i64 x2, .int .i64 y2] 27 (0, 0)) from (hO.block (W7.heap.size) lb (by omega)).trans Xb.out)
  have lb2 : W7.heap.size < U21.heap.size := by omega
  clear Xb
  have Xb := Yb
  clear Yb
  have Yc := Lib.hid (show U21.heap[W10.heap.size]? = some (.cells #[.slice A1 k1.length cA1, .int .i64 s1, .int .i64 c1, .int .i64 n1, .int .u64 e1, .int .u64 f1, .int .i64 x1, .int .i64 y1] 27 (0, 0)) from (hO.block (W10.heap.size) lc (by omega)).trans Xc.out)
  have lc2 : W10.heap.size < U21.heap.size := by omega
  clear Xc
  have Xc := Yc
  clear Yc
  have Yd := Lib.hid (show U21.heap[W12.heap.size]? = some (.cells #[.slice B1 k1.length cB1, .int .i64 s1, .int .i64 c1, .int .i64 n1, .int .u64 e1, .int .u64 f1, .int .i64 x1, .int .i64 y1] 27 (0, 0)) from (hO.block (W12.heap.size) ld (by omega)).trans Xd.out)
  have ld2 : W12.heap.size < U21.heap.size := by omega
  clear Xd
  have Xd := Yd
  clear Yd
  clear lL
  have lL := lL2
  clear lL2
  clear lN
  have lN := lN2
  clear lN2
  clear lR
  have lR := lR2
  clear lR2
  clear la
  have la := la2
  clear la2
  clear lb
  have lb := lb2
  clear lb2
  clear lc
  have lc := lc2
  clear lc2
  clear ld
  have ld := ld2
  clear ld2
  have NA3 := Mine.only MA3 hO (fun a ha => by have h1 := Mine.at MA3 a ha; omega)
  clear MA3
  have MA3 := NA3
  clear NA3
  have N0 := Own.only O0 hO (by omega)
  clear O0
  have O0 := N0
  clear N0
  clear hU hx hsz hO
  refine (refOpened ⟨key, side, cur, next, send, ceil, sec, nano⟩ ao cap g c b hc0 hc1 _ HF.out (hr.on HB.out)).mono ?_
  rintro e W22 ⟨B3, cB3, he, Mx, hb⟩
  rw [HN3.out] at he Mx
  obtain rfl : e = .returned (.agg #[.slice B3 k3.length cB3, .int .i64 s3, .int .i64 c3, .int .i64 n3, .int .u64 e3, .int .u64 f3, .int .i64 x3, .int .i64 y3]) := he
  have MB3 : Mine _ _ _ B3 cB3 k3 := Mx
  clear Mx
  have hz := hb.size
  have HB2 := Lib.hid (HB.out.trans (hb.mono HB.out.size))
  clear HB
  have HB := HB2
  clear HB2
  have YL := Lib.hid (show W22.heap[w.heap.size]? = some (.cells #[.slice ao key.length cap, .int .i64 side, .int .i64 cur, .int .i64 next, .int .u64 send, .int .u64 ceil, .int .i64 sec, .int .i64 nano] 27 (0, 0)) from (hb.block (w.heap.size) lL).trans XL.out)
  have lL2 : w.heap.size < W22.heap.size := by omega
  have mB3_L : w.heap.size < U21.heap.size := lL
  clear XL lL
  have XL := YL
  have lL := lL2
  clear YL lL2
  have YN := Lib.hid (show W22.heap[w.heap.size + 1]? = some (.cells #[.int .i64 g, .int .i64 b, .int .u64 c, .int .u64 at1, .int .i64 ss, .int .i64 sn] 37 (0, 0)) from (hb.block (w.heap.size + 1) lN).trans XN.out)
  have lN2 : w.heap.size + 1 < W22.heap.size := by omega
  have mB3_N : w.heap.size + 1 < U21.heap.size := lN
  clear XN lN
  have XN := YN
  have lN := lN2
  clear YN lN2
  have YR := Lib.hid (show W22.heap[W3.heap.size]? = some (.cells #[.slice (some ⟨gr, 0, none⟩) key.length cr, .int .i64 side, .int .i64 cur, .int .i64 next, .int .u64 send, .int .u64 ceil, .int .i64 sec, .int .i64 nano] 27 (0, 0)) from (hb.block (W3.heap.size) lR).trans XR.out)
  have lR2 : W3.heap.size < W22.heap.size := by omega
  have mB3_R : W3.heap.size < U21.heap.size := lR
  clear XR lR
  have XR := YR
  have lR := lR2
  clear YR lR2
  have Ya := Lib.hid (show W22.heap[W5.heap.size]? = some (.cells #[.slice A3 k3.length cA3, .int .i64 s3, .int .i64 c3, .int .i64 n3, .int .u64 e3, .int .u64 f3, .int .i64 x3, .int .i64 y3] 27 (0, 0)) from (hb.block (W5.heap.size) la).trans Xa.out)
  have la2 : W5.heap.size < W22.heap.size := by omega
  have mB3_a : W5.heap.size < U21.heap.size := la
  clear Xa la
  have Xa := Ya
  have la := la2
  clear Ya la2
  have Yb := Lib.hid (show W22.heap[W7.heap.size]? = some (.cells #[.slice B2 k2.length cB2, .int .i64 s2, .int .i64 c2, .int .i64 n2, .int .u64 e2, .int .u64 f2, .int .i64 x2, .int .i64 y2] 27 (0, 0)) from (hb.block (W7.heap.size) lb).trans Xb.out)
  have lb2 : W7.heap.size < W22.heap.size := by omega
  have mB3_b : W7.heap.size < U21.heap.size := lb
  clear Xb lb
  have Xb := Yb
  have lb := lb2
  clear Yb lb2
  have Yc := Lib.hid (show W22.heap[W10.heap.size]? = some (.cells #[.slice A1 k1.length cA1, .int .i64 s1, .int .i64 c1, .int .i64 n1, .int .u64 e1, .int .u64 f1, .int .i64 x1, .int .i64 y1] 27 (0, 0)) from (hb.block (W10.heap.size) lc).trans Xc.out)
  have lc2 : W10.heap.size < W22.heap.size := by omega
  have mB3_c : W10.heap.size < U21.heap.size := lc
  clear Xc lc
  have Xc := Yc
  have lc := lc2
  clear Yc lc2
  have Yd := Lib.hid (show W22.heap[W12.heap.size]? = some (.cells #[.slice B1 k1.length cB1, .int .i64 s1, .int .i64 c1, .int .i64 n1, .int .u64 e1, .int .u64 f1, .int .i64 x1, .int .i64 y1] 27 (0, 0)) from (hb.block (W12.heap.size) ld).trans Xd.out)
  have ld2 : W12.heap.size < W22.heap.size := by omega
  have mB3_d : W12.heap.size < U21.heap.size := ld
  clear Xd ld
  have Xd := Yd
  have ld := ld2
  clear Yd ld2
  have NA3 := Mine.below MA3 hb
  clear MA3
  have MA3 := NA3
  clear NA3
  have N0 := Own.below O0 hb O0.lt
  clear O0
  have O0 := N0
  clear N0
  clear hb hz
  have xa := Xa.out
  have qa_0 : W22.cell? ⟨W5.heap.size, 0, none⟩ = some (.slice A3 k3.length cA3) := cell_of_row W22 (W5.heap.size) 0 _ _ _ xa
  have qa_1 : W22.cell? ⟨W5.heap.size, 1, none⟩ = some (.int .i64 s3) := cell_of_row W22 (W5.heap.size) 1 _ _ _ xa
  have qa_2 : W22.cell? ⟨W5.heap.size, 2, none⟩ = some (.int .i64 c3) := cell_of_row W22 (W5.heap.size) 2 _ _ _ xa
  have qa_3 : W22.cell? ⟨W5.heap.size, 3, none⟩ = some (.int .i64 n3) := cell_of_row W22 (W5.heap.size) 3 _ _ _ xa
  have qa_4 : W22.cell? ⟨W5.heap.size, 4, none⟩ = some (.int .u64 e3) := cell_of_row W22 (W5.heap.size) 4 _ _ _ xa
  have qa_5 : W22.cell? ⟨W5.heap.size, 5, none⟩ = some (.int .u64 f3) := cell_of_row W22 (W5.heap.size) 5 _ _ _ xa
  have qa_6 : W22.cell? ⟨W5.heap.size, 6, none⟩ = some (.int .i64 x3) := cell_of_row W22 (W5.heap.size) 6 _ _ _ xa
  have qa_7 : W22.cell? ⟨W5.heap.size, 7, none⟩ = some (.int .i64 y3) := cell_of_row W22 (W5.heap.size) 7 _ _ _ xa
  have qa_f (i : Nat) : W22.frozen? ⟨W5.heap.size, i, none⟩ = false := frozen_of_row W22 (W5.heap.size) i _ _ xa
  clear xa
  have xb := Xb.out
  have qb_0 : W22.cell? ⟨W7.heap.size, 0, none⟩ = some (.slice B2 k2.length cB2) := cell_of_row W22 (W7.heap.size) 0 _ _ _ xb
  have qb_1 : W22.cell? ⟨W7.heap.size, 1, none⟩ = some (.int .i64 s2) := cell_of_row W22 (W7.heap.size) 1 _ _ _ xb
  have qb_2 : W22.cell? ⟨W7.heap.size, 2, none⟩ = some (.int .i64 c2) := cell_of_row W22 (W7.heap.size) 2 _ _ _ xb
  have qb_3 : W22.cell? ⟨W7.heap.size, 3, none⟩ = some (.int .i64 n2) := cell_of_row W22 (W7.heap.size) 3 _ _ _ xb
  have qb_4 : W22.cell? ⟨W7.heap.size, 4, none⟩ = some (.int .u64 e2) := cell_of_row W22 (W7.heap.size) 4 _ _ _ xb
  have qb_5 : W22.cell? ⟨W7.heap.size, 5, none⟩ = some (.int .u64 f2) := cell_of_row W22 (W7.heap.size) 5 _ _ _ xb
  have qb_6 : W22.cell? ⟨W7.heap.size, 6, none⟩ = some (.int .i64 x2) := cell_of_row W22 (W7.heap.size) 6 _ _ _ xb
  have qb_7 : W22.cell? ⟨W7.heap.size, 7, none⟩ = some (.int .i64 y2) := cell_of_row W22 (W7.heap.size) 7 _ _ _ xb
  have qb_f (i : Nat) : W22.frozen? ⟨W7.heap.size, i, none⟩ = false := frozen_of_row W22 (W7.heap.size) i _ _ xb
  clear xb
  go_wp2_with fail
  generalize hU : ((((((((W22.setCell ⟨W7.heap.size, 0, none⟩ (.slice B3 k3.length cB3)).setCell ⟨W7.heap.size, 1, none⟩ (.int .i64 s3)).setCell ⟨W7.heap.size, 2, none⟩ (.int .i64 c3)).setCell ⟨W7.heap.size, 3, none⟩ (.int .i64 n3)).setCell ⟨W7.heap.size, 4, none⟩ (.int .u64 e3)).setCell ⟨W7.heap.size, 5, none⟩ (.int .u64 f3)).setCell ⟨W7.heap.size, 6, none⟩ (.int .i64 x3)).setCell ⟨W7.heap.size, 7, none⟩ (.int .i64 y3)) = U23
  clear qa_0 qa_1 qa_2 qa_3 qa_4 qa_5 qa_6 qa_7 qa_f
  clear qb_0 qb_1 qb_2 qb_3 qb_4 qb_5 qb_6 qb_7 qb_f
  obtain ⟨hx, hsz, hO⟩ := set8 hU Xb.out rfl
  have HB2 := Lib.hid (HB.out.trans (hO.below (B := w.heap.size) (fun k hk => by omega) HB.out.size))
  clear HB
  have HB := HB2
  clear HB2
  have YL := Lib.hid (show U23.heap[w.heap.size]? = some (.cells #[.slice ao key.length cap, .int .i64 side, .int .i64 cur, .int .i64 next, .int .u64 send, .int .u64 ceil, .int .i64 sec, .int .i64 nano] 27 (0, 0)) from (hO.block (w.heap.size) lL (by omega)).trans XL.out)
  have lL2 : w.heap.size < U23.heap.size := by omega
  clear XL
  have XL := YL
  clear YL
  have YN := Lib.hid (show U23.heap[w.heap.size + 1]? = some (.cells #[.int .i64 g, .int .i64 b, .int .u64 c, .int .u64 at1, .int .i64 ss, .int .i64 sn] 37 (0, 0)) from (hO.block (w.heap.size + 1) lN (by omega)).trans XN.out)
  have lN2 : w.heap.size + 1 < U23.heap.size := by omega
  clear XN
  have XN := YN
  clear YN
  have YR := Lib.hid (show U23.heap[W3.heap.size]? = some (.cells #[.slice (some ⟨gr, 0, none⟩) key.length cr, .int .i64 side, .int .i64 cur, .int .i64 next, .int .u64 send, .int .u64 ceil, .int .i64 sec, .int .i64 nano] 27 (0, 0)) from (hO.block (W3.heap.size) lR (by omega)).trans XR.out)
  have lR2 : W3.heap.size < U23.heap.size := by omega
  clear XR
  have XR := YR
  clear YR
  have Ya := Lib.hid (show U23.heap[W5.heap.size]? = some (.cells #[.slice A3 k3.length cA3, .int .i64 s3, .int .i64 c3, .int .i64 n3, .int .u64 e3, .int .u64 f3, .int .i64 x3, .int .i64 y3] 27 (0, 0)) from (hO.block (W5.heap.size) la (by omega)).trans Xa.out)
  have la2 : W5.heap.size < U23.heap.size := by omega
  clear Xa
  have Xa := Ya
  clear Ya
  have Yb := Lib.hid hx
  have lb2 : W7.heap.size < U23.heap.size := by omega
  clear Xb
  have Xb := Yb
  clear Yb
  have Yc := Lib.hid (show U23.heap[W10.heap.size]? = some (.cells #[.slice A1 k1.length cA1, .int .i64 s1, .int .i64 c1, .int .i64 n1, .int .u64 e1, .int .u64 f1, .int .i64 x1, .int .i64 y1] 27 (0, 0)) from (hO.block (W10.heap.size) lc (by omega)).trans Xc.out)
  have lc2 : W10.heap.size < U23.heap.size := by omega
  clear Xc
  have Xc := Yc
  clear Yc
  have Yd := Lib.hid (show U23.heap[W12.heap.size]? = some (.cells #[.slice B1 k1.length cB1, .int .i64 s1, .int .i64 c1, .int .i64 n1, .int .u64 e1, .int .u64 f1, .int .i64 x1, .int .i64 y1] 27 (0, 0)) from (hO.block (W12.heap.size) ld (by omega)).trans Xd.out)
  have ld2 : W12.heap.size < U23.heap.size := by omega
  clear Xd
  have Xd := Yd
  clear Yd
  clear lL
  have lL := lL2
  clear lL2
  clear lN
  have lN := lN2
  clear lN2
  clear lR
  have lR := lR2
  clear lR2
  clear la
  have la := la2
  clear la2
  clear lb
  have lb := lb2
  clear lb2
  clear lc
  have lc := lc2
  clear lc2
  clear ld
  have ld := ld2
  clear ld2
  have NA3 := Mine.only MA3 hO (fun a ha => by have h1 := Mine.at MA3 a ha; omega)
  clear MA3
  have MA3 := NA3
  clear NA3
  have NB3 := Mine.only MB3 hO (fun a ha => by have h1 := Mine.at MB3 a ha; omega)
  clear MB3
  have MB3 := NB3
  clear NB3
  have N0 := Own.only O0 hO (by omega)
  clear O0
  have O0 := N0
  clear N0
  clear hU hx hsz hO
  refine (sameLane ⟨k3, s3, c3, n3, e3, f3, x3, y3⟩ ⟨k3, s3, c3, n3, e3, f3, x3, y3⟩ A3 B3 cA3 cB3 _ (by show k3.length ≤ _; omega) (by show k3.length ≤ _; omega) MA3.rd MB3.rd).mono ?_
  rintro e W24 ⟨he, hb⟩
  rw [sameL_refl] at he
  subst he
  have hz := hb.size
  have HB2 := Lib.hid (HB.out.trans (hb.mono HB.out.size))
  clear HB
  have HB := HB2
  clear HB2
  have YL := Lib.hid (show W24.heap[w.heap.size]? = some (.cells #[.slice ao key.length cap, .int .i64 side, .int .i64 cur, .int .i64 next, .int .u64 send, .int .u64 ceil, .int .i64 sec, .int .i64 nano] 27 (0, 0)) from (hb.block (w.heap.size) lL).trans XL.out)
  have lL2 : w.heap.size < W24.heap.size := by omega
  clear XL lL
  have XL := YL
  have lL := lL2
  clear YL lL2
  have YN := Lib.hid (show W24.heap[w.heap.size + 1]? = some (.cells #[.int .i64 g, .int .i64 b, .int .u64 c, .int .u64 at1, .int .i64 ss, .int .i64 sn] 37 (0, 0)) from (hb.block (w.heap.size + 1) lN).trans XN.out)
  have lN2 : w.heap.size + 1 < W24.heap.size := by omega
  clear XN lN
  have XN := YN
  have lN := lN2
  clear YN lN2
  have YR := Lib.hid (show W24.heap[W3.heap.size]? = some (.cells #[.slice (some ⟨gr, 0, none⟩) key.length cr, .int .i64 side, .int .i64 cur, .int .i64 next, .int .u64 send, .int .u64 ceil, .int .i64 sec, .int .i64 nano] 27 (0, 0)) from (hb.block (W3.heap.size) lR).trans XR.out)
  have lR2 : W3.heap.size < W24.heap.size := by omega
  clear XR lR
  have XR := YR
  have lR := lR2
  clear YR lR2
  have Ya := Lib.hid (show W24.heap[W5.heap.size]? = some (.cells #[.slice A3 k3.length cA3, .int .i64 s3, .int .i64 c3, .int .i64 n3, .int .u64 e3, .int .u64 f3, .int .i64 x3, .int .i64 y3] 27 (0, 0)) from (hb.block (W5.heap.size) la).trans Xa.out)
  have la2 : W5.heap.size < W24.heap.size := by omega
  clear Xa la
  have Xa := Ya
  have la := la2
  clear Ya la2
  have Yb := Lib.hid (show W24.heap[W7.heap.size]? = some (.cells #[.slice B3 k3.length cB3, .int .i64 s3, .int .i64 c3, .int .i64 n3, .int .u64 e3, .int .u64 f3, .int .i64 x3, .int .i64 y3] 27 (0, 0)) from (hb.block (W7.heap.size) lb).trans Xb.out)
  have lb2 : W7.heap.size < W24.heap.size := by omega
  clear Xb lb
  have Xb := Yb
  have lb := lb2
  clear Yb lb2
  have Yc := Lib.hid (show W24.heap[W10.heap.size]? = some (.cells #[.slice A1 k1.length cA1, .int .i64 s1, .int .i64 c1, .int .i64 n1, .int .u64 e1, .int .u64 f1, .int .i64 x1, .int .i64 y1] 27 (0, 0)) from (hb.block (W10.heap.size) lc).trans Xc.out)
  have lc2 : W10.heap.size < W24.heap.size := by omega
  clear Xc lc
  have Xc := Yc
  have lc := lc2
  clear Yc lc2
  have Yd := Lib.hid (show W24.heap[W12.heap.size]? = some (.cells #[.slice B1 k1.length cB1, .int .i64 s1, .int .i64 c1, .int .i64 n1, .int .u64 e1, .int .u64 f1, .int .i64 x1, .int .i64 y1] 27 (0, 0)) from (hb.block (W12.heap.size) ld).trans Xd.out)
  have ld2 : W12.heap.size < W24.heap.size := by omega
  clear Xd ld
  have Xd := Yd
  have ld := ld2
  clear Yd ld2
  have NA3 := Mine.below MA3 hb
  clear MA3
  have MA3 := NA3
  clear NA3
  have NB3 := Mine.below MB3 hb
  clear MB3
  have MB3 := NB3
  clear NB3
  have N0 := Own.below O0 hb O0.lt
  clear O0
  have O0 := N0
  clear N0
  clear hb hz
  clear mA3_L
  clear mA3_N
  clear mA3_R
  clear mA3_a
  clear mA3_b
  clear mA3_c
  clear mA3_d
  clear MA3
  clear mB3_L
  clear mB3_N
  clear mB3_R
  clear mB3_a
  clear mB3_b
  clear mB3_c
  clear mB3_d
  clear MB3
  have xR := XR.out
  have qR_0 : W24.cell? ⟨W3.heap.size, 0, none⟩ = some (.slice (some ⟨gr, 0, none⟩) key.length cr) := cell_of_row W24 (W3.heap.size) 0 _ _ _ xR
  have qR_1 : W24.cell? ⟨W3.heap.size, 1, none⟩ = some (.int .i64 side) := cell_of_row W24 (W3.heap.size) 1 _ _ _ xR
  have qR_2 : W24.cell? ⟨W3.heap.size, 2, none⟩ = some (.int .i64 cur) := cell_of_row W24 (W3.heap.size) 2 _ _ _ xR
  have qR_3 : W24.cell? ⟨W3.heap.size, 3, none⟩ = some (.int .i64 next) := cell_of_row W24 (W3.heap.size) 3 _ _ _ xR
  have qR_4 : W24.cell? ⟨W3.heap.size, 4, none⟩ = some (.int .u64 send) := cell_of_row W24 (W3.heap.size) 4 _ _ _ xR
  have qR_5 : W24.cell? ⟨W3.heap.size, 5, none⟩ = some (.int .u64 ceil) := cell_of_row W24 (W3.heap.size) 5 _ _ _ xR
  have qR_6 : W24.cell? ⟨W3.heap.size, 6, none⟩ = some (.int .i64 sec) := cell_of_row W24 (W3.heap.size) 6 _ _ _ xR
  have qR_7 : W24.cell? ⟨W3.heap.size, 7, none⟩ = some (.int .i64 nano) := cell_of_row W24 (W3.heap.size) 7 _ _ _ xR
  have qR_f (i : Nat) : W24.frozen? ⟨W3.heap.size, i, none⟩ = false := frozen_of_row W24 (W3.heap.size) i _ _ xR
  clear xR
  have xN := XN.out
  have qN_0 : W24.cell? ⟨w.heap.size + 1, 0, none⟩ = some (.int .i64 g) := cell_of_row W24 (w.heap.size + 1) 0 _ _ _ xN
  have qN_1 : W24.cell? ⟨w.heap.size + 1, 1, none⟩ = some (.int .i64 b) := cell_of_row W24 (w.heap.size + 1) 1 _ _ _ xN
  have qN_2 : W24.cell? ⟨w.heap.size + 1, 2, none⟩ = some (.int .u64 c) := cell_of_row W24 (w.heap.size + 1) 2 _ _ _ xN
  have qN_3 : W24.cell? ⟨w.heap.size + 1, 3, none⟩ = some (.int .u64 at1) := cell_of_row W24 (w.heap.size + 1) 3 _ _ _ xN
  have qN_4 : W24.cell? ⟨w.heap.size + 1, 4, none⟩ = some (.int .i64 ss) := cell_of_row W24 (w.heap.size + 1) 4 _ _ _ xN
  have qN_5 : W24.cell? ⟨w.heap.size + 1, 5, none⟩ = some (.int .i64 sn) := cell_of_row W24 (w.heap.size + 1) 5 _ _ _ xN
  have qN_f (i : Nat) : W24.frozen? ⟨w.heap.size + 1, i, none⟩ = false := frozen_of_row W24 (w.heap.size + 1) i _ _ xN
  clear xN
  go_wp2_with fail
  clear qR_0 qR_1 qR_2 qR_3 qR_4 qR_5 qR_6 qR_7 qR_f
  clear qN_0 qN_1 qN_2 qN_3 qN_4 qN_5 qN_f
  refine (laneRaise ⟨key, side, cur, next, send, ceil, sec, nano⟩ (some ⟨gr, 0, none⟩) cr c b hc0 hc1 _ HF.out (by exact O0.pre.rd)).mono ?_
  rintro e W25 ⟨A4, cA4, he, Mx, hb⟩
  rw [HN4.out] at he Mx
  obtain rfl : e = .returned (.agg #[.slice A4 k4.length cA4, .int .i64 s4, .int .i64 c4, .int .i64 n4, .int .u64 e4, .int .u64 f4, .int .i64 x4, .int .i64 y4]) := he
  have MA4 : Mine _ _ _ A4 cA4 k4 := Mx
  clear Mx
  have hz := hb.size
  have HB2 := Lib.hid (HB.out.trans (hb.mono HB.out.size))
  clear HB
  have HB := HB2
  clear HB2
  have YL := Lib.hid (show W25.heap[w.heap.size]? = some (.cells #[.slice ao key.length cap, .int .i64 side, .int .i64 cur, .int .i64 next, .int .u64 send, .int .u64 ceil, .int .i64 sec, .int .i64 nano] 27 (0, 0)) from (hb.block (w.heap.size) lL).trans XL.out)
  have lL2 : w.heap.size < W25.heap.size := by omega
  have mA4_L : w.heap.size < W24.heap.size := lL
  clear XL lL
  have XL := YL
  have lL := lL2
  clear YL lL2
  have YN := Lib.hid (show W25.heap[w.heap.size + 1]? = some (.cells #[.int .i64 g, .int .i64 b, .int .u64 c, .int .u64 at1, .int .i64 ss, .int .i64 sn] 37 (0, 0)) from (hb.block (w.heap.size + 1) lN).trans XN.out)
  have lN2 : w.heap.size + 1 < W25.heap.size := by omega
  have mA4_N : w.heap.size + 1 < W24.heap.size := lN
  clear XN lN
  have XN := YN
  have lN := lN2
  clear YN lN2
  have YR := Lib.hid (show W25.heap[W3.heap.size]? = some (.cells #[.slice (some ⟨gr, 0, none⟩) key.length cr, .int .i64 side, .int .i64 cur, .int .i64 next, .int .u64 send, .int .u64 ceil, .int .i64 sec, .int .i64 nano] 27 (0, 0)) from (hb.block (W3.heap.size) lR).trans XR.out)
  have lR2 : W3.heap.size < W25.heap.size := by omega
  have mA4_R : W3.heap.size < W24.heap.size := lR
  clear XR lR
  have XR := YR
  have lR := lR2
  clear YR lR2
  have Ya := Lib.hid (show W25.heap[W5.heap.size]? = some (.cells #[.slice A3 k3.length cA3, .int .i64 s3, .int .i64 c3, .int .i64 n3, .int .u64 e3, .int .u64 f3, .int .i64 x3, .int .i64 y3] 27 (0, 0)) from (hb.block (W5.heap.size) la).trans Xa.out)
  have la2 : W5.heap.size < W25.heap.size := by omega
  have mA4_a : W5.heap.size < W24.heap.size := la
  clear Xa la
  have Xa := Ya
  have la := la2
  clear Ya la2
  have Yb := Lib.hid (show W25.heap[W7.heap.size]? = some (.cells #[.slice B3 k3.length cB3, .int .i64 s3, .int .i64 c3, .int .i64 n3, .int .u64 e3, .int .u64 f3, .int .i64 x3, .int .i64 y3] 27 (0, 0)) from (hb.block (W7.heap.size) lb).trans Xb.out)
  have lb2 : W7.heap.size < W25.heap.size := by omega
  have mA4_b : W7.heap.size < W24.heap.size := lb
  clear Xb lb
  have Xb := Yb
  have lb := lb2
  clear Yb lb2
  have Yc := Lib.hid (show W25.heap[W10.heap.size]? = some (.cells #[.slice A1 k1.length cA1, .int .i64 s1, .int .i64 c1, .int .i64 n1, .int .u64 e1, .int .u64 f1, .int .i64 x1, .int .i64 y1] 27 (0, 0)) from (hb.block (W10.heap.size) lc).trans Xc.out)
  have lc2 : W10.heap.size < W25.heap.size := by omega
  have mA4_c : W10.heap.size < W24.heap.size := lc
  clear Xc lc
  have Xc := Yc
  have lc := lc2
  clear Yc lc2
  have Yd := Lib.hid (show W25.heap[W12.heap.size]? = some (.cells #[.slice B1 k1.length cB1, .int .i64 s1, .int .i64 c1, .int .i64 n1, .int .u64 e1, .int .u64 f1, .int .i64 x1, .int .i64 y1] 27 (0, 0)) from (hb.block (W12.heap.size) ld).trans Xd.out)
  have ld2 : W12.heap.size < W25.heap.size := by omega
  have mA4_d : W12.heap.size < W24.heap.size := ld
  clear Xd ld
  have Xd := Yd
  have ld := ld2
  clear Yd ld2
  have N0 := Own.below O0 hb O0.lt
  clear O0
  have O0 := N0
  clear N0
  clear hb hz
  have xL := XL.out
  have qL_0 : W25.cell? ⟨w.heap.size, 0, none⟩ = some (.slice ao key.length cap) := cell_of_row W25 (w.heap.size) 0 _ _ _ xL
  have qL_1 : W25.cell? ⟨w.heap.size, 1, none⟩ = some (.int .i64 side) := cell_of_row W25 (w.heap.size) 1 _ _ _ xL
  have qL_2 : W25.cell? ⟨w.heap.size, 2, none⟩ = some (.int .i64 cur) := cell_of_row W25 (w.heap.size) 2 _ _ _ xL
  have qL_3 : W25.cell? ⟨w.heap.size, 3, none⟩ = some (.int .i64 next) := cell_of_row W25 (w.heap.size) 3 _ _ _ xL
  have qL_4 : W25.cell? ⟨w.heap.size, 4, none⟩ = some (.int .u64 send) := cell_of_row W25 (w.heap.size) 4 _ _ _ xL
  have qL_5 : W25.cell? ⟨w.heap.size, 5, none⟩ = some (.int .u64 ceil) := cell_of_row W25 (w.heap.size) 5 _ _ _ xL
  have qL_6 : W25.cell? ⟨w.heap.size, 6, none⟩ = some (.int .i64 sec) := cell_of_row W25 (w.heap.size) 6 _ _ _ xL
  have qL_7 : W25.cell? ⟨w.heap.size, 7, none⟩ = some (.int .i64 nano) := cell_of_row W25 (w.heap.size) 7 _ _ _ xL
  have qL_f (i : Nat) : W25.frozen? ⟨w.heap.size, i, none⟩ = false := frozen_of_row W25 (w.heap.size) i _ _ xL
  clear xL
  have xN := XN.out
  have qN_0 : W25.cell? ⟨w.heap.size + 1, 0, none⟩ = some (.int .i64 g) := cell_of_row W25 (w.heap.size + 1) 0 _ _ _ xN
  have qN_1 : W25.cell? ⟨w.heap.size + 1, 1, none⟩ = some (.int .i64 b) := cell_of_row W25 (w.heap.size + 1) 1 _ _ _ xN
  have qN_2 : W25.cell? ⟨w.heap.size + 1, 2, none⟩ = some (.int .u64 c) := cell_of_row W25 (w.heap.size + 1) 2 _ _ _ xN
  have qN_3 : W25.cell? ⟨w.heap.size + 1, 3, none⟩ = some (.int .u64 at1) := cell_of_row W25 (w.heap.size + 1) 3 _ _ _ xN
  have qN_4 : W25.cell? ⟨w.heap.size + 1, 4, none⟩ = some (.int .i64 ss) := cell_of_row W25 (w.heap.size + 1) 4 _ _ _ xN
  have qN_5 : W25.cell? ⟨w.heap.size + 1, 5, none⟩ = some (.int .i64 sn) := cell_of_row W25 (w.heap.size + 1) 5 _ _ _ xN
  have qN_f (i : Nat) : W25.frozen? ⟨w.heap.size + 1, i, none⟩ = false := frozen_of_row W25 (w.heap.size + 1) i _ _ xN
  clear xN
  have xa := Xa.out
  have qa_0 : W25.cell? ⟨W5.heap.size, 0, none⟩ = some (.slice A3 k3.length cA3) := cell_of_row W25 (W5.heap.size) 0 _ _ _ xa
  have qa_1 : W25.cell? ⟨W5.heap.size, 1, none⟩ = some (.int .i64 s3) := cell_of_row W25 (W5.heap.size) 1 _ _ _ xa
  have qa_2 : W25.cell? ⟨W5.heap.size, 2, none⟩ = some (.int .i64 c3) := cell_of_row W25 (W5.heap.size) 2 _ _ _ xa
  have qa_3 : W25.cell? ⟨W5.heap.size, 3, none⟩ = some (.int .i64 n3) := cell_of_row W25 (W5.heap.size) 3 _ _ _ xa
  have qa_4 : W25.cell? ⟨W5.heap.size, 4, none⟩ = some (.int .u64 e3) := cell_of_row W25 (W5.heap.size) 4 _ _ _ xa
  have qa_5 : W25.cell? ⟨W5.heap.size, 5, none⟩ = some (.int .u64 f3) := cell_of_row W25 (W5.heap.size) 5 _ _ _ xa
  have qa_6 : W25.cell? ⟨W5.heap.size, 6, none⟩ = some (.int .i64 x3) := cell_of_row W25 (W5.heap.size) 6 _ _ _ xa
  have qa_7 : W25.cell? ⟨W5.heap.size, 7, none⟩ = some (.int .i64 y3) := cell_of_row W25 (W5.heap.size) 7 _ _ _ xa
  have qa_f (i : Nat) : W25.frozen? ⟨W5.heap.size, i, none⟩ = false := frozen_of_row W25 (W5.heap.size) i _ _ xa
  clear xa
  go_wp2_with fail
  generalize hU : ((((((((W25.setCell ⟨W5.heap.size, 0, none⟩ (.slice A4 k4.length cA4)).setCell ⟨W5.heap.size, 1, none⟩ (.int .i64 s4)).setCell ⟨W5.heap.size, 2, none⟩ (.int .i64 c4)).setCell ⟨W5.heap.size, 3, none⟩ (.int .i64 n4)).setCell ⟨W5.heap.size, 4, none⟩ (.int .u64 e4)).setCell ⟨W5.heap.size, 5, none⟩ (.int .u64 f4)).setCell ⟨W5.heap.size, 6, none⟩ (.int .i64 x4)).setCell ⟨W5.heap.size, 7, none⟩ (.int .i64 y4)) = U26
  clear qL_0 qL_1 qL_2 qL_3 qL_4 qL_5 qL_6 qL_7 qL_f
  clear qN_0 qN_1 qN_2 qN_3 qN_4 qN_5 qN_f
  clear qa_0 qa_1 qa_2 qa_3 qa_4 qa_5 qa_6 qa_7 qa_f
  obtain ⟨hx, hsz, hO⟩ := set8 hU Xa.out rfl
  have HB2 := Lib.hid (HB.out.trans (hO.below (B := w.heap.size) (fun k hk => by omega) HB.out.size))
  clear HB
  have HB := HB2
  clear HB2
  have YL := Lib.hid (show U26.heap[w.heap.size]? = some (.cells #[.slice ao key.length cap, .int .i64 side, .int .i64 cur, .int .i64 next, .int .u64 send, .int .u64 ceil, .int .i64 sec, .int .i64 nano] 27 (0, 0)) from (hO.block (w.heap.size) lL (by omega)).trans XL.out)
  have lL2 : w.heap.size < U26.heap.size := by omega
  clear XL
  have XL := YL
  clear YL
  have YN := Lib.hid (show U26.heap[w.heap.size + 1]? = some (.cells #[.int .i64 g, .int .i64 b, .int .u64 c, .int .u64 at1, .int .i64 ss, .int .i64 sn] 37 (0, 0)) from (hO.block (w.heap.size + 1) lN (by omega)).trans XN.out)
  have lN2 : w.heap.size + 1 < U26.heap.size := by omega
  clear XN
  have XN := YN
  clear YN
  have YR := Lib.hid (show U26.heap[W3.heap.size]? = some (.cells #[.slice (some ⟨gr, 0, none⟩) key.length cr, .int .i64 side, .int .i64 cur, .int .i64 next, .int .u64 send, .int .u64 ceil, .int .i64 sec, .int .i64 nano] 27 (0, 0)) from (hO.block (W3.heap.size) lR (by omega)).trans XR.out)
  have lR2 : W3.heap.size < U26.heap.size := by omega
  clear XR
  have XR := YR
  clear YR
  have Ya := Lib.hid hx
  have la2 : W5.heap.size < U26.heap.size := by omega
  clear Xa
  have Xa := Ya
  clear Ya
  have Yb := Lib.hid (show U26.heap[W7.heap.size]? = some (.cells #[.slice B3 k3.length cB3, .int .i64 s3, .int .i64 c3, .int .i64 n3, .int .u64 e3, .int .u64 f3, .int .i64 x3, .int .i64 y3] 27 (0, 0)) from (hO.block (W7.heap.size) lb (by omega)).trans Xb.out)
  have lb2 : W7.heap.size < U26.heap.size := by omega
  clear Xb
  have Xb := Yb
  clear Yb
  have Yc := Lib.hid (show U26.heap[W10.heap.size]? = some (.cells #[.slice A1 k1.length cA1, .int .i64 s1, .int .i64 c1, .int .i64 n1, .int .u64 e1, .int .u64 f1, .int .i64 x1, .int .i64 y1] 27 (0, 0)) from (hO.block (W10.heap.size) lc (by omega)).trans Xc.out)
  have lc2 : W10.heap.size < U26.heap.size := by omega
  clear Xc
  have Xc := Yc
  clear Yc
  have Yd := Lib.hid (show U26.heap[W12.heap.size]? = some (.cells #[.slice B1 k1.length cB1, .int .i64 s1, .int .i64 c1, .int .i64 n1, .int .u64 e1, .int .u64 f1, .int .i64 x1, .int .i64 y1] 27 (0, 0)) from (hO.block (W12.heap.size) ld (by omega)).trans Xd.out)
  have ld2 : W12.heap.size < U26.heap.size := by omega
  clear Xd
  have Xd := Yd
  clear Yd
  clear lL
  have lL := lL2
  clear lL2
  clear lN
  have lN := lN2
  clear lN2
  clear lR
  have lR := lR2
  clear lR2
  clear la
  have la := la2
  clear la2
  clear lb
  have lb := lb2
  clear lb2
  clear lc
  have lc := lc2
  clear lc2
  clear ld
  have ld := ld2
  clear ld2
  have NA4 := Mine.only MA4 hO (fun a ha => by have h1 := Mine.at MA4 a ha; omega)
  clear MA4
  have MA4 := NA4
  clear NA4
  have N0 := Own.only O0 hO (by omega)
  clear O0
  have O0 := N0
  clear N0
  clear hU hx hsz hO
  refine (refRaise ⟨key, side, cur, next, send, ceil, sec, nano⟩ ao cap c b hc0 hc1 _ HF.out (hr.on HB.out)).mono ?_
  rintro e W27 ⟨B4, cB4, he, Mx, hb⟩
  rw [HN4.out] at he Mx
  obtain rfl : e = .returned (.agg #[.slice B4 k4.length cB4, .int .i64 s4, .int .i64 c4, .int .i64 n4, .int .u64 e4, .int .u64 f4, .int .i64 x4, .int .i64 y4]) := he
  have MB4 : Mine _ _ _ B4 cB4 k4 := Mx
  clear Mx
  have hz := hb.size
  have HB2 := Lib.hid (HB.out.trans (hb.mono HB.out.size))
  clear HB
  have HB := HB2
  clear HB2
  have YL := Lib.hid (show W27.heap[w.heap.size]? = some (.cells #[.slice ao key.length cap, .int .i64 side, .int .i64 cur, .int .i64 next, .int .u64 send, .int .u64 ceil, .int .i64 sec, .int .i64 nano] 27 (0, 0)) from (hb.block (w.heap.size) lL).trans XL.out)
  have lL2 : w.heap.size < W27.heap.size := by omega
  have mB4_L : w.heap.size < U26.heap.size := lL
  clear XL lL
  have XL := YL
  have lL := lL2
  clear YL lL2
  have YN := Lib.hid (show W27.heap[w.heap.size + 1]? = some (.cells #[.int .i64 g, .int .i64 b, .int .u64 c, .int .u64 at1, .int .i64 ss, .int .i64 sn] 37 (0, 0)) from (hb.block (w.heap.size + 1) lN).trans XN.out)
  have lN2 : w.heap.size + 1 < W27.heap.size := by omega
  have mB4_N : w.heap.size + 1 < U26.heap.size := lN
  clear XN lN
  have XN := YN
  have lN := lN2
  clear YN lN2
  have YR := Lib.hid (show W27.heap[W3.heap.size]? = some (.cells #[.slice (some ⟨gr, 0, none⟩) key.length cr, .int .i64 side, .int .i64 cur, .int .i64 next, .int .u64 send, .int .u64 ceil, .int .i64 sec, .int .i64 nano] 27 (0, 0)) from (hb.block (W3.heap.size) lR).trans XR.out)
  have lR2 : W3.heap.size < W27.heap.size := by omega
  have mB4_R : W3.heap.size < U26.heap.size := lR
  clear XR lR
  have XR := YR
  have lR := lR2
  clear YR lR2
  have Ya := Lib.hid (show W27.heap[W5.heap.size]? = some (.cells #[.slice A4 k4.length cA4, .int .i64 s4, .int .i64 c4, .int .i64 n4, .int .u64 e4, .int .u64 f4, .int .i64 x4, .int .i64 y4] 27 (0, 0)) from (hb.block (W5.heap.size) la).trans Xa.out)
  have la2 : W5.heap.size < W27.heap.size := by omega
  have mB4_a : W5.heap.size < U26.heap.size := la
  clear Xa la
  have Xa := Ya
  have la := la2
  clear Ya la2
  have Yb := Lib.hid (show W27.heap[W7.heap.size]? = some (.cells #[.slice B3 k3.length cB3, .int .i64 s3, .int .i64 c3, .int .i64 n3, .int .u64 e3, .int .u64 f3, .int .i64 x3, .int .i64 y3] 27 (0, 0)) from (hb.block (W7.heap.size) lb).trans Xb.out)
  have lb2 : W7.heap.size < W27.heap.size := by omega
  have mB4_b : W7.heap.size < U26.heap.size := lb
  clear Xb lb
  have Xb := Yb
  have lb := lb2
  clear Yb lb2
  have Yc := Lib.hid (show W27.heap[W10.heap.size]? = some (.cells #[.slice A1 k1.length cA1, .int .i64 s1, .int .i64 c1, .int .i64 n1, .int .u64 e1, .int .u64 f1, .int .i64 x1, .int .i64 y1] 27 (0, 0)) from (hb.block (W10.heap.size) lc).trans Xc.out)
  have lc2 : W10.heap.size < W27.heap.size := by omega
  have mB4_c : W10.heap.size < U26.heap.size := lc
  clear Xc lc
  have Xc := Yc
  have lc := lc2
  clear Yc lc2
  have Yd := Lib.hid (show W27.heap[W12.heap.size]? = some (.cells #[.slice B1 k1.length cB1, .int .i64 s1, .int .i64 c1, .int .i64 n1, .int .u64 e1, .int .u64 f1, .int .i64 x1, .int .i64 y1] 27 (0, 0)) from (hb.block (W12.heap.size) ld).trans Xd.out)
  have ld2 : W12.heap.size < W27.heap.size := by omega
  have mB4_d : W12.heap.size < U26.heap.size := ld
  clear Xd ld
  have Xd := Yd
  have ld := ld2
  clear Yd ld2
  have NA4 := Mine.below MA4 hb
  clear MA4
  have MA4 := NA4
  clear NA4
  have N0 := Own.below O0 hb O0.lt
  clear O0
  have O0 := N0
  clear N0
  clear hb hz
  have xa := Xa.out
  have qa_0 : W27.cell? ⟨W5.heap.size, 0, none⟩ = some (.slice A4 k4.length cA4) := cell_of_row W27 (W5.heap.size) 0 _ _ _ xa
  have qa_1 : W27.cell? ⟨W5.heap.size, 1, none⟩ = some (.int .i64 s4) := cell_of_row W27 (W5.heap.size) 1 _ _ _ xa
  have qa_2 : W27.cell? ⟨W5.heap.size, 2, none⟩ = some (.int .i64 c4) := cell_of_row W27 (W5.heap.size) 2 _ _ _ xa
  have qa_3 : W27.cell? ⟨W5.heap.size, 3, none⟩ = some (.int .i64 n4) := cell_of_row W27 (W5.heap.size) 3 _ _ _ xa
  have qa_4 : W27.cell? ⟨W5.heap.size, 4, none⟩ = some (.int .u64 e4) := cell_of_row W27 (W5.heap.size) 4 _ _ _ xa
  have qa_5 : W27.cell? ⟨W5.heap.size, 5, none⟩ = some (.int .u64 f4) := cell_of_row W27 (W5.heap.size) 5 _ _ _ xa
  have qa_6 : W27.cell? ⟨W5.heap.size, 6, none⟩ = some (.int .i64 x4) := cell_of_row W27 (W5.heap.size) 6 _ _ _ xa
  have qa_7 : W27.cell? ⟨W5.heap.size, 7, none⟩ = some (.int .i64 y4) := cell_of_row W27 (W5.heap.size) 7 _ _ _ xa
  have qa_f (i : Nat) : W27.frozen? ⟨W5.heap.size, i, none⟩ = false := frozen_of_row W27 (W5.heap.size) i _ _ xa
  clear xa
  have xb := Xb.out
  have qb_0 : W27.cell? ⟨W7.heap.size, 0, none⟩ = some (.slice B3 k3.length cB3) := cell_of_row W27 (W7.heap.size) 0 _ _ _ xb
  have qb_1 : W27.cell? ⟨W7.heap.size, 1, none⟩ = some (.int .i64 s3) := cell_of_row W27 (W7.heap.size) 1 _ _ _ xb
  have qb_2 : W27.cell? ⟨W7.heap.size, 2, none⟩ = some (.int .i64 c3) := cell_of_row W27 (W7.heap.size) 2 _ _ _ xb
  have qb_3 : W27.cell? ⟨W7.heap.size, 3, none⟩ = some (.int .i64 n3) := cell_of_row W27 (W7.heap.size) 3 _ _ _ xb
  have qb_4 : W27.cell? ⟨W7.heap.size, 4, none⟩ = some (.int .u64 e3) := cell_of_row W27 (W7.heap.size) 4 _ _ _ xb
  have qb_5 : W27.cell? ⟨W7.heap.size, 5, none⟩ = some (.int .u64 f3) := cell_of_row W27 (W7.heap.size) 5 _ _ _ xb
  have qb_6 : W27.cell? ⟨W7.heap.size, 6, none⟩ = some (.int .i64 x3) := cell_of_row W27 (W7.heap.size) 6 _ _ _ xb
  have qb_7 : W27.cell? ⟨W7.heap.size, 7, none⟩ = some (.int .i64 y3) := cell_of_row W27 (W7.heap.size) 7 _ _ _ xb
  have qb_f (i : Nat) : W27.frozen? ⟨W7.heap.size, i, none⟩ = false := frozen_of_row W27 (W7.heap.size) i _ _ xb
  clear xb
  go_wp2_with fail
  generalize hU : ((((((((W27.setCell ⟨W7.heap.size, 0, none⟩ (.slice B4 k4.length cB4)).setCell ⟨W7.heap.size, 1, none⟩ (.int .i64 s4)).setCell ⟨W7.heap.size, 2, none⟩ (.int .i64 c4)).setCell ⟨W7.heap.size, 3, none⟩ (.int .i64 n4)).setCell ⟨W7.heap.size, 4, none⟩ (.int .u64 e4)).setCell ⟨W7.heap.size, 5, none⟩ (.int .u64 f4)).setCell ⟨W7.heap.size, 6, none⟩ (.int .i64 x4)).setCell ⟨W7.heap.size, 7, none⟩ (.int .i64 y4)) = U28
  clear qa_0 qa_1 qa_2 qa_3 qa_4 qa_5 qa_6 qa_7 qa_f
  clear qb_0 qb_1 qb_2 qb_3 qb_4 qb_5 qb_6 qb_7 qb_f
  obtain ⟨hx, hsz, hO⟩ := set8 hU Xb.out rfl
  have HB2 := Lib.hid (HB.out.trans (hO.below (B := w.heap.size) (fun k hk => by omega) HB.out.size))
  clear HB
  have HB := HB2
  clear HB2
  have YL := Lib.hid (show U28.heap[w.heap.size]? = some (.cells #[.slice ao key.length cap, .int .i64 side, .int .i64 cur, .int .i64 next, .int .u64 send, .int .u64 ceil, .int .i64 sec, .int .i64 nano] 27 (0, 0)) from (hO.block (w.heap.size) lL (by omega)).trans XL.out)
  have lL2 : w.heap.size < U28.heap.size := by omega
  clear XL
  have XL := YL
  clear YL
  have YN := Lib.hid (show U28.heap[w.heap.size + 1]? = some (.cells #[.int .i64 g, .int .i64 b, .int .u64 c, .int .u64 at1, .int .i64 ss, .int .i64 sn] 37 (0, 0)) from (hO.block (w.heap.size + 1) lN (by omega)).trans XN.out)
  have lN2 : w.heap.size + 1 < U28.heap.size := by omega
  clear XN
  have XN := YN
  clear YN
  have YR := Lib.hid (show U28.heap[W3.heap.size]? = some (.cells #[.slice (some ⟨gr, 0, none⟩) key.length cr, .int .i64 side, .int .i64 cur, .int .i64 next, .int .u64 send, .int .u64 ceil, .int .i64 sec, .int .i64 nano] 27 (0, 0)) from (hO.block (W3.heap.size) lR (by omega)).trans XR.out)
  have lR2 : W3.heap.size < U28.heap.size := by omega
  clear XR
  have XR := YR
  clear YR
  have Ya := Lib.hid (show U28.heap[W5.heap.size]? = some (.cells #[.slice A4 k4.length cA4, .int .i64 s4, .int .i64 c4, .int .i64 n4, .int .u64 e4, .int .u64 f4, .int .i64 x4, .int .i64 y4] 27 (0, 0)) from (hO.block (W5.heap.size) la (by omega)).trans Xa.out)
  have la2 : W5.heap.size < U28.heap.size := by omega
  clear Xa
  have Xa := Ya
  clear Ya
  have Yb := Lib.hid hx
  have lb2 : W7.heap.size < U28.heap.size := by omega
  clear Xb
  have Xb := Yb
  clear Yb
  have Yc := Lib.hid (show U28.heap[W10.heap.size]? = some (.cells #[.slice A1 k1.length cA1, .int .i64 s1, .int .i64 c1, .int .i64 n1, .int .u64 e1, .int .u64 f1, .int .i64 x1, .int .i64 y1] 27 (0, 0)) from (hO.block (W10.heap.size) lc (by omega)).trans Xc.out)
  have lc2 : W10.heap.size < U28.heap.size := by omega
  clear Xc
  have Xc := Yc
  clear Yc
  have Yd := Lib.hid (show U28.heap[W12.heap.size]? = some (.cells #[.slice B1 k1.length cB1, .int .i64 s1, .int .i64 c1, .int .i64 n1, .int .u64 e1, .int .u64 f1, .int .i64 x1, .int .i64 y1] 27 (0, 0)) from (hO.block (W12.heap.size) ld (by omega)).trans Xd.out)
  have ld2 : W12.heap.size < U28.heap.size := by omega
  clear Xd
  have Xd := Yd
  clear Yd
  clear lL
  have lL := lL2
  clear lL2
  clear lN
  have lN := lN2
  clear lN2
  clear lR
  have lR := lR2
  clear lR2
  clear la
  have la := la2
  clear la2
  clear lb
  have lb := lb2
  clear lb2
  clear lc
  have lc := lc2
  clear lc2
  clear ld
  have ld := ld2
  clear ld2
  have NA4 := Mine.only MA4 hO (fun a ha => by have h1 := Mine.at MA4 a ha; omega)
  clear MA4
  have MA4 := NA4
  clear NA4
  have NB4 := Mine.only MB4 hO (fun a ha => by have h1 := Mine.at MB4 a ha; omega)
  clear MB4
  have MB4 := NB4
  clear NB4
  have N0 := Own.only O0 hO (by omega)
  clear O0
  have O0 := N0
  clear N0
  clear hU hx hsz hO
  refine (sameLane ⟨k4, s4, c4, n4, e4, f4, x4, y4⟩ ⟨k4, s4, c4, n4, e4, f4, x4, y4⟩ A4 B4 cA4 cB4 _ (by show k4.length ≤ _; omega) (by show k4.length ≤ _; omega) MA4.rd MB4.rd).mono ?_
  rintro e W29 ⟨he, hb⟩
  rw [sameL_refl] at he
  subst he
  have hz := hb.size
  have HB2 := Lib.hid (HB.out.trans (hb.mono HB.out.size))
  clear HB
  have HB := HB2
  clear HB2
  have YL := Lib.hid (show W29.heap[w.heap.size]? = some (.cells #[.slice ao key.length cap, .int .i64 side, .int .i64 cur, .int .i64 next, .int .u64 send, .int .u64 ceil, .int .i64 sec, .int .i64 nano] 27 (0, 0)) from (hb.block (w.heap.size) lL).trans XL.out)
  have lL2 : w.heap.size < W29.heap.size := by omega
  clear XL lL
  have XL := YL
  have lL := lL2
  clear YL lL2
  have YN := Lib.hid (show W29.heap[w.heap.size + 1]? = some (.cells #[.int .i64 g, .int .i64 b, .int .u64 c, .int .u64 at1, .int .i64 ss, .int .i64 sn] 37 (0, 0)) from (hb.block (w.heap.size + 1) lN).trans XN.out)
  have lN2 : w.heap.size + 1 < W29.heap.size := by omega
  clear XN lN
  have XN := YN
  have lN := lN2
  clear YN lN2
  have YR := Lib.hid (show W29.heap[W3.heap.size]? = some (.cells #[.slice (some ⟨gr, 0, none⟩) key.length cr, .int .i64 side, .int .i64 cur, .int .i64 next, .int .u64 send, .int .u64 ceil, .int .i64 sec, .int .i64 nano] 27 (0, 0)) from (hb.block (W3.heap.size) lR).trans XR.out)
  have lR2 : W3.heap.size < W29.heap.size := by omega
  clear XR lR
  have XR := YR
  have lR := lR2
  clear YR lR2
  have Ya := Lib.hid (show W29.heap[W5.heap.size]? = some (.cells #[.slice A4 k4.length cA4, .int .i64 s4, .int .i64 c4, .int .i64 n4, .int .u64 e4, .int .u64 f4, .int .i64 x4, .int .i64 y4] 27 (0, 0)) from (hb.block (W5.heap.size) la).trans Xa.out)
  have la2 : W5.heap.size < W29.heap.size := by omega
  clear Xa la
  have Xa := Ya
  have la := la2
  clear Ya la2
  have Yb := Lib.hid (show W29.heap[W7.heap.size]? = some (.cells #[.slice B4 k4.length cB4, .int .i64 s4, .int .i64 c4, .int .i64 n4, .int .u64 e4, .int .u64 f4, .int .i64 x4, .int .i64 y4] 27 (0, 0)) from (hb.block (W7.heap.size) lb).trans Xb.out)
  have lb2 : W7.heap.size < W29.heap.size := by omega
  clear Xb lb
  have Xb := Yb
  have lb := lb2
  clear Yb lb2
  have Yc := Lib.hid (show W29.heap[W10.heap.size]? = some (.cells #[.slice A1 k1.length cA1, .int .i64 s1, .int .i64 c1, .int .i64 n1, .int .u64 e1, .int .u64 f1, .int .i64 x1, .int .i64 y1] 27 (0, 0)) from (hb.block (W10.heap.size) lc).trans Xc.out)
  have lc2 : W10.heap.size < W29.heap.size := by omega
  clear Xc lc
  have Xc := Yc
  have lc := lc2
  clear Yc lc2
  have Yd := Lib.hid (show W29.heap[W12.heap.size]? = some (.cells #[.slice B1 k1.length cB1, .int .i64 s1, .int .i64 c1, .int .i64 n1, .int .u64 e1, .int .u64 f1, .int .i64 x1, .int .i64 y1] 27 (0, 0)) from (hb.block (W12.heap.size) ld).trans Xd.out)
  have ld2 : W12.heap.size < W29.heap.size := by omega
  clear Xd ld
  have Xd := Yd
  have ld := ld2
  clear Yd ld2
  have NA4 := Mine.below MA4 hb
  clear MA4
  have MA4 := NA4
  clear NA4
  have NB4 := Mine.below MB4 hb
  clear MB4
  have MB4 := NB4
  clear NB4
  have N0 := Own.below O0 hb O0.lt
  clear O0
  have O0 := N0
  clear N0
  clear hb hz
  clear mA4_L
  clear mA4_N
  clear mA4_R
  clear mA4_a
  clear mA4_b
  clear mA4_c
  clear mA4_d
  clear MA4
  clear mB4_L
  clear mB4_N
  clear mB4_R
  clear mB4_a
  clear mB4_b
  clear mB4_c
  clear mB4_d
  clear MB4
  have xR := XR.out
  have qR_0 : W29.cell? ⟨W3.heap.size, 0, none⟩ = some (.slice (some ⟨gr, 0, none⟩) key.length cr) := cell_of_row W29 (W3.heap.size) 0 _ _ _ xR
  have qR_1 : W29.cell? ⟨W3.heap.size, 1, none⟩ = some (.int .i64 side) := cell_of_row W29 (W3.heap.size) 1 _ _ _ xR
  have qR_2 : W29.cell? ⟨W3.heap.size, 2, none⟩ = some (.int .i64 cur) := cell_of_row W29 (W3.heap.size) 2 _ _ _ xR
  have qR_3 : W29.cell? ⟨W3.heap.size, 3, none⟩ = some (.int .i64 next) := cell_of_row W29 (W3.heap.size) 3 _ _ _ xR
  have qR_4 : W29.cell? ⟨W3.heap.size, 4, none⟩ = some (.int .u64 send) := cell_of_row W29 (W3.heap.size) 4 _ _ _ xR
  have qR_5 : W29.cell? ⟨W3.heap.size, 5, none⟩ = some (.int .u64 ceil) := cell_of_row W29 (W3.heap.size) 5 _ _ _ xR
  have qR_6 : W29.cell? ⟨W3.heap.size, 6, none⟩ = some (.int .i64 sec) := cell_of_row W29 (W3.heap.size) 6 _ _ _ xR
  have qR_7 : W29.cell? ⟨W3.heap.size, 7, none⟩ = some (.int .i64 nano) := cell_of_row W29 (W3.heap.size) 7 _ _ _ xR
  have qR_f (i : Nat) : W29.frozen? ⟨W3.heap.size, i, none⟩ = false := frozen_of_row W29 (W3.heap.size) i _ _ xR
  clear xR
  have xN := XN.out
  have qN_0 : W29.cell? ⟨w.heap.size + 1, 0, none⟩ = some (.int .i64 g) := cell_of_row W29 (w.heap.size + 1) 0 _ _ _ xN
  have qN_1 : W29.cell? ⟨w.heap.size + 1, 1, none⟩ = some (.int .i64 b) := cell_of_row W29 (w.heap.size + 1) 1 _ _ _ xN
  have qN_2 : W29.cell? ⟨w.heap.size + 1, 2, none⟩ = some (.int .u64 c) := cell_of_row W29 (w.heap.size + 1) 2 _ _ _ xN
  have qN_3 : W29.cell? ⟨w.heap.size + 1, 3, none⟩ = some (.int .u64 at1) := cell_of_row W29 (w.heap.size + 1) 3 _ _ _ xN
  have qN_4 : W29.cell? ⟨w.heap.size + 1, 4, none⟩ = some (.int .i64 ss) := cell_of_row W29 (w.heap.size + 1) 4 _ _ _ xN
  have qN_5 : W29.cell? ⟨w.heap.size + 1, 5, none⟩ = some (.int .i64 sn) := cell_of_row W29 (w.heap.size + 1) 5 _ _ _ xN
  have qN_f (i : Nat) : W29.frozen? ⟨w.heap.size + 1, i, none⟩ = false := frozen_of_row W29 (w.heap.size + 1) i _ _ xN
  clear xN
  go_wp2_with fail
  clear qR_0 qR_1 qR_2 qR_3 qR_4 qR_5 qR_6 qR_7 qR_f
  clear qN_0 qN_1 qN_2 qN_3 qN_4 qN_5 qN_f
  refine (laneAnswered ⟨key, side, cur, next, send, ceil, sec, nano⟩ (some ⟨gr, 0, none⟩) cr g c ss sn b hc0 hc1 hss _ HF.out (by exact O0.pre.rd)).mono ?_
  rintro e W30 ⟨A5, cA5, he, Mx, hb⟩
  rw [HN5.out] at he Mx
  rw [HA.out] at he
  obtain rfl : e = .returned (.tuple #[(.agg #[.slice A5 k5.length cA5, .int .i64 s5, .int .i64 c5, .int .i64 n5, .int .u64 e5, .int .u64 f5, .int .i64 x5, .int .i64 y5]), .int .u64 aa]) := he
  have MA5 : Mine _ _ _ A5 cA5 k5 := Mx
  clear Mx
  have hz := hb.size
  have HB2 := Lib.hid (HB.out.trans (hb.mono HB.out.size))
  clear HB
  have HB := HB2
  clear HB2
  have YL := Lib.hid (show W30.heap[w.heap.size]? = some (.cells #[.slice ao key.length cap, .int .i64 side, .int .i64 cur, .int .i64 next, .int .u64 send, .int .u64 ceil, .int .i64 sec, .int .i64 nano] 27 (0, 0)) from (hb.block (w.heap.size) lL).trans XL.out)
  have lL2 : w.heap.size < W30.heap.size := by omega
  have mA5_L : w.heap.size < W29.heap.size := lL
  clear XL lL
  have XL := YL
  have lL := lL2
  clear YL lL2
  have YN := Lib.hid (show W30.heap[w.heap.size + 1]? = some (.cells #[.int .i64 g, .int .i64 b, .int .u64 c, .int .u64 at1, .int .i64 ss, .int .i64 sn] 37 (0, 0)) from (hb.block (w.heap.size + 1) lN).trans XN.out)
  have lN2 : w.heap.size + 1 < W30.heap.size := by omega
  have mA5_N : w.heap.size + 1 < W29.heap.size := lN
  clear XN lN
  have XN := YN
  have lN := lN2
  clear YN lN2
  have YR := Lib.hid (show W30.heap[W3.heap.size]? = some (.cells #[.slice (some ⟨gr, 0, none⟩) key.length cr, .int .i64 side, .int .i64 cur, .int .i64 next, .int .u64 send, .int .u64 ceil, .int .i64 sec, .int .i64 nano] 27 (0, 0)) from (hb.block (W3.heap.size) lR).trans XR.out)
  have lR2 : W3.heap.size < W30.heap.size := by omega
  have mA5_R : W3.heap.size < W29.heap.size := lR
  clear XR lR
  have XR := YR
  have lR := lR2
  clear YR lR2
  have Ya := Lib.hid (show W30.heap[W5.heap.size]? = some (.cells #[.slice A4 k4.length cA4, .int .i64 s4, .int .i64 c4, .int .i64 n4, .int .u64 e4, .int .u64 f4, .int .i64 x4, .int .i64 y4] 27 (0, 0)) from (hb.block (W5.heap.size) la).trans Xa.out)
  have la2 : W5.heap.size < W30.heap.size := by omega
  have mA5_a : W5.heap.size < W29.heap.size := la
  clear Xa la
  have Xa := Ya
  have la := la2
  clear Ya la2
  have Yb := Lib.hid (show W30.heap[W7.heap.size]? = some (.cells #[.slice B4 k4.length cB4, .int .i64 s4, .int .i64 c4, .int .i64 n4, .int .u64 e4, .int .u64 f4, .int .i64 x4, .int .i64 y4] 27 (0, 0)) from (hb.block (W7.heap.size) lb).trans Xb.out)
  have lb2 : W7.heap.size < W30.heap.size := by omega
  have mA5_b : W7.heap.size < W29.heap.size := lb
  clear Xb lb
  have Xb := Yb
  have lb := lb2
  clear Yb lb2
  have Yc := Lib.hid (show W30.heap[W10.heap.size]? = some (.cells #[.slice A1 k1.length cA1, .int .i64 s1, .int .i64 c1, .int .i64 n1, .int .u64 e1, .int .u64 f1, .int .i64 x1, .int .i64 y1] 27 (0, 0)) from (hb.block (W10.heap.size) lc).trans Xc.out)
  have lc2 : W10.heap.size < W30.heap.size := by omega
  have mA5_c : W10.heap.size < W29.heap.size := lc
  clear Xc lc
  have Xc := Yc
  have lc := lc2
  clear Yc lc2
  have Yd := Lib.hid (show W30.heap[W12.heap.size]? = some (.cells #[.slice B1 k1.length cB1, .int .i64 s1, .int .i64 c1, .int .i64 n1, .int .u64 e1, .int .u64 f1, .int .i64 x1, .int .i64 y1] 27 (0, 0)) from (hb.block (W12.heap.size) ld).trans Xd.out)
  have ld2 : W12.heap.size < W30.heap.size := by omega
  have mA5_d : W12.heap.size < W29.heap.size := ld
  clear Xd ld
  have Xd := Yd
  have ld := ld2
  clear Yd ld2
  have N0 := Own.below O0 hb O0.lt
  clear O0
  have O0 := N0
  clear N0
  clear hb hz
  have xL := XL.out
  have qL_0 : W30.cell? ⟨w.heap.size, 0, none⟩ = some (.slice ao key.length cap) := cell_of_row W30 (w.heap.size) 0 _ _ _ xL
  have qL_1 : W30.cell? ⟨w.heap.size, 1, none⟩ = some (.int .i64 side) := cell_of_row W30 (w.heap.size) 1 _ _ _ xL
  have qL_2 : W30.cell? ⟨w.heap.size, 2, none⟩ = some (.int .i64 cur) := cell_of_row W30 (w.heap.size) 2 _ _ _ xL
  have qL_3 : W30.cell? ⟨w.heap.size, 3, none⟩ = some (.int .i64 next) := cell_of_row W30 (w.heap.size) 3 _ _ _ xL
  have qL_4 : W30.cell? ⟨w.heap.size, 4, none⟩ = some (.int .u64 send) := cell_of_row W30 (w.heap.size) 4 _ _ _ xL
  have qL_5 : W30.cell? ⟨w.heap.size, 5, none⟩ = some (.int .u64 ceil) := cell_of_row W30 (w.heap.size) 5 _ _ _ xL
  have qL_6 : W30.cell? ⟨w.heap.size, 6, none⟩ = some (.int .i64 sec) := cell_of_row W30 (w.heap.size) 6 _ _ _ xL
  have qL_7 : W30.cell? ⟨w.heap.size, 7, none⟩ = some (.int .i64 nano) := cell_of_row W30 (w.heap.size) 7 _ _ _ xL
  have qL_f (i : Nat) : W30.frozen? ⟨w.heap.size, i, none⟩ = false := frozen_of_row W30 (w.heap.size) i _ _ xL
  clear xL
  have xN := XN.out
  have qN_0 : W30.cell? ⟨w.heap.size + 1, 0, none⟩ = some (.int .i64 g) := cell_of_row W30 (w.heap.size + 1) 0 _ _ _ xN
  have qN_1 : W30.cell? ⟨w.heap.size + 1, 1, none⟩ = some (.int .i64 b) := cell_of_row W30 (w.heap.size + 1) 1 _ _ _ xN
  have qN_2 : W30.cell? ⟨w.heap.size + 1, 2, none⟩ = some (.int .u64 c) := cell_of_row W30 (w.heap.size + 1) 2 _ _ _ xN
  have qN_3 : W30.cell? ⟨w.heap.size + 1, 3, none⟩ = some (.int .u64 at1) := cell_of_row W30 (w.heap.size + 1) 3 _ _ _ xN
  have qN_4 : W30.cell? ⟨w.heap.size + 1, 4, none⟩ = some (.int .i64 ss) := cell_of_row W30 (w.heap.size + 1) 4 _ _ _ xN
  have qN_5 : W30.cell? ⟨w.heap.size + 1, 5, none⟩ = some (.int .i64 sn) := cell_of_row W30 (w.heap.size + 1) 5 _ _ _ xN
  have qN_f (i : Nat) : W30.frozen? ⟨w.heap.size + 1, i, none⟩ = false := frozen_of_row W30 (w.heap.size + 1) i _ _ xN
  clear xN
  go_wp2_with fail
  generalize hU : W30.alloc (.cells #[.slice A5 k5.length cA5, .int .i64 s5, .int .i64 c5, .int .i64 n5, .int .u64 e5, .int .u64 f5, .int .i64 x5, .int .i64 y5] 27 (0, 0)) = U31
  have HB2 := Lib.hid (show Below w.heap.size w U31 by rw [← hU]; exact below_push HB.out)
  clear HB
  have HB := HB2
  clear HB2
  clear qL_0 qL_1 qL_2 qL_3 qL_4 qL_5 qL_6 qL_7 qL_f
  clear qN_0 qN_1 qN_2 qN_3 qN_4 qN_5 qN_f
  have YL := Lib.hid (show U31.heap[w.heap.size]? = some (.cells #[.slice ao key.length cap, .int .i64 side, .int .i64 cur, .int .i64 next, .int .u64 send, .int .u64 ceil, .int .i64 sec, .int .i64 nano] 27 (0, 0)) by rw [← hU]; exact (alloc_old _ _ _ lL).trans XL.out)
  have pL_e : w.heap.size < W30.heap.size := lL
  have lL2 : w.heap.size < U31.heap.size := by rw [← hU]; simp only [alloc_size]; omega
  clear XL lL
  have XL := YL
  have lL := lL2
  clear YL lL2
  have YN := Lib.hid (show U31.heap[w.heap.size + 1]? = some (.cells #[.int .i64 g, .int .i64 b, .int .u64 c, .int .u64 at1, .int .i64 ss, .int .i64 sn] 37 (0, 0)) by rw [← hU]; exact (alloc_old _ _ _ lN).trans XN.out)
  have pN_e : w.heap.size + 1 < W30.heap.size := lN
  have lN2 : w.heap.size + 1 < U31.heap.size := by rw [← hU]; simp only [alloc_size]; omega
  clear XN lN
  have XN := YN
  have lN := lN2
  clear YN lN2
  have YR := Lib.hid (show U31.heap[W3.heap.size]? = some (.cells #[.slice (some ⟨gr, 0, none⟩) key.length cr, .int .i64 side, .int .i64 cur, .int .i64 next, .int .u64 send, .int .u64 ceil, .int .i64 sec, .int .i64 nano] 27 (0, 0)) by rw [← hU]; exact (alloc_old _ _ _ lR).trans XR.out)
  have pR_e : W3.heap.size < W30.heap.size := lR
  have lR2 : W3.heap.size < U31.heap.size := by rw [← hU]; simp only [alloc_size]; omega
  clear XR lR
  have XR := YR
  have lR := lR2
  clear YR lR2
  have Ya := Lib.hid (show U31.heap[W5.heap.size]? = some (.cells #[.slice A4 k4.length cA4, .int .i64 s4, .int .i64 c4, .int .i64 n4, .int .u64 e4, .int .u64 f4, .int .i64 x4, .int .i64 y4] 27 (0, 0)) by rw [← hU]; exact (alloc_old _ _ _ la).trans Xa.out)
  have pa_e : W5.heap.size < W30.heap.size := la
  have la2 : W5.heap.size < U31.heap.size := by rw [← hU]; simp only [alloc_size]; omega
  clear Xa la
  have Xa := Ya
  have la := la2
  clear Ya la2
  have Yb := Lib.hid (show U31.heap[W7.heap.size]? = some (.cells #[.slice B4 k4.length cB4, .int .i64 s4, .int .i64 c4, .int .i64 n4, .int .u64 e4, .int .u64 f4, .int .i64 x4, .int .i64 y4] 27 (0, 0)) by rw [← hU]; exact (alloc_old _ _ _ lb).trans Xb.out)
  have pb_e : W7.heap.size < W30.heap.size := lb
  have lb2 : W7.heap.size < U31.heap.size := by rw [← hU]; simp only [alloc_size]; omega
  clear Xb lb
  have Xb := Yb
  have lb := lb2
  clear Yb lb2
  have Yc := Lib.hid (show U31.heap[W10.heap.size]? = some (.cells #[.slice A1 k1.length cA1, .int .i64 s1, .int .i64 c1, .int .i64 n1, .int .u64 e1, .int .u64 f1, .int .i64 x1, .int .i64 y1] 27 (0, 0)) by rw [← hU]; exact (alloc_old _ _ _ lc).trans Xc.out)
  have pc_e : W10.heap.size < W30.heap.size := lc
  have lc2 : W10.heap.size < U31.heap.size := by rw [← hU]; simp only [alloc_size]; omega
  clear Xc lc
  have Xc := Yc
  have lc := lc2
  clear Yc lc2
  have Yd := Lib.hid (show U31.heap[W12.heap.size]? = some (.cells #[.slice B1 k1.length cB1, .int .i64 s1, .int .i64 c1, .int .i64 n1, .int .u64 e1, .int .u64 f1, .int .i64 x1, .int .i64 y1] 27 (0, 0)) by rw [← hU]; exact (alloc_old _ _ _ ld).trans Xd.out)
  have pd_e : W12.heap.size < W30.heap.size := ld
  have ld2 : W12.heap.size < U31.heap.size := by rw [← hU]; simp only [alloc_size]; omega
  clear Xd ld
  have Xd := Yd
  have ld := ld2
  clear Yd ld2
  have Xe := Lib.hid (show U31.heap[W30.heap.size]? = some (.cells #[.slice A5 k5.length cA5, .int .i64 s5, .int .i64 c5, .int .i64 n5, .int .u64 e5, .int .u64 f5, .int .i64 x5, .int .i64 y5] 27 (0, 0)) by rw [← hU]; exact heap_alloc_new _ _)
  have le : W30.heap.size < U31.heap.size := by rw [← hU]; simp only [alloc_size]; omega
  have NA5 := Mine.below MA5 (fresh1 W30 (.cells #[.slice A5 k5.length cA5, .int .i64 s5, .int .i64 c5, .int .i64 n5, .int .u64 e5, .int .u64 f5, .int .i64 x5, .int .i64 y5] 27 (0, 0)))
  rw [hU] at NA5
  clear MA5
  have MA5 := NA5
  clear NA5
  have o0_e : gr < W30.heap.size := O0.lt
  have N0 := Own.alloc O0 (.cells #[.slice A5 k5.length cA5, .int .i64 s5, .int .i64 c5, .int .i64 n5, .int .u64 e5, .int .u64 f5, .int .i64 x5, .int .i64 y5] 27 (0, 0))
  rw [hU] at N0
  clear O0
  have O0 := N0
  clear N0
  clear hU
  refine (refAnswered ⟨key, side, cur, next, send, ceil, sec, nano⟩ ao cap g c ss sn b hc0 hc1 _ HF.out (hr.on HB.out)).mono ?_
  rintro e W32 ⟨B5, cB5, he, Mx, hb⟩
  rw [HN5.out] at he Mx
  rw [HA.out] at he
  obtain rfl : e = .returned (.tuple #[(.agg #[.slice B5 k5.length cB5, .int .i64 s5, .int .i64 c5, .int .i64 n5, .int .u64 e5, .int .u64 f5, .int .i64 x5, .int .i64 y5]), .int .u64 aa]) := he
  have MB5 : Mine _ _ _ B5 cB5 k5 := Mx
  clear Mx
  have hz := hb.size
  have HB2 := Lib.hid (HB.out.trans (hb.mono HB.out.size))
  clear HB
  have HB := HB2
  clear HB2
  have YL := Lib.hid (show W32.heap[w.heap.size]? = some (.cells #[.slice ao key.length cap, .int .i64 side, .int .i64 cur, .int .i64 next, .int .u64 send, .int .u64 ceil, .int .i64 sec, .int .i64 nano] 27 (0, 0)) from (hb.block (w.heap.size) lL).trans XL.out)
  have lL2 : w.heap.size < W32.heap.size := by omega
  have mB5_L : w.heap.size < U31.heap.size := lL
  clear XL lL
  have XL := YL
  have lL := lL2
  clear YL lL2
  have YN := Lib.hid (show W32.heap[w.heap.size + 1]? = some (.cells #[.int .i64 g, .int .i64 b, .int .u64 c, .int .u64 at1, .int .i64 ss, .int .i64 sn] 37 (0, 0)) from (hb.block (w.heap.size + 1) lN).trans XN.out)
  have lN2 : w.heap.size + 1 < W32.heap.size := by omega
  have mB5_N : w.heap.size + 1 < U31.heap.size := lN
  clear XN lN
  have XN := YN
  have lN := lN2
  clear YN lN2
  have YR := Lib.hid (show W32.heap[W3.heap.size]? = some (.cells #[.slice (some ⟨gr, 0, none⟩) key.length cr, .int .i64 side, .int .i64 cur, .int .i64 next, .int .u64 send, .int .u64 ceil, .int .i64 sec, .int .i64 nano] 27 (0, 0)) from (hb.block (W3.heap.size) lR).trans XR.out)
  have lR2 : W3.heap.size < W32.heap.size := by omega
  have mB5_R : W3.heap.size < U31.heap.size := lR
  clear XR lR
  have XR := YR
  have lR := lR2
  clear YR lR2
  have Ya := Lib.hid (show W32.heap[W5.heap.size]? = some (.cells #[.slice A4 k4.length cA4, .int .i64 s4, .int .i64 c4, .int .i64 n4, .int .u64 e4, .int .u64 f4, .int .i64 x4, .int .i64 y4] 27 (0, 0)) from (hb.block (W5.heap.size) la).trans Xa.out)
  have la2 : W5.heap.size < W32.heap.size := by omega
  have mB5_a : W5.heap.size < U31.heap.size := la
  clear Xa la
  have Xa := Ya
  have la := la2
  clear Ya la2
  have Yb := Lib.hid (show W32.heap[W7.heap.size]? = some (.cells #[.slice B4 k4.length cB4, .int .i64 s4, .int .i64 c4, .int .i64 n4, .int .u64 e4, .int .u64 f4, .int .i64 x4, .int .i64 y4] 27 (0, 0)) from (hb.block (W7.heap.size) lb).trans Xb.out)
  have lb2 : W7.heap.size < W32.heap.size := by omega
  have mB5_b : W7.heap.size < U31.heap.size := lb
  clear Xb lb
  have Xb := Yb
  have lb := lb2
  clear Yb lb2
  have Yc := Lib.hid (show W32.heap[W10.heap.size]? = some (.cells #[.slice A1 k1.length cA1, .int .i64 s1, .int .i64 c1, .int .i64 n1, .int .u64 e1, .int .u64 f1, .int .i64 x1, .int .i64 y1] 27 (0, 0)) from (hb.block (W10.heap.size) lc).trans Xc.out)
  have lc2 : W10.heap.size < W32.heap.size := by omega
  have mB5_c : W10.heap.size < U31.heap.size := lc
  clear Xc lc
  have Xc := Yc
  have lc := lc2
  clear Yc lc2
  have Yd := Lib.hid (show W32.heap[W12.heap.size]? = some (.cells #[.slice B1 k1.length cB1, .int .i64 s1, .int .i64 c1, .int .i64 n1, .int .u64 e1, .int .u64 f1, .int .i64 x1, .int .i64 y1] 27 (0, 0)) from (hb.block (W12.heap.size) ld).trans Xd.out)
  have ld2 : W12.heap.size < W32.heap.size := by omega
  have mB5_d : W12.heap.size < U31.heap.size := ld
  clear Xd ld
  have Xd := Yd
  have ld := ld2
  clear Yd ld2
  have Ye := Lib.hid (show W32.heap[W30.heap.size]? = some (.cells #[.slice A5 k5.length cA5, .int .i64 s5, .int .i64 c5, .int .i64 n5, .int .u64 e5, .int .u64 f5, .int .i64 x5, .int .i64 y5] 27 (0, 0)) from (hb.block (W30.heap.size) le).trans Xe.out)
  have le2 : W30.heap.size < W32.heap.size := by omega
  have mB5_e : W30.heap.size < U31.heap.size := le
  clear Xe le
  have Xe := Ye
  have le := le2
  clear Ye le2
  have NA5 := Mine.below MA5 hb
  clear MA5
  have MA5 := NA5
  clear NA5
  have N0 := Own.below O0 hb O0.lt
  clear O0
  have O0 := N0
  clear N0
  clear hb hz
  have xe := Xe.out
  have qe_0 : W32.cell? ⟨W30.heap.size, 0, none⟩ = some (.slice A5 k5.length cA5) := cell_of_row W32 (W30.heap.size) 0 _ _ _ xe
  have qe_1 : W32.cell? ⟨W30.heap.size, 1, none⟩ = some (.int .i64 s5) := cell_of_row W32 (W30.heap.size) 1 _ _ _ xe
  have qe_2 : W32.cell? ⟨W30.heap.size, 2, none⟩ = some (.int .i64 c5) := cell_of_row W32 (W30.heap.size) 2 _ _ _ xe
  have qe_3 : W32.cell? ⟨W30.heap.size, 3, none⟩ = some (.int .i64 n5) := cell_of_row W32 (W30.heap.size) 3 _ _ _ xe
  have qe_4 : W32.cell? ⟨W30.heap.size, 4, none⟩ = some (.int .u64 e5) := cell_of_row W32 (W30.heap.size) 4 _ _ _ xe
  have qe_5 : W32.cell? ⟨W30.heap.size, 5, none⟩ = some (.int .u64 f5) := cell_of_row W32 (W30.heap.size) 5 _ _ _ xe
  have qe_6 : W32.cell? ⟨W30.heap.size, 6, none⟩ = some (.int .i64 x5) := cell_of_row W32 (W30.heap.size) 6 _ _ _ xe
  have qe_7 : W32.cell? ⟨W30.heap.size, 7, none⟩ = some (.int .i64 y5) := cell_of_row W32 (W30.heap.size) 7 _ _ _ xe
  have qe_f (i : Nat) : W32.frozen? ⟨W30.heap.size, i, none⟩ = false := frozen_of_row W32 (W30.heap.size) i _ _ xe
  clear xe
  go_wp2_with fail
  generalize hU : W32.alloc (.cells #[.slice B5 k5.length cB5, .int .i64 s5, .int .i64 c5, .int .i64 n5, .int .u64 e5, .int .u64 f5, .int .i64 x5, .int .i64 y5] 27 (0, 0)) = U33
  have HB2 := Lib.hid (show Below w.heap.size w U33 by rw [← hU]; exact below_push HB.out)
  clear HB
  have HB := HB2
  clear HB2
  clear qe_0 qe_1 qe_2 qe_3 qe_4 qe_5 qe_6 qe_7 qe_f
  have YL := Lib.hid (show U33.heap[w.heap.size]? = some (.cells #[.slice ao key.length cap, .int .i64 side, .int .i64 cur, .int .i64 next, .int .u64 send, .int .u64 ceil, .int .i64 sec, .int .i64 nano] 27 (0, 0)) by rw [← hU]; exact (alloc_old _ _ _ lL).trans XL.out)
  have pL_f : w.heap.size < W32.heap.size := lL
  have lL2 : w.heap.size < U33.heap.size := by rw [← hU]; simp only [alloc_size]; omega
  clear XL lL
  have XL := YL
  have lL := lL2
  clear YL lL2
  have YN := Lib.hid (show U33.heap[w.heap.size + 1]? = some (.cells #[.int .i64 g, .int .i64 b, .int .u64 c, .int .u64 at1, .int .i64 ss, .int .i64 sn] 37 (0, 0)) by rw [← hU]; exact (alloc_old _ _ _ lN).trans XN.out)
  have pN_f : w.heap.size + 1 < W32.heap.size := lN
  have lN2 : w.heap.size + 1 < U33.heap.size := by rw [← hU]; simp only [alloc_size]; omega
  clear XN lN
  have XN := YN
  have lN := lN2
  clear YN lN2
  have YR := Lib.hid (show U33.heap[W3.heap.size]? = some (.cells #[.slice (some ⟨gr, 0, none⟩) key.length cr, .int .i64 side, .int .i64 cur, .int .i64 next, .int .u64 send, .int .u64 ceil, .int .i64 sec, .int .i64 nano] 27 (0, 0)) by rw [← hU]; exact (alloc_old _ _ _ lR).trans XR.out)
  have pR_f : W3.heap.size < W32.heap.size := lR
  have lR2 : W3.heap.size < U33.heap.size := by rw [← hU]; simp only [alloc_size]; omega
  clear XR lR
  have XR := YR
  have lR := lR2
  clear YR lR2
  have Ya := Lib.hid (show U33.heap[W5.heap.size]? = some (.cells #[.slice A4 k4.length cA4, .int .i64 s4, .int .i64 c4, .int .i64 n4, .int .u64 e4, .int .u64 f4, .int .i64 x4, .int .i64 y4] 27 (0, 0)) by rw [← hU]; exact (alloc_old _ _ _ la).trans Xa.out)
  have pa_f : W5.heap.size < W32.heap.size := la
  have la2 : W5.heap.size < U33.heap.size := by rw [← hU]; simp only [alloc_size]; omega
  clear Xa la
  have Xa := Ya
  have la := la2
  clear Ya la2
  have Yb := Lib.hid (show U33.heap[W7.heap.size]? = some (.cells #[.slice B4 k4.length cB4, .int .i64 s4, .int .i64 c4, .int .i64 n4, .int .u64 e4, .int .u64 f4, .int .i64 x4, .int .i64 y4] 27 (0, 0)) by rw [← hU]; exact (alloc_old _ _ _ lb).trans Xb.out)
  have pb_f : W7.heap.size < W32.heap.size := lb
  have lb2 : W7.heap.size < U33.heap.size := by rw [← hU]; simp only [alloc_size]; omega
  clear Xb lb
  have Xb := Yb
  have lb := lb2
  clear Yb lb2
  have Yc := Lib.hid (show U33.heap[W10.heap.size]? = some (.cells #[.slice A1 k1.length cA1, .int .i64 s1, .int .i64 c1, .int .i64 n1, .int .u64 e1, .int .u64 f1, .int .i64 x1, .int .i64 y1] 27 (0, 0)) by rw [← hU]; exact (alloc_old _ _ _ lc).trans Xc.out)
  have pc_f : W10.heap.size < W32.heap.size := lc
  have lc2 : W10.heap.size < U33.heap.size := by rw [← hU]; simp only [alloc_size]; omega
  clear Xc lc
  have Xc := Yc
  have lc := lc2
  clear Yc lc2
  have Yd := Lib.hid (show U33.heap[W12.heap.size]? = some (.cells #[.slice B1 k1.length cB1, .int .i64 s1, .int .i64 c1, .int .i64 n1, .int .u64 e1, .int .u64 f1, .int .i64 x1, .int .i64 y1] 27 (0, 0)) by rw [← hU]; exact (alloc_old _ _ _ ld).trans Xd.out)
  have pd_f : W12.heap.size < W32.heap.size := ld
  have ld2 : W12.heap.size < U33.heap.size := by rw [← hU]; simp only [alloc_size]; omega
  clear Xd ld
  have Xd := Yd
  have ld := ld2
  clear Yd ld2
  have Ye := Lib.hid (show U33.heap[W30.heap.size]? = some (.cells #[.slice A5 k5.length cA5, .int .i64 s5, .int .i64 c5, .int .i64 n5, .int .u64 e5, .int .u64 f5, .int .i64 x5, .int .i64 y5] 27 (0, 0)) by rw [← hU]; exact (alloc_old _ _ _ le).trans Xe.out)
  have pe_f : W30.heap.size < W32.heap.size := le
  have le2 : W30.heap.size < U33.heap.size := by rw [← hU]; simp only [alloc_size]; omega
  clear Xe le
  have Xe := Ye
  have le := le2
  clear Ye le2
  have Xf := Lib.hid (show U33.heap[W32.heap.size]? = some (.cells #[.slice B5 k5.length cB5, .int .i64 s5, .int .i64 c5, .int .i64 n5, .int .u64 e5, .int .u64 f5, .int .i64 x5, .int .i64 y5] 27 (0, 0)) by rw [← hU]; exact heap_alloc_new _ _)
  have lf : W32.heap.size < U33.heap.size := by rw [← hU]; simp only [alloc_size]; omega
  have NA5 := Mine.below MA5 (fresh1 W32 (.cells #[.slice B5 k5.length cB5, .int .i64 s5, .int .i64 c5, .int .i64 n5, .int .u64 e5, .int .u64 f5, .int .i64 x5, .int .i64 y5] 27 (0, 0)))
  rw [hU] at NA5
  clear MA5
  have MA5 := NA5
  clear NA5
  have NB5 := Mine.below MB5 (fresh1 W32 (.cells #[.slice B5 k5.length cB5, .int .i64 s5, .int .i64 c5, .int .i64 n5, .int .u64 e5, .int .u64 f5, .int .i64 x5, .int .i64 y5] 27 (0, 0)))
  rw [hU] at NB5
  clear MB5
  have MB5 := NB5
  clear NB5
  have o0_f : gr < W32.heap.size := O0.lt
  have N0 := Own.alloc O0 (.cells #[.slice B5 k5.length cB5, .int .i64 s5, .int .i64 c5, .int .i64 n5, .int .u64 e5, .int .u64 f5, .int .i64 x5, .int .i64 y5] 27 (0, 0))
  rw [hU] at N0
  clear O0
  have O0 := N0
  clear N0
  clear hU
  refine (sameLane ⟨k5, s5, c5, n5, e5, f5, x5, y5⟩ ⟨k5, s5, c5, n5, e5, f5, x5, y5⟩ A5 B5 cA5 cB5 _ (by show k5.length ≤ _; omega) (by show k5.length ≤ _; omega) MA5.rd MB5.rd).mono ?_
  rintro e W34 ⟨he, hb⟩
  rw [sameL_refl] at he
  subst he
  have hz := hb.size
  have HB2 := Lib.hid (HB.out.trans (hb.mono HB.out.size))
  clear HB
  have HB := HB2
  clear HB2
  have YL := Lib.hid (show W34.heap[w.heap.size]? = some (.cells #[.slice ao key.length cap, .int .i64 side, .int .i64 cur, .int .i64 next, .int .u64 send, .int .u64 ceil, .int .i64 sec, .int .i64 nano] 27 (0, 0)) from (hb.block (w.heap.size) lL).trans XL.out)
  have lL2 : w.heap.size < W34.heap.size := by omega
  clear XL lL
  have XL := YL
  have lL := lL2
  clear YL lL2
  have YN := Lib.hid (show W34.heap[w.heap.size + 1]? = some (.cells #[.int .i64 g, .int .i64 b, .int .u64 c, .int .u64 at1, .int .i64 ss, .int .i64 sn] 37 (0, 0)) from (hb.block (w.heap.size + 1) lN).trans XN.out)
  have lN2 : w.heap.size + 1 < W34.heap.size := by omega
  clear XN lN
  have XN := YN
  have lN := lN2
  clear YN lN2
  have YR := Lib.hid (show W34.heap[W3.heap.size]? = some (.cells #[.slice (some ⟨gr, 0, none⟩) key.length cr, .int .i64 side, .int .i64 cur, .int .i64 next, .int .u64 send, .int .u64 ceil, .int .i64 sec, .int .i64 nano] 27 (0, 0)) from (hb.block (W3.heap.size) lR).trans XR.out)
  have lR2 : W3.heap.size < W34.heap.size := by omega
  clear XR lR
  have XR := YR
  have lR := lR2
  clear YR lR2
  have Ya := Lib.hid (show W34.heap[W5.heap.size]? = some (.cells #[.slice A4 k4.length cA4, .int .i64 s4, .int .i64 c4, .int .i64 n4, .int .u64 e4, .int .u64 f4, .int .i64 x4, .int .i64 y4] 27 (0, 0)) from (hb.block (W5.heap.size) la).trans Xa.out)
  have la2 : W5.heap.size < W34.heap.size := by omega
  clear Xa la
  have Xa := Ya
  have la := la2
  clear Ya la2
  have Yb := Lib.hid (show W34.heap[W7.heap.size]? = some (.cells #[.slice B4 k4.length cB4, .int .i64 s4, .int .i64 c4, .int .i64 n4, .int .u64 e4, .int .u64 f4, .int .i64 x4, .int .i64 y4] 27 (0, 0)) from (hb.block (W7.heap.size) lb).trans Xb.out)
  have lb2 : W7.heap.size < W34.heap.size := by omega
  clear Xb lb
  have Xb := Yb
  have lb := lb2
  clear Yb lb2
  have Yc := Lib.hid (show W34.heap[W10.heap.size]? = some (.cells #[.slice A1 k1.length cA1, .int .i64 s1, .int .i64 c1, .int .i64 n1, .int .u64 e1, .int .u64 f1, .int .i64 x1, .int .i64 y1] 27 (0, 0)) from (hb.block (W10.heap.size) lc).trans Xc.out)
  have lc2 : W10.heap.size < W34.heap.size := by omega
  clear Xc lc
  have Xc := Yc
  have lc := lc2
  clear Yc lc2
  have Yd := Lib.hid (show W34.heap[W12.heap.size]? = some (.cells #[.slice B1 k1.length cB1, .int .i64 s1, .int .i64 c1, .int .i64 n1, .int .u64 e1, .int .u64 f1, .int .i64 x1, .int .i64 y1] 27 (0, 0)) from (hb.block (W12.heap.size) ld).trans Xd.out)
  have ld2 : W12.heap.size < W34.heap.size := by omega
  clear Xd ld
  have Xd := Yd
  have ld := ld2
  clear Yd ld2
  have Ye := Lib.hid (show W34.heap[W30.heap.size]? = some (.cells #[.slice A5 k5.length cA5, .int .i64 s5, .int .i64 c5, .int .i64 n5, .int .u64 e5, .int .u64 f5, .int .i64 x5, .int .i64 y5] 27 (0, 0)) from (hb.block (W30.heap.size) le).trans Xe.out)
  have le2 : W30.heap.size < W34.heap.size := by omega
  clear Xe le
  have Xe := Ye
  have le := le2
  clear Ye le2
  have Yf := Lib.hid (show W34.heap[W32.heap.size]? = some (.cells #[.slice B5 k5.length cB5, .int .i64 s5, .int .i64 c5, .int .i64 n5, .int .u64 e5, .int .u64 f5, .int .i64 x5, .int .i64 y5] 27 (0, 0)) from (hb.block (W32.heap.size) lf).trans Xf.out)
  have lf2 : W32.heap.size < W34.heap.size := by omega
  clear Xf lf
  have Xf := Yf
  have lf := lf2
  clear Yf lf2
  have NA5 := Mine.below MA5 hb
  clear MA5
  have MA5 := NA5
  clear NA5
  have NB5 := Mine.below MB5 hb
  clear MB5
  have MB5 := NB5
  clear NB5
  have N0 := Own.below O0 hb O0.lt
  clear O0
  have O0 := N0
  clear N0
  clear hb hz
  clear mA5_L
  clear mA5_N
  clear mA5_R
  clear mA5_a
  clear mA5_b
  clear mA5_c
  clear mA5_d
  clear MA5
  clear mB5_L
  clear mB5_N
  clear mB5_R
  clear mB5_a
  clear mB5_b
  clear mB5_c
  clear mB5_d
  clear mB5_e
  clear MB5
  have xR := XR.out
  have qR_0 : W34.cell? ⟨W3.heap.size, 0, none⟩ = some (.slice (some ⟨gr, 0, none⟩) key.length cr) := cell_of_row W34 (W3.heap.size) 0 _ _ _ xR
  have qR_1 : W34.cell? ⟨W3.heap.size, 1, none⟩ = some (.int .i64 side) := cell_of_row W34 (W3.heap.size) 1 _ _ _ xR
  have qR_2 : W34.cell? ⟨W3.heap.size, 2, none⟩ = some (.int .i64 cur) := cell_of_row W34 (W3.heap.size) 2 _ _ _ xR
  have qR_3 : W34.cell? ⟨W3.heap.size, 3, none⟩ = some (.int .i64 next) := cell_of_row W34 (W3.heap.size) 3 _ _ _ xR
  have qR_4 : W34.cell? ⟨W3.heap.size, 4, none⟩ = some (.int .u64 send) := cell_of_row W34 (W3.heap.size) 4 _ _ _ xR
  have qR_5 : W34.cell? ⟨W3.heap.size, 5, none⟩ = some (.int .u64 ceil) := cell_of_row W34 (W3.heap.size) 5 _ _ _ xR
  have qR_6 : W34.cell? ⟨W3.heap.size, 6, none⟩ = some (.int .i64 sec) := cell_of_row W34 (W3.heap.size) 6 _ _ _ xR
  have qR_7 : W34.cell? ⟨W3.heap.size, 7, none⟩ = some (.int .i64 nano) := cell_of_row W34 (W3.heap.size) 7 _ _ _ xR
  have qR_f (i : Nat) : W34.frozen? ⟨W3.heap.size, i, none⟩ = false := frozen_of_row W34 (W3.heap.size) i _ _ xR
  clear xR
  have xL := XL.out
  have qL_0 : W34.cell? ⟨w.heap.size, 0, none⟩ = some (.slice ao key.length cap) := cell_of_row W34 (w.heap.size) 0 _ _ _ xL
  have qL_1 : W34.cell? ⟨w.heap.size, 1, none⟩ = some (.int .i64 side) := cell_of_row W34 (w.heap.size) 1 _ _ _ xL
  have qL_2 : W34.cell? ⟨w.heap.size, 2, none⟩ = some (.int .i64 cur) := cell_of_row W34 (w.heap.size) 2 _ _ _ xL
  have qL_3 : W34.cell? ⟨w.heap.size, 3, none⟩ = some (.int .i64 next) := cell_of_row W34 (w.heap.size) 3 _ _ _ xL
  have qL_4 : W34.cell? ⟨w.heap.size, 4, none⟩ = some (.int .u64 send) := cell_of_row W34 (w.heap.size) 4 _ _ _ xL
  have qL_5 : W34.cell? ⟨w.heap.size, 5, none⟩ = some (.int .u64 ceil) := cell_of_row W34 (w.heap.size) 5 _ _ _ xL
  have qL_6 : W34.cell? ⟨w.heap.size, 6, none⟩ = some (.int .i64 sec) := cell_of_row W34 (w.heap.size) 6 _ _ _ xL
  have qL_7 : W34.cell? ⟨w.heap.size, 7, none⟩ = some (.int .i64 nano) := cell_of_row W34 (w.heap.size) 7 _ _ _ xL
  have qL_f (i : Nat) : W34.frozen? ⟨w.heap.size, i, none⟩ = false := frozen_of_row W34 (w.heap.size) i _ _ xL
  clear xL
  go_wp2_with fail
  clear qR_0 qR_1 qR_2 qR_3 qR_4 qR_5 qR_6 qR_7 qR_f
  clear qL_0 qL_1 qL_2 qL_3 qL_4 qL_5 qL_6 qL_7 qL_f
  refine (laneStays ⟨key, side, cur, next, send, ceil, sec, nano⟩ ⟨key, side, cur, next, send, ceil, sec, nano⟩ gr cr ao cap _ hl O0 rfl (hr.on HB.out)).mono ?_
  rintro e W35 ⟨rfl, hb⟩
  have hz := hb.size
  have HB2 := Lib.hid (HB.out.trans (hb.mono HB.out.size))
  clear HB
  have HB := HB2
  clear HB2
  have YL := Lib.hid (show W35.heap[w.heap.size]? = some (.cells #[.slice ao key.length cap, .int .i64 side, .int .i64 cur, .int .i64 next, .int .u64 send, .int .u64 ceil, .int .i64 sec, .int .i64 nano] 27 (0, 0)) from (hb.block (w.heap.size) lL).trans XL.out)
  have lL2 : w.heap.size < W35.heap.size := by omega
  clear XL lL
  have XL := YL
  have lL := lL2
  clear YL lL2
  have YN := Lib.hid (show W35.heap[w.heap.size + 1]? = some (.cells #[.int .i64 g, .int .i64 b, .int .u64 c, .int .u64 at1, .int .i64 ss, .int .i64 sn] 37 (0, 0)) from (hb.block (w.heap.size + 1) lN).trans XN.out)
  have lN2 : w.heap.size + 1 < W35.heap.size := by omega
  clear XN lN
  have XN := YN
  have lN := lN2
  clear YN lN2
  have YR := Lib.hid (show W35.heap[W3.heap.size]? = some (.cells #[.slice (some ⟨gr, 0, none⟩) key.length cr, .int .i64 side, .int .i64 cur, .int .i64 next, .int .u64 send, .int .u64 ceil, .int .i64 sec, .int .i64 nano] 27 (0, 0)) from (hb.block (W3.heap.size) lR).trans XR.out)
  have lR2 : W3.heap.size < W35.heap.size := by omega
  clear XR lR
  have XR := YR
  have lR := lR2
  clear YR lR2
  have Ya := Lib.hid (show W35.heap[W5.heap.size]? = some (.cells #[.slice A4 k4.length cA4, .int .i64 s4, .int .i64 c4, .int .i64 n4, .int .u64 e4, .int .u64 f4, .int .i64 x4, .int .i64 y4] 27 (0, 0)) from (hb.block (W5.heap.size) la).trans Xa.out)
  have la2 : W5.heap.size < W35.heap.size := by omega
  clear Xa la
  have Xa := Ya
  have la := la2
  clear Ya la2
  have Yb := Lib.hid (show W35.heap[W7.heap.size]? = some (.cells #[.slice B4 k4.length cB4, .int .i64 s4, .int .i64 c4, .int .i64 n4, .int .u64 e4, .int .u64 f4, .int .i64 x4, .int .i64 y4] 27 (0, 0)) from (hb.block (W7.heap.size) lb).trans Xb.out)
  have lb2 : W7.heap.size < W35.heap.size := by omega
  clear Xb lb
  have Xb := Yb
  have lb := lb2
  clear Yb lb2
  have Yc := Lib.hid (show W35.heap[W10.heap.size]? = some (.cells #[.slice A1 k1.length cA1, .int .i64 s1, .int .i64 c1, .int .i64 n1, .int .u64 e1, .int .u64 f1, .int .i64 x1, .int .i64 y1] 27 (0, 0)) from (hb.block (W10.heap.size) lc).trans Xc.out)
  have lc2 : W10.heap.size < W35.heap.size := by omega
  clear Xc lc
  have Xc := Yc
  have lc := lc2
  clear Yc lc2
  have Yd := Lib.hid (show W35.heap[W12.heap.size]? = some (.cells #[.slice B1 k1.length cB1, .int .i64 s1, .int .i64 c1, .int .i64 n1, .int .u64 e1, .int .u64 f1, .int .i64 x1, .int .i64 y1] 27 (0, 0)) from (hb.block (W12.heap.size) ld).trans Xd.out)
  have ld2 : W12.heap.size < W35.heap.size := by omega
  clear Xd ld
  have Xd := Yd
  have ld := ld2
  clear Yd ld2
  have Ye := Lib.hid (show W35.heap[W30.heap.size]? = some (.cells #[.slice A5 k5.length cA5, .int .i64 s5, .int .i64 c5, .int .i64 n5, .int .u64 e5, .int .u64 f5, .int .i64 x5, .int .i64 y5] 27 (0, 0)) from (hb.block (W30.heap.size) le).trans Xe.out)
  have le2 : W30.heap.size < W35.heap.size := by omega
  clear Xe le
  have Xe := Ye
  have le := le2
  clear Ye le2
  have Yf := Lib.hid (show W35.heap[W32.heap.size]? = some (.cells #[.slice B5 k5.length cB5, .int .i64 s5, .int .i64 c5, .int .i64 n5, .int .u64 e5, .int .u64 f5, .int .i64 x5, .int .i64 y5] 27 (0, 0)) from (hb.block (W32.heap.size) lf).trans Xf.out)
  have lf2 : W32.heap.size < W35.heap.size := by omega
  clear Xf lf
  have Xf := Yf
  have lf := lf2
  clear Yf lf2
  have N0 := Own.below O0 hb O0.lt
  clear O0
  have O0 := N0
  clear N0
  clear hb hz
  go_wp2_with fail
  go_ret
  exact ⟨rfl, HB.out⟩
theorem lawCalls (L : Ln) (ao : Option Addr) (cap : Nat) (g b c at1 ss sn : Int) (w : World) (hf : L.key.length ≤ 140737488351232 → L.fits) (hr : Rd w ao L.key) (hc : 0 ≤ c ∧ c ≤ 18446744073709551615) (ha : 0 ≤ at1 ∧ at1 ≤ 18446744073709551615) (hss : ss ≤ 9223372036854775807) : Calls Try.prog 6 #[L.val ao cap, .agg #[.int .i64 g, .int .i64 b, .int .u64 c, .int .u64 at1, .int .i64 ss, .int .i64 sn]] w fun e w' => e = .returned (.bool true) ∧ Below w.heap.size w w' := by
  by_cases hl : L.key.length ≤ 4096
  · exact lawCalls_short L ao cap g b c at1 ss sn w hl (hf (by omega)) hr hc.1 hc.2 ha.1 ha.2 hss
  · exact lawCalls_long L ao cap g b c at1 ss sn w (by omega)
end Go.Proofs.Ytihndipgdogebaa
