/- step: one call by number, of the program and of the document: what it makes of a lane, and that they are alike. -/
import Derived.Test.YtihndipgdogebaaLanePure
import Derived.Test.YtihndipgdogebaaLane14
import Derived.Test.YtihndipgdogebaaBag
namespace Go.Proofs.Ytihndipgdogebaa
open Go.RowKit
/-- The call as a value. -/
def Ask.val (o : Ask) : Value := .agg #[.int .i64 o.kind, .int .i64 o.g, .int .i64 o.b, .int .u64 o.c, .int .u64 o.at1, .int .i64 o.ss, .int .i64 o.sn]
/-- What a call by number answers: a lane, and what stands beside it. -/
def StepR (w : World) (ao : Option Addr) (z : Ln) (tl : List Value) (e : Ending) (w' : World) : Prop := ∃ ar cr, e = .returned (.tuple (z.val ar cr :: tl).toArray) ∧ Rd w' ar z.key ∧ (∀ a, ar = some a → some a = ao ∨ w.heap.size ≤ a.block ∧ a.block < w'.heap.size) ∧ Below w.heap.size w w'
theorem stepR_mk {w w' : World} {ao : Option Addr} {z y : Ln} {tl : List Value} {e : Ending} {ar : Option Addr} {cr : Nat} (hz : z = y) (h1 : e = .returned (.tuple (y.val ar cr :: tl).toArray)) (h2 : Rd w' ar y.key) (h4 : ∀ a, ar = some a → some a = ao ∨ w.heap.size ≤ a.block ∧ a.block < w'.heap.size) (h3 : Below w.heap.size w w') : StepR w ao z tl e w' := by
  subst hz
  exact ⟨ar, cr, h1, h2, h4, h3⟩
theorem keys_le {L : Ln} {cur next send ceil sec nano : Int} {p : Prop} [Decidable p] {n : Nat} (h : L.key.length ≤ n) : (if p then L.keep cur next send ceil sec nano else Ln.zero).key.length ≤ n := by
  split
  · exact h
  · simp [Ln.zero]
set_option maxRecDepth 100000 in
set_option maxHeartbeats 4000000 in
theorem lawStep_1 (L : Ln) (ao : Option Addr) (cap : Nat) (g b c at1 ss sn : Int) (w : World) (hf : L.fits) (hr : Rd w ao L.key) (_hc0 : 0 ≤ c) (_hc1 : c ≤ 18446744073709551615) (_ha0 : 0 ≤ at1) (_ha1 : at1 ≤ 18446744073709551615) (_hss : ss ≤ 9223372036854775807) : Calls Try.prog 36 #[L.val ao cap, .agg #[.int .i64 1, .int .i64 g, .int .i64 b, .int .u64 c, .int .u64 at1, .int .i64 ss, .int .i64 sn]] w (StepR w ao (stepL L ⟨1, g, b, c, at1, ss, sn⟩) [.bool true]) := by
  obtain ⟨N, hN⟩ : ∃ N, againL L = N := ⟨_, rfl⟩
  have hst : stepL L ⟨1, g, b, c, at1, ss, sn⟩ = if N.cur = 0 then L else N := by rw [← hN]; rfl
  rw [hst]
  have hkn : N.key.length ≤ 281474976710656 := by rw [← hN]; exact keys_le (by have := hf.len; omega)
  obtain ⟨z, hz⟩ : ∃ z, (if N.cur = 0 then L else N) = z := ⟨_, rfl⟩
  rw [hz]
  obtain ⟨k0, s0, c0, n0, e0, f0, x0, y0⟩ := N
  simp only at hkn hz
  obtain ⟨ng, hng⟩ : ∃ x, nextG L = x := ⟨_, rfl⟩
  obtain ⟨ne, hne⟩ : ∃ x, nextE L = x := ⟨_, rfl⟩
  have HF := Lib.hid hf
  clear hst
  obtain ⟨key, side, cur, next, send, ceil, sec, nano⟩ := L
  unfold Ln.val
  obtain ⟨hl, hcur0, hcur1, hnext0, hnext1, hsend0, hsend1, hceil0, hceil1, hs⟩ := hf
  simp only at hl hr hcur0 hcur1 hnext0 hnext1 hsend0 hsend1 hceil0 hceil1 hs ⊢
  have HN := Lib.hid hN
  have HZ := Lib.hid hz
  have HG := Lib.hid hng
  have HE := Lib.hid hne
  clear hN hz hng hne
  go_enter Try.func36, Try.ntmps36
  go_wp2_with fail
  generalize hU : ((((((w.alloc (.cells #[.slice ao key.length cap, .int .i64 side, .int .i64 cur, .int .i64 next, .int .u64 send, .int .u64 ceil, .int .i64 sec, .int .i64 nano] 27 (0, 0))).alloc (.cells #[.int .i64 1, .int .i64 g, .int .i64 b, .int .u64 c, .int .u64 at1, .int .i64 ss, .int .i64 sn] 57 (0, 0))).alloc (.cells #[.slice none 0 0, .int .i64 0, .int .i64 0, .int .i64 0, .int .u64 0, .int .u64 0, .int .i64 0, .int .i64 0] 27 (0, 0))).alloc (.cells #[.int .i64 g, .int .i64 b, .int .u64 c, .int .u64 at1, .int .i64 ss, .int .i64 sn] 37 (0, 0))).alloc (.cells #[.slice none 0 0, .int .i64 0, .int .i64 0, .int .i64 0, .int .u64 0, .int .u64 0, .int .i64 0, .int .i64 0] 27 (0, 0))).alloc (.cells #[.slice none 0 0, .int .i64 0, .int .i64 0, .int .i64 0, .int .u64 0, .int .u64 0, .int .i64 0, .int .i64 0] 27 (0, 0))) = U1
  have h0 := ((((((Bag.start w).allocAt #[.slice ao key.length cap, .int .i64 side, .int .i64 cur, .int .i64 next, .int .u64 send, .int .u64 ceil, .int .i64 sec, .int .i64 nano] 27 (w.heap.size) rfl).allocAt #[.int .i64 1, .int .i64 g, .int .i64 b, .int .u64 c, .int .u64 at1, .int .i64 ss, .int .i64 sn] 57 (w.heap.size + 1) (by simp only [alloc_size])).allocAt #[.slice none 0 0, .int .i64 0, .int .i64 0, .int .i64 0, .int .u64 0, .int .u64 0, .int .i64 0, .int .i64 0] 27 (w.heap.size + 1 + 1) (by simp only [alloc_size])).allocAt #[.int .i64 g, .int .i64 b, .int .u64 c, .int .u64 at1, .int .i64 ss, .int .i64 sn] 37 (w.heap.size + 1 + 1 + 1) (by simp only [alloc_size])).allocAt #[.slice none 0 0, .int .i64 0, .int .i64 0, .int .i64 0, .int .u64 0, .int .u64 0, .int .i64 0, .int .i64 0] 27 (w.heap.size + 1 + 1 + 1 + 1) (by simp only [alloc_size])).allocAt #[.slice none 0 0, .int .i64 0, .int .i64 0, .int .i64 0, .int .u64 0, .int .u64 0, .int .i64 0, .int .i64 0] 27 (w.heap.size + 1 + 1 + 1 + 1 + 1) (by simp only [alloc_size])
  rw [hU] at h0
  have HB := Lib.hid h0
  clear h0 hU
  refine (laneAgain ⟨key, side, cur, next, send, ceil, sec, nano⟩ ao cap _ HF.out (hr.on HB.out.below)).mono ?_
  rintro e W2 ⟨A0, cA0, he, Mx, hb⟩
  rw [HN.out] at he Mx
  rw [HE.out] at he
  obtain rfl : e = .returned (.tuple #[(.agg #[.slice A0 k0.length cA0, .int .i64 s0, .int .i64 c0, .int .i64 n0, .int .u64 e0, .int .u64 f0, .int .i64 x0, .int .i64 y0]), .int .i64 ne]) := he
  have h0 := HB.out.mine hb Mx
  clear HB
  have HB := Lib.hid h0
  clear h0
  clear Mx
  clear hb
  obtain ⟨qL_0, qL_1, qL_2, qL_3, qL_4, qL_5, qL_6, qL_7, qL_f⟩ := cells8 (HB.out.box 6 rfl)
  have qL_l := HB.out.boxLt 6 rfl
  obtain ⟨qN_0, qN_1, qN_2, qN_3, qN_4, qN_5, qN_f⟩ := cells6 (HB.out.box 3 rfl)
  have qN_l := HB.out.boxLt 3 rfl
  have nN_L := HB.out.boxNe 3 6 rfl rfl (by decide)
  go_wp2_with fail
  generalize hU : W2.alloc (.cells #[.slice A0 k0.length cA0, .int .i64 s0, .int .i64 c0, .int .i64 n0, .int .u64 e0, .int .u64 f0, .int .i64 x0, .int .i64 y0] 27 (0, 0)) = U3
  clear qL_0 qL_1 qL_2 qL_3 qL_4 qL_5 qL_6 qL_7 qL_f qL_l qN_0 qN_1 qN_2 qN_3 qN_4 qN_5 qN_f qN_l nN_L
  have h0 := HB.out.alloc #[.slice A0 k0.length cA0, .int .i64 s0, .int .i64 c0, .int .i64 n0, .int .u64 e0, .int .u64 f0, .int .i64 x0, .int .i64 y0] 27
  rw [hU] at h0
  clear HB
  have HB := Lib.hid h0
  clear h0
  clear hU
  refine (refAgain ⟨key, side, cur, next, send, ceil, sec, nano⟩ ao cap _ HF.out (hr.on HB.out.below)).mono ?_
  rintro e W4 ⟨B0, cB0, he, Mx, hb⟩
  rw [HN.out] at he Mx
  rw [HE.out] at he
  obtain rfl : e = .returned (.tuple #[(.agg #[.slice B0 k0.length cB0, .int .i64 s0, .int .i64 c0, .int .i64 n0, .int .u64 e0, .int .u64 f0, .int .i64 x0, .int .i64 y0]), .int .i64 ne]) := he
  have h0 := HB.out.mine hb Mx
  clear HB
  have HB := Lib.hid h0
  clear h0
  clear Mx
  clear hb
  go_wp2_with fail
  generalize hU : W4.alloc (.cells #[.slice B0 k0.length cB0, .int .i64 s0, .int .i64 c0, .int .i64 n0, .int .u64 e0, .int .u64 f0, .int .i64 x0, .int .i64 y0] 27 (0, 0)) = U5
  have h0 := HB.out.alloc #[.slice B0 k0.length cB0, .int .i64 s0, .int .i64 c0, .int .i64 n0, .int .u64 e0, .int .u64 f0, .int .i64 x0, .int .i64 y0] 27
  rw [hU] at h0
  clear HB
  have HB := Lib.hid h0
  clear h0
  clear hU
  obtain ⟨qa_0, qa_1, qa_2, qa_3, qa_4, qa_5, qa_6, qa_7, qa_f⟩ := cells8 (HB.out.box 2 rfl)
  have qa_l := HB.out.boxLt 2 rfl
  obtain ⟨qb_0, qb_1, qb_2, qb_3, qb_4, qb_5, qb_6, qb_7, qb_f⟩ := cells8 (HB.out.box 0 rfl)
  have qb_l := HB.out.boxLt 0 rfl
  obtain ⟨qA_0, qA_1, qA_2, qA_3, qA_4, qA_5, qA_6, qA_7, qA_f⟩ := cells8 (HB.out.box 5 rfl)
  have qA_l := HB.out.boxLt 5 rfl
  obtain ⟨qB_0, qB_1, qB_2, qB_3, qB_4, qB_5, qB_6, qB_7, qB_f⟩ := cells8 (HB.out.box 4 rfl)
  have qB_l := HB.out.boxLt 4 rfl
  have nb_a := HB.out.boxNe 0 2 rfl rfl (by decide)
  have nA_a := HB.out.boxNe 5 2 rfl rfl (by decide)
  have nA_b := HB.out.boxNe 5 0 rfl rfl (by decide)
  have nB_a := HB.out.boxNe 4 2 rfl rfl (by decide)
  have nB_b := HB.out.boxNe 4 0 rfl rfl (by decide)
  have nB_A := HB.out.boxNe 4 5 rfl rfl (by decide)
  go_region
  generalize hU : ((((((((U5.setCell ⟨w.heap.size + 1 + 1 + 1 + 1, 0, none⟩ (.slice A0 k0.length cA0)).setCell ⟨w.heap.size + 1 + 1 + 1 + 1, 1, none⟩ (.int .i64 s0)).setCell ⟨w.heap.size + 1 + 1 + 1 + 1, 2, none⟩ (.int .i64 c0)).setCell ⟨w.heap.size + 1 + 1 + 1 + 1, 3, none⟩ (.int .i64 n0)).setCell ⟨w.heap.size + 1 + 1 + 1 + 1, 4, none⟩ (.int .u64 e0)).setCell ⟨w.heap.size + 1 + 1 + 1 + 1, 5, none⟩ (.int .u64 f0)).setCell ⟨w.heap.size + 1 + 1 + 1 + 1, 6, none⟩ (.int .i64 x0)).setCell ⟨w.heap.size + 1 + 1 + 1 + 1, 7, none⟩ (.int .i64 y0)) = U6
  clear qa_0 qa_1 qa_2 qa_3 qa_4 qa_5 qa_6 qa_7 qa_f qa_l qb_0 qb_1 qb_2 qb_3 qb_4 qb_5 qb_6 qb_7 qb_f qb_l qA_0 qA_1 qA_2 qA_3 qA_4 qA_5 qA_6 qA_7 qA_f qA_l qB_0 qB_1 qB_2 qB_3 qB_4 qB_5 qB_6 qB_7 qB_f qB_l nb_a nA_a nA_b nB_a nB_b nB_A
  have h0 := HB.out.store 5 rfl [.slice A0 k0.length cA0, .int .i64 s0, .int .i64 c0, .int .i64 n0, .int .u64 e0, .int .u64 f0, .int .i64 x0, .int .i64 y0] rfl
  rw [show Bag.setAll U5 (w.heap.size + 1 + 1 + 1 + 1) 0 [.slice A0 k0.length cA0, .int .i64 s0, .int .i64 c0, .int .i64 n0, .int .u64 e0, .int .u64 f0, .int .i64 x0, .int .i64 y0] = U6 from hU] at h0
  simp only [List.set_cons_zero, List.set_cons_succ] at h0
  clear HB
  have HB := Lib.hid h0
  clear h0
  clear hU
  generalize hU : ((((((((U6.setCell ⟨w.heap.size + 1 + 1 + 1 + 1 + 1, 0, none⟩ (.slice B0 k0.length cB0)).setCell ⟨w.heap.size + 1 + 1 + 1 + 1 + 1, 1, none⟩ (.int .i64 s0)).setCell ⟨w.heap.size + 1 + 1 + 1 + 1 + 1, 2, none⟩ (.int .i64 c0)).setCell ⟨w.heap.size + 1 + 1 + 1 + 1 + 1, 3, none⟩ (.int .i64 n0)).setCell ⟨w.heap.size + 1 + 1 + 1 + 1 + 1, 4, none⟩ (.int .u64 e0)).setCell ⟨w.heap.size + 1 + 1 + 1 + 1 + 1, 5, none⟩ (.int .u64 f0)).setCell ⟨w.heap.size + 1 + 1 + 1 + 1 + 1, 6, none⟩ (.int .i64 x0)).setCell ⟨w.heap.size + 1 + 1 + 1 + 1 + 1, 7, none⟩ (.int .i64 y0)) = U7
  have h0 := HB.out.store 4 rfl [.slice B0 k0.length cB0, .int .i64 s0, .int .i64 c0, .int .i64 n0, .int .u64 e0, .int .u64 f0, .int .i64 x0, .int .i64 y0] rfl
  rw [show Bag.setAll U6 (w.heap.size + 1 + 1 + 1 + 1 + 1) 0 [.slice B0 k0.length cB0, .int .i64 s0, .int .i64 c0, .int .i64 n0, .int .u64 e0, .int .u64 f0, .int .i64 x0, .int .i64 y0] = U7 from hU] at h0
  simp only [List.set_cons_zero, List.set_cons_succ] at h0
  clear HB
  have HB := Lib.hid h0
  clear h0
  clear hU
  generalize hU : U7.drew = U8
  have h0 := HB.out.drew
  rw [hU] at h0
  clear HB
  have HB := Lib.hid h0
  clear h0
  clear hU
  obtain ⟨qA_0, qA_1, qA_2, qA_3, qA_4, qA_5, qA_6, qA_7, qA_f⟩ := cells8 (HB.out.box 5 rfl)
  have qA_l := HB.out.boxLt 5 rfl
  obtain ⟨qB_0, qB_1, qB_2, qB_3, qB_4, qB_5, qB_6, qB_7, qB_f⟩ := cells8 (HB.out.box 4 rfl)
  have qB_l := HB.out.boxLt 4 rfl
  have nB_A := HB.out.boxNe 4 5 rfl rfl (by decide)
  have i1 : (ne == ne) = true := by simp
  go_wp2_with (go_at_call 27; refine (numOf _ _).mono ?_; rintro e w' ⟨rfl, hw⟩; obtain rfl := hw.symm; clear hw)
  clear qA_0 qA_1 qA_2 qA_3 qA_4 qA_5 qA_6 qA_7 qA_f qA_l qB_0 qB_1 qB_2 qB_3 qB_4 qB_5 qB_6 qB_7 qB_f qB_l nB_A
  refine (sameLane ⟨k0, s0, c0, n0, e0, f0, x0, y0⟩ ⟨k0, s0, c0, n0, e0, f0, x0, y0⟩ A0 B0 cA0 cB0 _ hkn hkn (HB.out.mineRd 3 rfl) (HB.out.mineRd 1 rfl)).mono ?_
  rintro e W9 ⟨he, hb⟩
  rw [sameL_refl] at he
  subst he
  have h0 := HB.out.call hb
  clear HB
  have HB := Lib.hid h0
  clear h0
  clear hb
  by_cases hz : c0 = 0
  · have HY := Lib.hid (HZ.out.symm.trans (if_pos hz))
    have hz1 : (c0 == 0) = true := by rw [beq_iff_eq]; exact hz
    clear hz
    obtain ⟨qL_0, qL_1, qL_2, qL_3, qL_4, qL_5, qL_6, qL_7, qL_f⟩ := cells8 (HB.out.box 9 rfl)
    have qL_l := HB.out.boxLt 9 rfl
    obtain ⟨qA_0, qA_1, qA_2, qA_3, qA_4, qA_5, qA_6, qA_7, qA_f⟩ := cells8 (HB.out.box 5 rfl)
    have qA_l := HB.out.boxLt 5 rfl
    obtain ⟨qB_0, qB_1, qB_2, qB_3, qB_4, qB_5, qB_6, qB_7, qB_f⟩ := cells8 (HB.out.box 4 rfl)
    have qB_l := HB.out.boxLt 4 rfl
    obtain ⟨qr_0, qr_1, qr_2, qr_3, qr_4, qr_5, qr_6, qr_7, qr_f⟩ := cells8 (HB.out.box 7 rfl)
    have qr_l := HB.out.boxLt 7 rfl
    have nA_L := HB.out.boxNe 5 9 rfl rfl (by decide)
    have nB_L := HB.out.boxNe 4 9 rfl rfl (by decide)
    have nB_A := HB.out.boxNe 4 5 rfl rfl (by decide)
    have nr_L := HB.out.boxNe 7 9 rfl rfl (by decide)
    have nr_A := HB.out.boxNe 7 5 rfl rfl (by decide)
    have nr_B := HB.out.boxNe 7 4 rfl rfl (by decide)
    go_wp2_with fail
    generalize hU : ((((((((W9.setCell ⟨w.heap.size + 1 + 1 + 1 + 1, 0, none⟩ (.slice ao key.length cap)).setCell ⟨w.heap.size + 1 + 1 + 1 + 1, 1, none⟩ (.int .i64 side)).setCell ⟨w.heap.size + 1 + 1 + 1 + 1, 2, none⟩ (.int .i64 cur)).setCell ⟨w.heap.size + 1 + 1 + 1 + 1, 3, none⟩ (.int .i64 next)).setCell ⟨w.heap.size + 1 + 1 + 1 + 1, 4, none⟩ (.int .u64 send)).setCell ⟨w.heap.size + 1 + 1 + 1 + 1, 5, none⟩ (.int .u64 ceil)).setCell ⟨w.heap.size + 1 + 1 + 1 + 1, 6, none⟩ (.int .i64 sec)).setCell ⟨w.heap.size + 1 + 1 + 1 + 1, 7, none⟩ (.int .i64 nano)) = U10
    clear qL_0 qL_1 qL_2 qL_3 qL_4 qL_5 qL_6 qL_7 qL_f qL_l qA_0 qA_1 qA_2 qA_3 qA_4 qA_5 qA_6 qA_7 qA_f qA_l qB_0 qB_1 qB_2 qB_3 qB_4 qB_5 qB_6 qB_7 qB_f qB_l qr_0 qr_1 qr_2 qr_3 qr_4 qr_5 qr_6 qr_7 qr_f qr_l nA_L nB_L nB_A nr_L nr_A nr_B
    have h0 := HB.out.store 5 rfl [.slice ao key.length cap, .int .i64 side, .int .i64 cur, .int .i64 next, .int .u64 send, .int .u64 ceil, .int .i64 sec, .int .i64 nano] rfl
    rw [show Bag.setAll W9 (w.heap.size + 1 + 1 + 1 + 1) 0 [.slice ao key.length cap, .int .i64 side, .int .i64 cur, .int .i64 next, .int .u64 send, .int .u64 ceil, .int .i64 sec, .int .i64 nano] = U10 from hU] at h0
    simp only [List.set_cons_zero, List.set_cons_succ] at h0
    clear HB
    have HB := Lib.hid h0
    clear h0
    clear hU
    generalize hU : ((((((((U10.setCell ⟨w.heap.size + 1 + 1, 0, none⟩ (.slice ao key.length cap)).setCell ⟨w.heap.size + 1 + 1, 1, none⟩ (.int .i64 side)).setCell ⟨w.heap.size + 1 + 1, 2, none⟩ (.int .i64 cur)).setCell ⟨w.heap.size + 1 + 1, 3, none⟩ (.int .i64 next)).setCell ⟨w.heap.size + 1 + 1, 4, none⟩ (.int .u64 send)).setCell ⟨w.heap.size + 1 + 1, 5, none⟩ (.int .u64 ceil)).setCell ⟨w.heap.size + 1 + 1, 6, none⟩ (.int .i64 sec)).setCell ⟨w.heap.size + 1 + 1, 7, none⟩ (.int .i64 nano)) = U11
    have h0 := HB.out.store 7 rfl [.slice ao key.length cap, .int .i64 side, .int .i64 cur, .int .i64 next, .int .u64 send, .int .u64 ceil, .int .i64 sec, .int .i64 nano] rfl
    rw [show Bag.setAll U10 (w.heap.size + 1 + 1) 0 [.slice ao key.length cap, .int .i64 side, .int .i64 cur, .int .i64 next, .int .u64 send, .int .u64 ceil, .int .i64 sec, .int .i64 nano] = U11 from hU] at h0
    simp only [List.set_cons_zero, List.set_cons_succ] at h0
    clear HB
    have HB := Lib.hid h0
    clear h0
    clear hU
    obtain ⟨qr_0, qr_1, qr_2, qr_3, qr_4, qr_5, qr_6, qr_7, qr_f⟩ := cells8 (HB.out.box 7 rfl)
    have qr_l := HB.out.boxLt 7 rfl
    refine bodyPost_ret (v := .tuple #[.agg #[.slice ao key.length cap, .int .i64 side, .int .i64 cur, .int .i64 next, .int .u64 send, .int .u64 ceil, .int .i64 sec, .int .i64 nano], .bool true]) (by simp [results, Try.results36, go_sem, qr_0, qr_1, qr_2, qr_3, qr_4, qr_5, qr_6, qr_7]) rfl ?_
    exact stepR_mk HY.out rfl (hr.on HB.out.below) (fun _ h => Or.inl h.symm) HB.out.below
  · have HY := Lib.hid (HZ.out.symm.trans (if_neg hz))
    have hz1 : (c0 == 0) = false := by rw [beq_eq_false_iff_ne]; exact hz
    clear hz
    obtain ⟨qA_0, qA_1, qA_2, qA_3, qA_4, qA_5, qA_6, qA_7, qA_f⟩ := cells8 (HB.out.box 5 rfl)
    have qA_l := HB.out.boxLt 5 rfl
    obtain ⟨qB_0, qB_1, qB_2, qB_3, qB_4, qB_5, qB_6, qB_7, qB_f⟩ := cells8 (HB.out.box 4 rfl)
    have qB_l := HB.out.boxLt 4 rfl
    obtain ⟨qr_0, qr_1, qr_2, qr_3, qr_4, qr_5, qr_6, qr_7, qr_f⟩ := cells8 (HB.out.box 7 rfl)
    have qr_l := HB.out.boxLt 7 rfl
    have nB_A := HB.out.boxNe 4 5 rfl rfl (by decide)
    have nr_A := HB.out.boxNe 7 5 rfl rfl (by decide)
    have nr_B := HB.out.boxNe 7 4 rfl rfl (by decide)
    go_wp2_with fail
    generalize hU : ((((((((W9.setCell ⟨w.heap.size + 1 + 1, 0, none⟩ (.slice A0 k0.length cA0)).setCell ⟨w.heap.size + 1 + 1, 1, none⟩ (.int .i64 s0)).setCell ⟨w.heap.size + 1 + 1, 2, none⟩ (.int .i64 c0)).setCell ⟨w.heap.size + 1 + 1, 3, none⟩ (.int .i64 n0)).setCell ⟨w.heap.size + 1 + 1, 4, none⟩ (.int .u64 e0)).setCell ⟨w.heap.size + 1 + 1, 5, none⟩ (.int .u64 f0)).setCell ⟨w.heap.size + 1 + 1, 6, none⟩ (.int .i64 x0)).setCell ⟨w.heap.size + 1 + 1, 7, none⟩ (.int .i64 y0)) = U10
    clear qA_0 qA_1 qA_2 qA_3 qA_4 qA_5 qA_6 qA_7 qA_f qA_l qB_0 qB_1 qB_2 qB_3 qB_4 qB_5 qB_6 qB_7 qB_f qB_l qr_0 qr_1 qr_2 qr_3 qr_4 qr_5 qr_6 qr_7 qr_f qr_l nB_A nr_A nr_B
    have h0 := HB.out.store 7 rfl [.slice A0 k0.length cA0, .int .i64 s0, .int .i64 c0, .int .i64 n0, .int .u64 e0, .int .u64 f0, .int .i64 x0, .int .i64 y0] rfl
    rw [show Bag.setAll W9 (w.heap.size + 1 + 1) 0 [.slice A0 k0.length cA0, .int .i64 s0, .int .i64 c0, .int .i64 n0, .int .u64 e0, .int .u64 f0, .int .i64 x0, .int .i64 y0] = U10 from hU] at h0
    simp only [List.set_cons_zero, List.set_cons_succ] at h0
    clear HB
    have HB := Lib.hid h0
    clear h0
    clear hU
    obtain ⟨qr_0, qr_1, qr_2, qr_3, qr_4, qr_5, qr_6, qr_7, qr_f⟩ := cells8 (HB.out.box 7 rfl)
    have qr_l := HB.out.boxLt 7 rfl
    refine bodyPost_ret (v := .tuple #[.agg #[.slice A0 k0.length cA0, .int .i64 s0, .int .i64 c0, .int .i64 n0, .int .u64 e0, .int .u64 f0, .int .i64 x0, .int .i64 y0], .bool true]) (by simp [results, Try.results36, go_sem, qr_0, qr_1, qr_2, qr_3, qr_4, qr_5, qr_6, qr_7]) rfl ?_
    exact stepR_mk HY.out rfl ((HB.out.mineRd 3 rfl)) (fun a h => Or.inr (HB.out.mineFar 3 rfl a h)) HB.out.below
set_option maxRecDepth 100000 in
set_option maxHeartbeats 4000000 in
theorem lawStep_2 (L : Ln) (ao : Option Addr) (cap : Nat) (g b c at1 ss sn : Int) (w : World) (hf : L.fits) (hr : Rd w ao L.key) (_hc0 : 0 ≤ c) (_hc1 : c ≤ 18446744073709551615) (_ha0 : 0 ≤ at1) (_ha1 : at1 ≤ 18446744073709551615) (_hss : ss ≤ 9223372036854775807) : Calls Try.prog 36 #[L.val ao cap, .agg #[.int .i64 2, .int .i64 g, .int .i64 b, .int .u64 c, .int .u64 at1, .int .i64 ss, .int .i64 sn]] w (StepR w ao (stepL L ⟨2, g, b, c, at1, ss, sn⟩) [.bool true]) := by
  obtain ⟨N, hN⟩ : ∃ N, reserveL L (Ask.usum L.send at1) b = N := ⟨_, rfl⟩
  have hst : stepL L ⟨2, g, b, c, at1, ss, sn⟩ = if N.cur = 0 then L else N := by rw [← hN]; rfl
  rw [hst]
  have hkn : N.key.length ≤ 281474976710656 := by rw [← hN]; exact keys_le (by have := hf.len; omega)
  obtain ⟨z, hz⟩ : ∃ z, (if N.cur = 0 then L else N) = z := ⟨_, rfl⟩
  rw [hz]
  obtain ⟨k0, s0, c0, n0, e0, f0, x0, y0⟩ := N
  simp only at hkn hz
  have hu := usum_bd L.send at1
  have hux : Ask.usum L.send at1 = IntKind.u64.wrap (L.send + at1) := rfl
  have HF := Lib.hid hf
  clear hst
  obtain ⟨key, side, cur, next, send, ceil, sec, nano⟩ := L
  unfold Ln.val
  obtain ⟨hl, hcur0, hcur1, hnext0, hnext1, hsend0, hsend1, hceil0, hceil1, hs⟩ := hf
  simp only at hl hr hcur0 hcur1 hnext0 hnext1 hsend0 hsend1 hceil0 hceil1 hs hu hux ⊢
  obtain ⟨ax, hax⟩ : ∃ x, Ask.usum send at1 = x := ⟨_, rfl⟩
  simp only [hax] at hu hux hN
  have HX := Lib.hid hux
  clear hux hax
  have HN := Lib.hid hN
  have HZ := Lib.hid hz
  clear hN hz
  go_enter Try.func36, Try.ntmps36
  go_wp2_with fail
  generalize hU : ((((((w.alloc (.cells #[.slice ao key.length cap, .int .i64 side, .int .i64 cur, .int .i64 next, .int .u64 send, .int .u64 ceil, .int .i64 sec, .int .i64 nano] 27 (0, 0))).alloc (.cells #[.int .i64 2, .int .i64 g, .int .i64 b, .int .u64 c, .int .u64 at1, .int .i64 ss, .int .i64 sn] 57 (0, 0))).alloc (.cells #[.slice none 0 0, .int .i64 0, .int .i64 0, .int .i64 0, .int .u64 0, .int .u64 0, .int .i64 0, .int .i64 0] 27 (0, 0))).alloc (.cells #[.int .i64 g, .int .i64 b, .int .u64 c, .int .u64 at1, .int .i64 ss, .int .i64 sn] 37 (0, 0))).alloc (.cells #[.slice none 0 0, .int .i64 0, .int .i64 0, .int .i64 0, .int .u64 0, .int .u64 0, .int .i64 0, .int .i64 0] 27 (0, 0))).alloc (.cells #[.slice none 0 0, .int .i64 0, .int .i64 0, .int .i64 0, .int .u64 0, .int .u64 0, .int .i64 0, .int .i64 0] 27 (0, 0))) = U1
  have h0 := ((((((Bag.start w).allocAt #[.slice ao key.length cap, .int .i64 side, .int .i64 cur, .int .i64 next, .int .u64 send, .int .u64 ceil, .int .i64 sec, .int .i64 nano] 27 (w.heap.size) rfl).allocAt #[.int .i64 2, .int .i64 g, .int .i64 b, .int .u64 c, .int .u64 at1, .int .i64 ss, .int .i64 sn] 57 (w.heap.size + 1) (by simp only [alloc_size])).allocAt #[.slice none 0 0, .int .i64 0, .int .i64 0, .int .i64 0, .int .u64 0, .int .u64 0, .int .i64 0, .int .i64 0] 27 (w.heap.size + 1 + 1) (by simp only [alloc_size])).allocAt #[.int .i64 g, .int .i64 b, .int .u64 c, .int .u64 at1, .int .i64 ss, .int .i64 sn] 37 (w.heap.size + 1 + 1 + 1) (by simp only [alloc_size])).allocAt #[.slice none 0 0, .int .i64 0, .int .i64 0, .int .i64 0, .int .u64 0, .int .u64 0, .int .i64 0, .int .i64 0] 27 (w.heap.size + 1 + 1 + 1 + 1) (by simp only [alloc_size])).allocAt #[.slice none 0 0, .int .i64 0, .int .i64 0, .int .i64 0, .int .u64 0, .int .u64 0, .int .i64 0, .int .i64 0] 27 (w.heap.size + 1 + 1 + 1 + 1 + 1) (by simp only [alloc_size])
  rw [hU] at h0
  have HB := Lib.hid h0
  clear h0 hU
  rw [← HX.out]
  refine (laneReserve ⟨key, side, cur, next, send, ceil, sec, nano⟩ ao cap ax b hu.1 hu.2 _ HF.out (hr.on HB.out.below)).mono ?_
  rintro e W2 ⟨A0, cA0, he, Mx, hb⟩
  rw [HN.out] at he Mx
  obtain rfl : e = .returned ((.agg #[.slice A0 k0.length cA0, .int .i64 s0, .int .i64 c0, .int .i64 n0, .int .u64 e0, .int .u64 f0, .int .i64 x0, .int .i64 y0])) := he
  have h0 := HB.out.mine hb Mx
  clear HB
  have HB := Lib.hid h0
  clear h0
  clear Mx
  clear hb
  obtain ⟨qL_0, qL_1, qL_2, qL_3, qL_4, qL_5, qL_6, qL_7, qL_f⟩ := cells8 (HB.out.box 6 rfl)
  have qL_l := HB.out.boxLt 6 rfl
  obtain ⟨qN_0, qN_1, qN_2, qN_3, qN_4, qN_5, qN_f⟩ := cells6 (HB.out.box 3 rfl)
  have qN_l := HB.out.boxLt 3 rfl
  obtain ⟨qA_0, qA_1, qA_2, qA_3, qA_4, qA_5, qA_6, qA_7, qA_f⟩ := cells8 (HB.out.box 2 rfl)
  have qA_l := HB.out.boxLt 2 rfl
  have nN_L := HB.out.boxNe 3 6 rfl rfl (by decide)
  have nA_L := HB.out.boxNe 2 6 rfl rfl (by decide)
  have nA_N := HB.out.boxNe 2 3 rfl rfl (by decide)
  go_wp2_with fail
  generalize hU : ((((((((W2.setCell ⟨w.heap.size + 1 + 1 + 1 + 1, 0, none⟩ (.slice A0 k0.length cA0)).setCell ⟨w.heap.size + 1 + 1 + 1 + 1, 1, none⟩ (.int .i64 s0)).setCell ⟨w.heap.size + 1 + 1 + 1 + 1, 2, none⟩ (.int .i64 c0)).setCell ⟨w.heap.size + 1 + 1 + 1 + 1, 3, none⟩ (.int .i64 n0)).setCell ⟨w.heap.size + 1 + 1 + 1 + 1, 4, none⟩ (.int .u64 e0)).setCell ⟨w.heap.size + 1 + 1 + 1 + 1, 5, none⟩ (.int .u64 f0)).setCell ⟨w.heap.size + 1 + 1 + 1 + 1, 6, none⟩ (.int .i64 x0)).setCell ⟨w.heap.size + 1 + 1 + 1 + 1, 7, none⟩ (.int .i64 y0)) = U3
  clear qL_0 qL_1 qL_2 qL_3 qL_4 qL_5 qL_6 qL_7 qL_f qL_l qN_0 qN_1 qN_2 qN_3 qN_4 qN_5 qN_f qN_l qA_0 qA_1 qA_2 qA_3 qA_4 qA_5 qA_6 qA_7 qA_f qA_l nN_L nA_L nA_N
  have h0 := HB.out.store 2 rfl [.slice A0 k0.length cA0, .int .i64 s0, .int .i64 c0, .int .i64 n0, .int .u64 e0, .int .u64 f0, .int .i64 x0, .int .i64 y0] rfl
  rw [show Bag.setAll W2 (w.heap.size + 1 + 1 + 1 + 1) 0 [.slice A0 k0.length cA0, .int .i64 s0, .int .i64 c0, .int .i64 n0, .int .u64 e0, .int .u64 f0, .int .i64 x0, .int .i64 y0] = U3 from hU] at h0
  simp only [List.set_cons_zero, List.set_cons_succ] at h0
  clear HB
  have HB := Lib.hid h0
  clear h0
  clear hU
  rw [← HX.out]
  refine (refReserve ⟨key, side, cur, next, send, ceil, sec, nano⟩ ao cap ax b hu.1 hu.2 _ HF.out (hr.on HB.out.below)).mono ?_
  rintro e W4 ⟨B0, cB0, he, Mx, hb⟩
  rw [HN.out] at he Mx
  obtain rfl : e = .returned ((.agg #[.slice B0 k0.length cB0, .int .i64 s0, .int .i64 c0, .int .i64 n0, .int .u64 e0, .int .u64 f0, .int .i64 x0, .int .i64 y0])) := he
  have h0 := HB.out.mine hb Mx
  clear HB
  have HB := Lib.hid h0
  clear h0
  clear Mx
  clear hb
  obtain ⟨qA_0, qA_1, qA_2, qA_3, qA_4, qA_5, qA_6, qA_7, qA_f⟩ := cells8 (HB.out.box 3 rfl)
  have qA_l := HB.out.boxLt 3 rfl
  obtain ⟨qB_0, qB_1, qB_2, qB_3, qB_4, qB_5, qB_6, qB_7, qB_f⟩ := cells8 (HB.out.box 2 rfl)
  have qB_l := HB.out.boxLt 2 rfl
  have nB_A := HB.out.boxNe 2 3 rfl rfl (by decide)
  go_wp2_with fail
  generalize hU : ((((((((W4.setCell ⟨w.heap.size + 1 + 1 + 1 + 1 + 1, 0, none⟩ (.slice B0 k0.length cB0)).setCell ⟨w.heap.size + 1 + 1 + 1 + 1 + 1, 1, none⟩ (.int .i64 s0)).setCell ⟨w.heap.size + 1 + 1 + 1 + 1 + 1, 2, none⟩ (.int .i64 c0)).setCell ⟨w.heap.size + 1 + 1 + 1 + 1 + 1, 3, none⟩ (.int .i64 n0)).setCell ⟨w.heap.size + 1 + 1 + 1 + 1 + 1, 4, none⟩ (.int .u64 e0)).setCell ⟨w.heap.size + 1 + 1 + 1 + 1 + 1, 5, none⟩ (.int .u64 f0)).setCell ⟨w.heap.size + 1 + 1 + 1 + 1 + 1, 6, none⟩ (.int .i64 x0)).setCell ⟨w.heap.size + 1 + 1 + 1 + 1 + 1, 7, none⟩ (.int .i64 y0)) = U5
  clear qA_0 qA_1 qA_2 qA_3 qA_4 qA_5 qA_6 qA_7 qA_f qA_l qB_0 qB_1 qB_2 qB_3 qB_4 qB_5 qB_6 qB_7 qB_f qB_l nB_A
  have h0 := HB.out.store 2 rfl [.slice B0 k0.length cB0, .int .i64 s0, .int .i64 c0, .int .i64 n0, .int .u64 e0, .int .u64 f0, .int .i64 x0, .int .i64 y0] rfl
  rw [show Bag.setAll W4 (w.heap.size + 1 + 1 + 1 + 1 + 1) 0 [.slice B0 k0.length cB0, .int .i64 s0, .int .i64 c0, .int .i64 n0, .int .u64 e0, .int .u64 f0, .int .i64 x0, .int .i64 y0] = U5 from hU] at h0
  simp only [List.set_cons_zero, List.set_cons_succ] at h0
  clear HB
  have HB := Lib.hid h0
  clear h0
  clear hU
  refine (sameLane ⟨k0, s0, c0, n0, e0, f0, x0, y0⟩ ⟨k0, s0, c0, n0, e0, f0, x0, y0⟩ A0 B0 cA0 cB0 _ hkn hkn (HB.out.mineRd 1 rfl) (HB.out.mineRd 0 rfl)).mono ?_
  rintro e W6 ⟨he, hb⟩
  rw [sameL_refl] at he
  subst he
  have h0 := HB.out.call hb
  clear HB
  have HB := Lib.hid h0
  clear h0
  clear hb
  by_cases hz : c0 = 0
  · have HY := Lib.hid (HZ.out.symm.trans (if_pos hz))
    have hz1 : (c0 == 0) = true := by rw [beq_iff_eq]; exact hz
    clear hz
    obtain ⟨qL_0, qL_1, qL_2, qL_3, qL_4, qL_5, qL_6, qL_7, qL_f⟩ := cells8 (HB.out.box 7 rfl)
    have qL_l := HB.out.boxLt 7 rfl
    obtain ⟨qA_0, qA_1, qA_2, qA_3, qA_4, qA_5, qA_6, qA_7, qA_f⟩ := cells8 (HB.out.box 3 rfl)
    have qA_l := HB.out.boxLt 3 rfl
    obtain ⟨qB_0, qB_1, qB_2, qB_3, qB_4, qB_5, qB_6, qB_7, qB_f⟩ := cells8 (HB.out.box 2 rfl)
    have qB_l := HB.out.boxLt 2 rfl
    obtain ⟨qr_0, qr_1, qr_2, qr_3, qr_4, qr_5, qr_6, qr_7, qr_f⟩ := cells8 (HB.out.box 5 rfl)
    have qr_l := HB.out.boxLt 5 rfl
    have nA_L := HB.out.boxNe 3 7 rfl rfl (by decide)
    have nB_L := HB.out.boxNe 2 7 rfl rfl (by decide)
    have nB_A := HB.out.boxNe 2 3 rfl rfl (by decide)
    have nr_L := HB.out.boxNe 5 7 rfl rfl (by decide)
    have nr_A := HB.out.boxNe 5 3 rfl rfl (by decide)
    have nr_B := HB.out.boxNe 5 2 rfl rfl (by decide)
    go_wp2_with fail
    generalize hU : ((((((((W6.setCell ⟨w.heap.size + 1 + 1 + 1 + 1, 0, none⟩ (.slice ao key.length cap)).setCell ⟨w.heap.size + 1 + 1 + 1 + 1, 1, none⟩ (.int .i64 side)).setCell ⟨w.heap.size + 1 + 1 + 1 + 1, 2, none⟩ (.int .i64 cur)).setCell ⟨w.heap.size + 1 + 1 + 1 + 1, 3, none⟩ (.int .i64 next)).setCell ⟨w.heap.size + 1 + 1 + 1 + 1, 4, none⟩ (.int .u64 send)).setCell ⟨w.heap.size + 1 + 1 + 1 + 1, 5, none⟩ (.int .u64 ceil)).setCell ⟨w.heap.size + 1 + 1 + 1 + 1, 6, none⟩ (.int .i64 sec)).setCell ⟨w.heap.size + 1 + 1 + 1 + 1, 7, none⟩ (.int .i64 nano)) = U7
    clear qL_0 qL_1 qL_2 qL_3 qL_4 qL_5 qL_6 qL_7 qL_f qL_l qA_0 qA_1 qA_2 qA_3 qA_4 qA_5 qA_6 qA_7 qA_f qA_l qB_0 qB_1 qB_2 qB_3 qB_4 qB_5 qB_6 qB_7 qB_f qB_l qr_0 qr_1 qr_2 qr_3 qr_4 qr_5 qr_6 qr_7 qr_f qr_l nA_L nB_L nB_A nr_L nr_A nr_B
    have h0 := HB.out.store 3 rfl [.slice ao key.length cap, .int .i64 side, .int .i64 cur, .int .i64 next, .int .u64 send, .int .u64 ceil, .int .i64 sec, .int .i64 nano] rfl
    rw [show Bag.setAll W6 (w.heap.size + 1 + 1 + 1 + 1) 0 [.slice ao key.length cap, .int .i64 side, .int .i64 cur, .int .i64 next, .int .u64 send, .int .u64 ceil, .int .i64 sec, .int .i64 nano] = U7 from hU] at h0
    simp only [List.set_cons_zero, List.set_cons_succ] at h0
    clear HB
    have HB := Lib.hid h0
    clear h0
    clear hU
    generalize hU : ((((((((U7.setCell ⟨w.heap.size + 1 + 1, 0, none⟩ (.slice ao key.length cap)).setCell ⟨w.heap.size + 1 + 1, 1, none⟩ (.int .i64 side)).setCell ⟨w.heap.size + 1 + 1, 2, none⟩ (.int .i64 cur)).setCell ⟨w.heap.size + 1 + 1, 3, none⟩ (.int .i64 next)).setCell ⟨w.heap.size + 1 + 1, 4, none⟩ (.int .u64 send)).setCell ⟨w.heap.size + 1 + 1, 5, none⟩ (.int .u64 ceil)).setCell ⟨w.heap.size + 1 + 1, 6, none⟩ (.int .i64 sec)).setCell ⟨w.heap.size + 1 + 1, 7, none⟩ (.int .i64 nano)) = U8
    have h0 := HB.out.store 5 rfl [.slice ao key.length cap, .int .i64 side, .int .i64 cur, .int .i64 next, .int .u64 send, .int .u64 ceil, .int .i64 sec, .int .i64 nano] rfl
    rw [show Bag.setAll U7 (w.heap.size + 1 + 1) 0 [.slice ao key.length cap, .int .i64 side, .int .i64 cur, .int .i64 next, .int .u64 send, .int .u64 ceil, .int .i64 sec, .int .i64 nano] = U8 from hU] at h0
    simp only [List.set_cons_zero, List.set_cons_succ] at h0
    clear HB
    have HB := Lib.hid h0
    clear h0
    clear hU
    obtain ⟨qr_0, qr_1, qr_2, qr_3, qr_4, qr_5, qr_6, qr_7, qr_f⟩ := cells8 (HB.out.box 5 rfl)
    have qr_l := HB.out.boxLt 5 rfl
    refine bodyPost_ret (v := .tuple #[.agg #[.slice ao key.length cap, .int .i64 side, .int .i64 cur, .int .i64 next, .int .u64 send, .int .u64 ceil, .int .i64 sec, .int .i64 nano], .bool true]) (by simp [results, Try.results36, go_sem, qr_0, qr_1, qr_2, qr_3, qr_4, qr_5, qr_6, qr_7]) rfl ?_
    exact stepR_mk HY.out rfl (hr.on HB.out.below) (fun _ h => Or.inl h.symm) HB.out.below
  · have HY := Lib.hid (HZ.out.symm.trans (if_neg hz))
    have hz1 : (c0 == 0) = false := by rw [beq_eq_false_iff_ne]; exact hz
    clear hz
    obtain ⟨qA_0, qA_1, qA_2, qA_3, qA_4, qA_5, qA_6, qA_7, qA_f⟩ := cells8 (HB.out.box 3 rfl)
    have qA_l := HB.out.boxLt 3 rfl
    obtain ⟨qB_0, qB_1, qB_2, qB_3, qB_4, qB_5, qB_6, qB_7, qB_f⟩ := cells8 (HB.out.box 2 rfl)
    have qB_l := HB.out.boxLt 2 rfl
    obtain ⟨qr_0, qr_1, qr_2, qr_3, qr_4, qr_5, qr_6, qr_7, qr_f⟩ := cells8 (HB.out.box 5 rfl)
    have qr_l := HB.out.boxLt 5 rfl
    have nB_A := HB.out.boxNe 2 3 rfl rfl (by decide)
    have nr_A := HB.out.boxNe 5 3 rfl rfl (by decide)
    have nr_B := HB.out.boxNe 5 2 rfl rfl (by decide)
    go_wp2_with fail
    generalize hU : ((((((((W6.setCell ⟨w.heap.size + 1 + 1, 0, none⟩ (.slice A0 k0.length cA0)).setCell ⟨w.heap.size + 1 + 1, 1, none⟩ (.int .i64 s0)).setCell ⟨w.heap.size + 1 + 1, 2, none⟩ (.int .i64 c0)).setCell ⟨w.heap.size + 1 + 1, 3, none⟩ (.int .i64 n0)).setCell ⟨w.heap.size + 1 + 1, 4, none⟩ (.int .u64 e0)).setCell ⟨w.heap.size + 1 + 1, 5, none⟩ (.int .u64 f0)).setCell ⟨w.heap.size + 1 + 1, 6, none⟩ (.int .i64 x0)).setCell ⟨w.heap.size + 1 + 1, 7, none⟩ (.int .i64 y0)) = U7
    clear qA_0 qA_1 qA_2 qA_3 qA_4 qA_5 qA_6 qA_7 qA_f qA_l qB_0 qB_1 qB_2 qB_3 qB_4 qB_5 qB_6 qB_7 qB_f qB_l qr_0 qr_1 qr_2 qr_3 qr_4 qr_5 qr_6 qr_7 qr_f qr_l nB_A nr_A nr_B
    have h0 := HB.out.store 5 rfl [.slice A0 k0.length cA0, .int .i64 s0, .int .i64 c0, .int .i64 n0, .int .u64 e0, .int .u64 f0, .int .i64 x0, .int .i64 y0] rfl
    rw [show Bag.setAll W6 (w.heap.size + 1 + 1) 0 [.slice A0 k0.length cA0, .int .i64 s0, .int .i64 c0, .int .i64 n0, .int .u64 e0, .int .u64 f0, .int .i64 x0, .int .i64 y0] = U7 from hU] at h0
    simp only [List.set_cons_zero, List.set_cons_succ] at h0
    clear HB
    have HB := Lib.hid h0
    clear h0
    clear hU
    obtain ⟨qr_0, qr_1, qr_2, qr_3, qr_4, qr_5, qr_6, qr_7, qr_f⟩ := cells8 (HB.out.box 5 rfl)
    have qr_l := HB.out.boxLt 5 rfl
    refine bodyPost_ret (v := .tuple #[.agg #[.slice A0 k0.length cA0, .int .i64 s0, .int .i64 c0, .int .i64 n0, .int .u64 e0, .int .u64 f0, .int .i64 x0, .int .i64 y0], .bool true]) (by simp [results, Try.results36, go_sem, qr_0, qr_1, qr_2, qr_3, qr_4, qr_5, qr_6, qr_7]) rfl ?_
    exact stepR_mk HY.out rfl ((HB.out.mineRd 1 rfl)) (fun a h => Or.inr (HB.out.mineFar 1 rfl a h)) HB.out.below
set_option maxRecDepth 100000 in
set_option maxHeartbeats 4000000 in
theorem lawStep_3 (L : Ln) (ao : Option Addr) (cap : Nat) (g b c at1 ss sn : Int) (w : World) (hf : L.fits) (hr : Rd w ao L.key) (_hc0 : 0 ≤ c) (_hc1 : c ≤ 18446744073709551615) (_ha0 : 0 ≤ at1) (_ha1 : at1 ≤ 18446744073709551615) (_hss : ss ≤ 9223372036854775807) : Calls Try.prog 36 #[L.val ao cap, .agg #[.int .i64 3, .int .i64 g, .int .i64 b, .int .u64 c, .int .u64 at1, .int .i64 ss, .int .i64 sn]] w (StepR w ao (stepL L ⟨3, g, b, c, at1, ss, sn⟩) [.bool true]) := by
  obtain ⟨N, hN⟩ : ∃ N, proposeL L = N := ⟨_, rfl⟩
  have hst : stepL L ⟨3, g, b, c, at1, ss, sn⟩ = if N.cur = 0 then L else N := by rw [← hN]; rfl
  rw [hst]
  have hkn : N.key.length ≤ 281474976710656 := by rw [← hN]; exact keys_le (by have := hf.len; omega)
  obtain ⟨z, hz⟩ : ∃ z, (if N.cur = 0 then L else N) = z := ⟨_, rfl⟩
  rw [hz]
  obtain ⟨k0, s0, c0, n0, e0, f0, x0, y0⟩ := N
  simp only at hkn hz
  obtain ⟨ng, hng⟩ : ∃ x, nextG L = x := ⟨_, rfl⟩
  obtain ⟨ne, hne⟩ : ∃ x, nextE L = x := ⟨_, rfl⟩
  have HF := Lib.hid hf
  clear hst
  obtain ⟨key, side, cur, next, send, ceil, sec, nano⟩ := L
  unfold Ln.val
  obtain ⟨hl, hcur0, hcur1, hnext0, hnext1, hsend0, hsend1, hceil0, hceil1, hs⟩ := hf
  simp only at hl hr hcur0 hcur1 hnext0 hnext1 hsend0 hsend1 hceil0 hceil1 hs ⊢
  have HN := Lib.hid hN
  have HZ := Lib.hid hz
  have HG := Lib.hid hng
  have HE := Lib.hid hne
  clear hN hz hng hne
  go_enter Try.func36, Try.ntmps36
  go_wp2_with fail
  generalize hU : ((((((w.alloc (.cells #[.slice ao key.length cap, .int .i64 side, .int .i64 cur, .int .i64 next, .int .u64 send, .int .u64 ceil, .int .i64 sec, .int .i64 nano] 27 (0, 0))).alloc (.cells #[.int .i64 3, .int .i64 g, .int .i64 b, .int .u64 c, .int .u64 at1, .int .i64 ss, .int .i64 sn] 57 (0, 0))).alloc (.cells #[.slice none 0 0, .int .i64 0, .int .i64 0, .int .i64 0, .int .u64 0, .int .u64 0, .int .i64 0, .int .i64 0] 27 (0, 0))).alloc (.cells #[.int .i64 g, .int .i64 b, .int .u64 c, .int .u64 at1, .int .i64 ss, .int .i64 sn] 37 (0, 0))).alloc (.cells #[.slice none 0 0, .int .i64 0, .int .i64 0, .int .i64 0, .int .u64 0, .int .u64 0, .int .i64 0, .int .i64 0] 27 (0, 0))).alloc (.cells #[.slice none 0 0, .int .i64 0, .int .i64 0, .int .i64 0, .int .u64 0, .int .u64 0, .int .i64 0, .int .i64 0] 27 (0, 0))) = U1
  have h0 := ((((((Bag.start w).allocAt #[.slice ao key.length cap, .int .i64 side, .int .i64 cur, .int .i64 next, .int .u64 send, .int .u64 ceil, .int .i64 sec, .int .i64 nano] 27 (w.heap.size) rfl).allocAt #[.int .i64 3, .int .i64 g, .int .i64 b, .int .u64 c, .int .u64 at1, .int .i64 ss, .int .i64 sn] 57 (w.heap.size + 1) (by simp only [alloc_size])).allocAt #[.slice none 0 0, .int .i64 0, .int .i64 0, .int .i64 0, .int .u64 0, .int .u64 0, .int .i64 0, .int .i64 0] 27 (w.heap.size + 1 + 1) (by simp only [alloc_size])).allocAt #[.int .i64 g, .int .i64 b, .int .u64 c, .int .u64 at1, .int .i64 ss, .int .i64 sn] 37 (w.heap.size + 1 + 1 + 1) (by simp only [alloc_size])).allocAt #[.slice none 0 0, .int .i64 0, .int .i64 0, .int .i64 0, .int .u64 0, .int .u64 0, .int .i64 0, .int .i64 0] 27 (w.heap.size + 1 + 1 + 1 + 1) (by simp only [alloc_size])).allocAt #[.slice none 0 0, .int .i64 0, .int .i64 0, .int .i64 0, .int .u64 0, .int .u64 0, .int .i64 0, .int .i64 0] 27 (w.heap.size + 1 + 1 + 1 + 1 + 1) (by simp only [alloc_size])
  rw [hU] at h0
  have HB := Lib.hid h0
  clear h0 hU
  refine (lanePropose ⟨key, side, cur, next, send, ceil, sec, nano⟩ ao cap _ HF.out (hr.on HB.out.below)).mono ?_
  rintro e W2 ⟨A0, cA0, he, Mx, hb⟩
  rw [HN.out] at he Mx
  rw [HG.out, HE.out] at he
  obtain rfl : e = .returned (.tuple #[(.agg #[.slice A0 k0.length cA0, .int .i64 s0, .int .i64 c0, .int .i64 n0, .int .u64 e0, .int .u64 f0, .int .i64 x0, .int .i64 y0]), .int .i64 ng, .int .i64 ne]) := he
  have h0 := HB.out.mine hb Mx
  clear HB
  have HB := Lib.hid h0
  clear h0
  clear Mx
  clear hb
  obtain ⟨qL_0, qL_1, qL_2, qL_3, qL_4, qL_5, qL_6, qL_7, qL_f⟩ := cells8 (HB.out.box 6 rfl)
  have qL_l := HB.out.boxLt 6 rfl
  obtain ⟨qN_0, qN_1, qN_2, qN_3, qN_4, qN_5, qN_f⟩ := cells6 (HB.out.box 3 rfl)
  have qN_l := HB.out.boxLt 3 rfl
  have nN_L := HB.out.boxNe 3 6 rfl rfl (by decide)
  go_wp2_with fail
  generalize hU : W2.alloc (.cells #[.slice A0 k0.length cA0, .int .i64 s0, .int .i64 c0, .int .i64 n0, .int .u64 e0, .int .u64 f0, .int .i64 x0, .int .i64 y0] 27 (0, 0)) = U3
  clear qL_0 qL_1 qL_2 qL_3 qL_4 qL_5 qL_6 qL_7 qL_f qL_l qN_0 qN_1 qN_2 qN_3 qN_4 qN_5 qN_f qN_l nN_L
  have h0 := HB.out.alloc #[.slice A0 k0.length cA0, .int .i64 s0, .int .i64 c0, .int .i64 n0, .int .u64 e0, .int .u64 f0, .int .i64 x0, .int .i64 y0] 27
  rw [hU] at h0
  clear HB
  have HB := Lib.hid h0
  clear h0
  clear hU
  refine (refPropose ⟨key, side, cur, next, send, ceil, sec, nano⟩ ao cap _ HF.out (hr.on HB.out.below)).mono ?_
  rintro e W4 ⟨B0, cB0, he, Mx, hb⟩
  rw [HN.out] at he Mx
  rw [HG.out, HE.out] at he
  obtain rfl : e = .returned (.tuple #[(.agg #[.slice B0 k0.length cB0, .int .i64 s0, .int .i64 c0, .int .i64 n0, .int .u64 e0, .int .u64 f0, .int .i64 x0, .int .i64 y0]), .int .i64 ng, .int .i64 ne]) := he
  have h0 := HB.out.mine hb Mx
  clear HB
  have HB := Lib.hid h0
  clear h0
  clear Mx
  clear hb
  go_wp2_with fail
  generalize hU : W4.alloc (.cells #[.slice B0 k0.length cB0, .int .i64 s0, .int .i64 c0, .int .i64 n0, .int .u64 e0, .int .u64 f0, .int .i64 x0, .int .i64 y0] 27 (0, 0)) = U5
  have h0 := HB.out.alloc #[.slice B0 k0.length cB0, .int .i64 s0, .int .i64 c0, .int .i64 n0, .int .u64 e0, .int .u64 f0, .int .i64 x0, .int .i64 y0] 27
  rw [hU] at h0
  clear HB
  have HB := Lib.hid h0
  clear h0
  clear hU
  obtain ⟨qa_0, qa_1, qa_2, qa_3, qa_4, qa_5, qa_6, qa_7, qa_f⟩ := cells8 (HB.out.box 2 rfl)
  have qa_l := HB.out.boxLt 2 rfl
  obtain ⟨qb_0, qb_1, qb_2, qb_3, qb_4, qb_5, qb_6, qb_7, qb_f⟩ := cells8 (HB.out.box 0 rfl)
  have qb_l := HB.out.boxLt 0 rfl
  obtain ⟨qA_0, qA_1, qA_2, qA_3, qA_4, qA_5, qA_6, qA_7, qA_f⟩ := cells8 (HB.out.box 5 rfl)
  have qA_l := HB.out.boxLt 5 rfl
  obtain ⟨qB_0, qB_1, qB_2, qB_3, qB_4, qB_5, qB_6, qB_7, qB_f⟩ := cells8 (HB.out.box 4 rfl)
  have qB_l := HB.out.boxLt 4 rfl
  have nb_a := HB.out.boxNe 0 2 rfl rfl (by decide)
  have nA_a := HB.out.boxNe 5 2 rfl rfl (by decide)
  have nA_b := HB.out.boxNe 5 0 rfl rfl (by decide)
  have nB_a := HB.out.boxNe 4 2 rfl rfl (by decide)
  have nB_b := HB.out.boxNe 4 0 rfl rfl (by decide)
  have nB_A := HB.out.boxNe 4 5 rfl rfl (by decide)
  go_region
  generalize hU : ((((((((U5.setCell ⟨w.heap.size + 1 + 1 + 1 + 1, 0, none⟩ (.slice A0 k0.length cA0)).setCell ⟨w.heap.size + 1 + 1 + 1 + 1, 1, none⟩ (.int .i64 s0)).setCell ⟨w.heap.size + 1 + 1 + 1 + 1, 2, none⟩ (.int .i64 c0)).setCell ⟨w.heap.size + 1 + 1 + 1 + 1, 3, none⟩ (.int .i64 n0)).setCell ⟨w.heap.size + 1 + 1 + 1 + 1, 4, none⟩ (.int .u64 e0)).setCell ⟨w.heap.size + 1 + 1 + 1 + 1, 5, none⟩ (.int .u64 f0)).setCell ⟨w.heap.size + 1 + 1 + 1 + 1, 6, none⟩ (.int .i64 x0)).setCell ⟨w.heap.size + 1 + 1 + 1 + 1, 7, none⟩ (.int .i64 y0)) = U6
  clear qa_0 qa_1 qa_2 qa_3 qa_4 qa_5 qa_6 qa_7 qa_f qa_l qb_0 qb_1 qb_2 qb_3 qb_4 qb_5 qb_6 qb_7 qb_f qb_l qA_0 qA_1 qA_2 qA_3 qA_4 qA_5 qA_6 qA_7 qA_f qA_l qB_0 qB_1 qB_2 qB_3 qB_4 qB_5 qB_6 qB_7 qB_f qB_l nb_a nA_a nA_b nB_a nB_b nB_A
  have h0 := HB.out.store 5 rfl [.slice A0 k0.length cA0, .int .i64 s0, .int .i64 c0, .int .i64 n0, .int .u64 e0, .int .u64 f0, .int .i64 x0, .int .i64 y0] rfl
  rw [show Bag.setAll U5 (w.heap.size + 1 + 1 + 1 + 1) 0 [.slice A0 k0.length cA0, .int .i64 s0, .int .i64 c0, .int .i64 n0, .int .u64 e0, .int .u64 f0, .int .i64 x0, .int .i64 y0] = U6 from hU] at h0
  simp only [List.set_cons_zero, List.set_cons_succ] at h0
  clear HB
  have HB := Lib.hid h0
  clear h0
  clear hU
  generalize hU : ((((((((U6.setCell ⟨w.heap.size + 1 + 1 + 1 + 1 + 1, 0, none⟩ (.slice B0 k0.length cB0)).setCell ⟨w.heap.size + 1 + 1 + 1 + 1 + 1, 1, none⟩ (.int .i64 s0)).setCell ⟨w.heap.size + 1 + 1 + 1 + 1 + 1, 2, none⟩ (.int .i64 c0)).setCell ⟨w.heap.size + 1 + 1 + 1 + 1 + 1, 3, none⟩ (.int .i64 n0)).setCell ⟨w.heap.size + 1 + 1 + 1 + 1 + 1, 4, none⟩ (.int .u64 e0)).setCell ⟨w.heap.size + 1 + 1 + 1 + 1 + 1, 5, none⟩ (.int .u64 f0)).setCell ⟨w.heap.size + 1 + 1 + 1 + 1 + 1, 6, none⟩ (.int .i64 x0)).setCell ⟨w.heap.size + 1 + 1 + 1 + 1 + 1, 7, none⟩ (.int .i64 y0)) = U7
  have h0 := HB.out.store 4 rfl [.slice B0 k0.length cB0, .int .i64 s0, .int .i64 c0, .int .i64 n0, .int .u64 e0, .int .u64 f0, .int .i64 x0, .int .i64 y0] rfl
  rw [show Bag.setAll U6 (w.heap.size + 1 + 1 + 1 + 1 + 1) 0 [.slice B0 k0.length cB0, .int .i64 s0, .int .i64 c0, .int .i64 n0, .int .u64 e0, .int .u64 f0, .int .i64 x0, .int .i64 y0] = U7 from hU] at h0
  simp only [List.set_cons_zero, List.set_cons_succ] at h0
  clear HB
  have HB := Lib.hid h0
  clear h0
  clear hU
  generalize hU : U7.drew = U8
  have h0 := HB.out.drew
  rw [hU] at h0
  clear HB
  have HB := Lib.hid h0
  clear h0
  clear hU
  obtain ⟨qA_0, qA_1, qA_2, qA_3, qA_4, qA_5, qA_6, qA_7, qA_f⟩ := cells8 (HB.out.box 5 rfl)
  have qA_l := HB.out.boxLt 5 rfl
  obtain ⟨qB_0, qB_1, qB_2, qB_3, qB_4, qB_5, qB_6, qB_7, qB_f⟩ := cells8 (HB.out.box 4 rfl)
  have qB_l := HB.out.boxLt 4 rfl
  have nB_A := HB.out.boxNe 4 5 rfl rfl (by decide)
  have i1 : (ne == ne) = true := by simp
  have i2 : (ng == ng) = true := by simp
  go_wp2_with (go_at_call 27; refine (numOf _ _).mono ?_; rintro e w' ⟨rfl, hw⟩; obtain rfl := hw.symm; clear hw)
  clear qA_0 qA_1 qA_2 qA_3 qA_4 qA_5 qA_6 qA_7 qA_f qA_l qB_0 qB_1 qB_2 qB_3 qB_4 qB_5 qB_6 qB_7 qB_f qB_l nB_A
  refine (sameLane ⟨k0, s0, c0, n0, e0, f0, x0, y0⟩ ⟨k0, s0, c0, n0, e0, f0, x0, y0⟩ A0 B0 cA0 cB0 _ hkn hkn (HB.out.mineRd 3 rfl) (HB.out.mineRd 1 rfl)).mono ?_
  rintro e W9 ⟨he, hb⟩
  rw [sameL_refl] at he
  subst he
  have h0 := HB.out.call hb
  clear HB
  have HB := Lib.hid h0
  clear h0
  clear hb
  by_cases hz : c0 = 0
  · have HY := Lib.hid (HZ.out.symm.trans (if_pos hz))
    have hz1 : (c0 == 0) = true := by rw [beq_iff_eq]; exact hz
    clear hz
    obtain ⟨qL_0, qL_1, qL_2, qL_3, qL_4, qL_5, qL_6, qL_7, qL_f⟩ := cells8 (HB.out.box 9 rfl)
    have qL_l := HB.out.boxLt 9 rfl
    obtain ⟨qA_0, qA_1, qA_2, qA_3, qA_4, qA_5, qA_6, qA_7, qA_f⟩ := cells8 (HB.out.box 5 rfl)
    have qA_l := HB.out.boxLt 5 rfl
    obtain ⟨qB_0, qB_1, qB_2, qB_3, qB_4, qB_5, qB_6, qB_7, qB_f⟩ := cells8 (HB.out.box 4 rfl)
    have qB_l := HB.out.boxLt 4 rfl
    obtain ⟨qr_0, qr_1, qr_2, qr_3, qr_4, qr_5, qr_6, qr_7, qr_f⟩ := cells8 (HB.out.box 7 rfl)
    have qr_l := HB.out.boxLt 7 rfl
    have nA_L := HB.out.boxNe 5 9 rfl rfl (by decide)
    have nB_L := HB.out.boxNe 4 9 rfl rfl (by decide)
    have nB_A := HB.out.boxNe 4 5 rfl rfl (by decide)
    have nr_L := HB.out.boxNe 7 9 rfl rfl (by decide)
    have nr_A := HB.out.boxNe 7 5 rfl rfl (by decide)
    have nr_B := HB.out.boxNe 7 4 rfl rfl (by decide)
    go_wp2_with fail
    generalize hU : ((((((((W9.setCell ⟨w.heap.size + 1 + 1 + 1 + 1, 0, none⟩ (.slice ao key.length cap)).setCell ⟨w.heap.size + 1 + 1 + 1 + 1, 1, none⟩ (.int .i64 side)).setCell ⟨w.heap.size + 1 + 1 + 1 + 1, 2, none⟩ (.int .i64 cur)).setCell ⟨w.heap.size + 1 + 1 + 1 + 1, 3, none⟩ (.int .i64 next)).setCell ⟨w.heap.size + 1 + 1 + 1 + 1, 4, none⟩ (.int .u64 send)).setCell ⟨w.heap.size + 1 + 1 + 1 + 1, 5, none⟩ (.int .u64 ceil)).setCell ⟨w.heap.size + 1 + 1 + 1 + 1, 6, none⟩ (.int .i64 sec)).setCell ⟨w.heap.size + 1 + 1 + 1 + 1, 7, none⟩ (.int .i64 nano)) = U10
    clear qL_0 qL_1 qL_2 qL_3 qL_4 qL_5 qL_6 qL_7 qL_f qL_l qA_0 qA_1 qA_2 qA_3 qA_4 qA_5 qA_6 qA_7 qA_f qA_l qB_0 qB_1 qB_2 qB_3 qB_4 qB_5 qB_6 qB_7 qB_f qB_l qr_0 qr_1 qr_2 qr_3 qr_4 qr_5 qr_6 qr_7 qr_f qr_l nA_L nB_L nB_A nr_L nr_A nr_B
    have h0 := HB.out.store 5 rfl [.slice ao key.length cap, .int .i64 side, .int .i64 cur, .int .i64 next, .int .u64 send, .int .u64 ceil, .int .i64 sec, .int .i64 nano] rfl
    rw [show Bag.setAll W9 (w.heap.size + 1 + 1 + 1 + 1) 0 [.slice ao key.length cap, .int .i64 side, .int .i64 cur, .int .i64 next, .int .u64 send, .int .u64 ceil, .int .i64 sec, .int .i64 nano] = U10 from hU] at h0
    simp only [List.set_cons_zero, List.set_cons_succ] at h0
    clear HB
    have HB := Lib.hid h0
    clear h0
    clear hU
    generalize hU : ((((((((U10.setCell ⟨w.heap.size + 1 + 1, 0, none⟩ (.slice ao key.length cap)).setCell ⟨w.heap.size + 1 + 1, 1, none⟩ (.int .i64 side)).setCell ⟨w.heap.size + 1 + 1, 2, none⟩ (.int .i64 cur)).setCell ⟨w.heap.size + 1 + 1, 3, none⟩ (.int .i64 next)).setCell ⟨w.heap.size + 1 + 1, 4, none⟩ (.int .u64 send)).setCell ⟨w.heap.size + 1 + 1, 5, none⟩ (.int .u64 ceil)).setCell ⟨w.heap.size + 1 + 1, 6, none⟩ (.int .i64 sec)).setCell ⟨w.heap.size + 1 + 1, 7, none⟩ (.int .i64 nano)) = U11
    have h0 := HB.out.store 7 rfl [.slice ao key.length cap, .int .i64 side, .int .i64 cur, .int .i64 next, .int .u64 send, .int .u64 ceil, .int .i64 sec, .int .i64 nano] rfl
    rw [show Bag.setAll U10 (w.heap.size + 1 + 1) 0 [.slice ao key.length cap, .int .i64 side, .int .i64 cur, .int .i64 next, .int .u64 send, .int .u64 ceil, .int .i64 sec, .int .i64 nano] = U11 from hU] at h0
    simp only [List.set_cons_zero, List.set_cons_succ] at h0
    clear HB
    have HB := Lib.hid h0
    clear h0
    clear hU
    obtain ⟨qr_0, qr_1, qr_2, qr_3, qr_4, qr_5, qr_6, qr_7, qr_f⟩ := cells8 (HB.out.box 7 rfl)
    have qr_l := HB.out.boxLt 7 rfl
    refine bodyPost_ret (v := .tuple #[.agg #[.slice ao key.length cap, .int .i64 side, .int .i64 cur, .int .i64 next, .int .u64 send, .int .u64 ceil, .int .i64 sec, .int .i64 nano], .bool true]) (by simp [results, Try.results36, go_sem, qr_0, qr_1, qr_2, qr_3, qr_4, qr_5, qr_6, qr_7]) rfl ?_
    exact stepR_mk HY.out rfl (hr.on HB.out.below) (fun _ h => Or.inl h.symm) HB.out.below
  · have HY := Lib.hid (HZ.out.symm.trans (if_neg hz))
    have hz1 : (c0 == 0) = false := by rw [beq_eq_false_iff_ne]; exact hz
    clear hz
    obtain ⟨qA_0, qA_1, qA_2, qA_3, qA_4, qA_5, qA_6, qA_7, qA_f⟩ := cells8 (HB.out.box 5 rfl)
    have qA_l := HB.out.boxLt 5 rfl
    obtain ⟨qB_0, qB_1, qB_2, qB_3, qB_4, qB_5, qB_6, qB_7, qB_f⟩ := cells8 (HB.out.box 4 rfl)
    have qB_l := HB.out.boxLt 4 rfl
    obtain ⟨qr_0, qr_1, qr_2, qr_3, qr_4, qr_5, qr_6, qr_7, qr_f⟩ := cells8 (HB.out.box 7 rfl)
    have qr_l := HB.out.boxLt 7 rfl
    have nB_A := HB.out.boxNe 4 5 rfl rfl (by decide)
    have nr_A := HB.out.boxNe 7 5 rfl rfl (by decide)
    have nr_B := HB.out.boxNe 7 4 rfl rfl (by decide)
    go_wp2_with fail
    generalize hU : ((((((((W9.setCell ⟨w.heap.size + 1 + 1, 0, none⟩ (.slice A0 k0.length cA0)).setCell ⟨w.heap.size + 1 + 1, 1, none⟩ (.int .i64 s0)).setCell ⟨w.heap.size + 1 + 1, 2, none⟩ (.int .i64 c0)).setCell ⟨w.heap.size + 1 + 1, 3, none⟩ (.int .i64 n0)).setCell ⟨w.heap.size + 1 + 1, 4, none⟩ (.int .u64 e0)).setCell ⟨w.heap.size + 1 + 1, 5, none⟩ (.int .u64 f0)).setCell ⟨w.heap.size + 1 + 1, 6, none⟩ (.int .i64 x0)).setCell ⟨w.heap.size + 1 + 1, 7, none⟩ (.int .i64 y0)) = U10
    clear qA_0 qA_1 qA_2 qA_3 qA_4 qA_5 qA_6 qA_7 qA_f qA_l qB_0 qB_1 qB_2 qB_3 qB_4 qB_5 qB_6 qB_7 qB_f qB_l qr_0 qr_1 qr_2 qr_3 qr_4 qr_5 qr_6 qr_7 qr_f qr_l nB_A nr_A nr_B
    have h0 := HB.out.store 7 rfl [.slice A0 k0.length cA0, .int .i64 s0, .int .i64 c0, .int .i64 n0, .int .u64 e0, .int .u64 f0, .int .i64 x0, .int .i64 y0] rfl
    rw [show Bag.setAll W9 (w.heap.size + 1 + 1) 0 [.slice A0 k0.length cA0, .int .i64 s0, .int .i64 c0, .int .i64 n0, .int .u64 e0, .int .u64 f0, .int .i64 x0, .int .i64 y0] = U10 from hU] at h0
    simp only [List.set_cons_zero, List.set_cons_succ] at h0
    clear HB
    have HB := Lib.hid h0
    clear h0
    clear hU
    obtain ⟨qr_0, qr_1, qr_2, qr_3, qr_4, qr_5, qr_6, qr_7, qr_f⟩ := cells8 (HB.out.box 7 rfl)
    have qr_l := HB.out.boxLt 7 rfl
    refine bodyPost_ret (v := .tuple #[.agg #[.slice A0 k0.length cA0, .int .i64 s0, .int .i64 c0, .int .i64 n0, .int .u64 e0, .int .u64 f0, .int .i64 x0, .int .i64 y0], .bool true]) (by simp [results, Try.results36, go_sem, qr_0, qr_1, qr_2, qr_3, qr_4, qr_5, qr_6, qr_7]) rfl ?_
    exact stepR_mk HY.out rfl ((HB.out.mineRd 3 rfl)) (fun a h => Or.inr (HB.out.mineFar 3 rfl a h)) HB.out.below
set_option maxRecDepth 100000 in
set_option maxHeartbeats 4000000 in
theorem lawStep_4 (L : Ln) (ao : Option Addr) (cap : Nat) (g b c at1 ss sn : Int) (w : World) (hf : L.fits) (hr : Rd w ao L.key) (hc0 : 0 ≤ c) (hc1 : c ≤ 18446744073709551615) (_ha0 : 0 ≤ at1) (_ha1 : at1 ≤ 18446744073709551615) (hss : ss ≤ 9223372036854775807) : Calls Try.prog 36 #[L.val ao cap, .agg #[.int .i64 4, .int .i64 g, .int .i64 b, .int .u64 c, .int .u64 at1, .int .i64 ss, .int .i64 sn]] w (StepR w ao (stepL L ⟨4, g, b, c, at1, ss, sn⟩) [.bool true]) := by
  obtain ⟨N, hN⟩ : ∃ N, answeredL L (Ask.sum ⟨4, g, b, c, at1, ss, sn⟩ L.cur) c ss sn b = N := ⟨_, rfl⟩
  have hst : stepL L ⟨4, g, b, c, at1, ss, sn⟩ = if N.cur = 0 then L else N := by rw [← hN]; rfl
  rw [hst]
  have hkn : N.key.length ≤ 281474976710656 := by rw [← hN]; exact keys_le (by have := hf.len; omega)
  obtain ⟨z, hz⟩ : ∃ z, (if N.cur = 0 then L else N) = z := ⟨_, rfl⟩
  rw [hz]
  obtain ⟨k0, s0, c0, n0, e0, f0, x0, y0⟩ := N
  simp only at hkn hz
  obtain ⟨aa, haa⟩ : ∃ x, atA L (Ask.sum ⟨4, g, b, c, at1, ss, sn⟩ L.cur) c ss sn b = x := ⟨_, rfl⟩
  have hux : Ask.sum ⟨4, g, b, c, at1, ss, sn⟩ L.cur = wrap64 (L.cur + g) := rfl
  have HF := Lib.hid hf
  clear hst
  obtain ⟨key, side, cur, next, send, ceil, sec, nano⟩ := L
  unfold Ln.val
  obtain ⟨hl, hcur0, hcur1, hnext0, hnext1, hsend0, hsend1, hceil0, hceil1, hs⟩ := hf
  simp only at hl hr hcur0 hcur1 hnext0 hnext1 hsend0 hsend1 hceil0 hceil1 hs hux ⊢
  obtain ⟨gx, hgx⟩ : ∃ x, Ask.sum ⟨4, g, b, c, at1, ss, sn⟩ cur = x := ⟨_, rfl⟩
  simp only [hgx] at hux hN haa
  have HX := Lib.hid hux
  clear hux hgx
  have HN := Lib.hid hN
  have HZ := Lib.hid hz
  have HA := Lib.hid haa
  clear hN hz haa
  go_enter Try.func36, Try.ntmps36
  go_wp2_with fail
  generalize hU : ((((((w.alloc (.cells #[.slice ao key.length cap, .int .i64 side, .int .i64 cur, .int .i64 next, .int .u64 send, .int .u64 ceil, .int .i64 sec, .int .i64 nano] 27 (0, 0))).alloc (.cells #[.int .i64 4, .int .i64 g, .int .i64 b, .int .u64 c, .int .u64 at1, .int .i64 ss, .int .i64 sn] 57 (0, 0))).alloc (.cells #[.slice none 0 0, .int .i64 0, .int .i64 0, .int .i64 0, .int .u64 0, .int .u64 0, .int .i64 0, .int .i64 0] 27 (0, 0))).alloc (.cells #[.int .i64 g, .int .i64 b, .int .u64 c, .int .u64 at1, .int .i64 ss, .int .i64 sn] 37 (0, 0))).alloc (.cells #[.slice none 0 0, .int .i64 0, .int .i64 0, .int .i64 0, .int .u64 0, .int .u64 0, .int .i64 0, .int .i64 0] 27 (0, 0))).alloc (.cells #[.slice none 0 0, .int .i64 0, .int .i64 0, .int .i64 0, .int .u64 0, .int .u64 0, .int .i64 0, .int .i64 0] 27 (0, 0))) = U1
  have h0 := ((((((Bag.start w).allocAt #[.slice ao key.length cap, .int .i64 side, .int .i64 cur, .int .i64 next, .int .u64 send, .int .u64 ceil, .int .i64 sec, .int .i64 nano] 27 (w.heap.size) rfl).allocAt #[.int .i64 4, .int .i64 g, .int .i64 b, .int .u64 c, .int .u64 at1, .int .i64 ss, .int .i64 sn] 57 (w.heap.size + 1) (by simp only [alloc_size])).allocAt #[.slice none 0 0, .int .i64 0, .int .i64 0, .int .i64 0, .int .u64 0, .int .u64 0, .int .i64 0, .int .i64 0] 27 (w.heap.size + 1 + 1) (by simp only [alloc_size])).allocAt #[.int .i64 g, .int .i64 b, .int .u64 c, .int .u64 at1, .int .i64 ss, .int .i64 sn] 37 (w.heap.size + 1 + 1 + 1) (by simp only [alloc_size])).allocAt #[.slice none 0 0, .int .i64 0, .int .i64 0, .int .i64 0, .int .u64 0, .int .u64 0, .int .i64 0, .int .i64 0] 27 (w.heap.size + 1 + 1 + 1 + 1) (by simp only [alloc_size])).allocAt #[.slice none 0 0, .int .i64 0, .int .i64 0, .int .i64 0, .int .u64 0, .int .u64 0, .int .i64 0, .int .i64 0] 27 (w.heap.size + 1 + 1 + 1 + 1 + 1) (by simp only [alloc_size])
  rw [hU] at h0
  have HB := Lib.hid h0
  clear h0 hU
  rw [← HX.out]
  refine (laneAnswered ⟨key, side, cur, next, send, ceil, sec, nano⟩ ao cap gx c ss sn b hc0 hc1 hss _ HF.out (hr.on HB.out.below)).mono ?_
  rintro e W2 ⟨A0, cA0, he, Mx, hb⟩
  rw [HN.out] at he Mx
  rw [HA.out] at he
  obtain rfl : e = .returned (.tuple #[(.agg #[.slice A0 k0.length cA0, .int .i64 s0, .int .i64 c0, .int .i64 n0, .int .u64 e0, .int .u64 f0, .int .i64 x0, .int .i64 y0]), .int .u64 aa]) := he
  have h0 := HB.out.mine hb Mx
  clear HB
  have HB := Lib.hid h0
  clear h0
  clear Mx
  clear hb
  obtain ⟨qL_0, qL_1, qL_2, qL_3, qL_4, qL_5, qL_6, qL_7, qL_f⟩ := cells8 (HB.out.box 6 rfl)
  have qL_l := HB.out.boxLt 6 rfl
  obtain ⟨qN_0, qN_1, qN_2, qN_3, qN_4, qN_5, qN_f⟩ := cells6 (HB.out.box 3 rfl)
  have qN_l := HB.out.boxLt 3 rfl
  have nN_L := HB.out.boxNe 3 6 rfl rfl (by decide)
  go_wp2_with fail
  generalize hU : W2.alloc (.cells #[.slice A0 k0.length cA0, .int .i64 s0, .int .i64 c0, .int .i64 n0, .int .u64 e0, .int .u64 f0, .int .i64 x0, .int .i64 y0] 27 (0, 0)) = U3
  clear qL_0 qL_1 qL_2 qL_3 qL_4 qL_5 qL_6 qL_7 qL_f qL_l qN_0 qN_1 qN_2 qN_3 qN_4 qN_5 qN_f qN_l nN_L
  have h0 := HB.out.alloc #[.slice A0 k0.length cA0, .int .i64 s0, .int .i64 c0, .int .i64 n0, .int .u64 e0, .int .u64 f0, .int .i64 x0, .int .i64 y0] 27
  rw [hU] at h0
  clear HB
  have HB := Lib.hid h0
  clear h0
  clear hU
  rw [← HX.out]
  refine (refAnswered ⟨key, side, cur, next, send, ceil, sec, nano⟩ ao cap gx c ss sn b hc0 hc1 _ HF.out (hr.on HB.out.below)).mono ?_
  rintro e W4 ⟨B0, cB0, he, Mx, hb⟩
  rw [HN.out] at he Mx
  rw [HA.out] at he
  obtain rfl : e = .returned (.tuple #[(.agg #[.slice B0 k0.length cB0, .int .i64 s0, .int .i64 c0, .int .i64 n0, .int .u64 e0, .int .u64 f0, .int .i64 x0, .int .i64 y0]), .int .u64 aa]) := he
  have h0 := HB.out.mine hb Mx
  clear HB
  have HB := Lib.hid h0
  clear h0
  clear Mx
  clear hb
  go_wp2_with fail
  generalize hU : W4.alloc (.cells #[.slice B0 k0.length cB0, .int .i64 s0, .int .i64 c0, .int .i64 n0, .int .u64 e0, .int .u64 f0, .int .i64 x0, .int .i64 y0] 27 (0, 0)) = U5
  have h0 := HB.out.alloc #[.slice B0 k0.length cB0, .int .i64 s0, .int .i64 c0, .int .i64 n0, .int .u64 e0, .int .u64 f0, .int .i64 x0, .int .i64 y0] 27
  rw [hU] at h0
  clear HB
  have HB := Lib.hid h0
  clear h0
  clear hU
  obtain ⟨qa_0, qa_1, qa_2, qa_3, qa_4, qa_5, qa_6, qa_7, qa_f⟩ := cells8 (HB.out.box 2 rfl)
  have qa_l := HB.out.boxLt 2 rfl
  obtain ⟨qb_0, qb_1, qb_2, qb_3, qb_4, qb_5, qb_6, qb_7, qb_f⟩ := cells8 (HB.out.box 0 rfl)
  have qb_l := HB.out.boxLt 0 rfl
  obtain ⟨qA_0, qA_1, qA_2, qA_3, qA_4, qA_5, qA_6, qA_7, qA_f⟩ := cells8 (HB.out.box 5 rfl)
  have qA_l := HB.out.boxLt 5 rfl
  obtain ⟨qB_0, qB_1, qB_2, qB_3, qB_4, qB_5, qB_6, qB_7, qB_f⟩ := cells8 (HB.out.box 4 rfl)
  have qB_l := HB.out.boxLt 4 rfl
  have nb_a := HB.out.boxNe 0 2 rfl rfl (by decide)
  have nA_a := HB.out.boxNe 5 2 rfl rfl (by decide)
  have nA_b := HB.out.boxNe 5 0 rfl rfl (by decide)
  have nB_a := HB.out.boxNe 4 2 rfl rfl (by decide)
  have nB_b := HB.out.boxNe 4 0 rfl rfl (by decide)
  have nB_A := HB.out.boxNe 4 5 rfl rfl (by decide)
  go_region
  generalize hU : ((((((((U5.setCell ⟨w.heap.size + 1 + 1 + 1 + 1, 0, none⟩ (.slice A0 k0.length cA0)).setCell ⟨w.heap.size + 1 + 1 + 1 + 1, 1, none⟩ (.int .i64 s0)).setCell ⟨w.heap.size + 1 + 1 + 1 + 1, 2, none⟩ (.int .i64 c0)).setCell ⟨w.heap.size + 1 + 1 + 1 + 1, 3, none⟩ (.int .i64 n0)).setCell ⟨w.heap.size + 1 + 1 + 1 + 1, 4, none⟩ (.int .u64 e0)).setCell ⟨w.heap.size + 1 + 1 + 1 + 1, 5, none⟩ (.int .u64 f0)).setCell ⟨w.heap.size + 1 + 1 + 1 + 1, 6, none⟩ (.int .i64 x0)).setCell ⟨w.heap.size + 1 + 1 + 1 + 1, 7, none⟩ (.int .i64 y0)) = U6
  clear qa_0 qa_1 qa_2 qa_3 qa_4 qa_5 qa_6 qa_7 qa_f qa_l qb_0 qb_1 qb_2 qb_3 qb_4 qb_5 qb_6 qb_7 qb_f qb_l qA_0 qA_1 qA_2 qA_3 qA_4 qA_5 qA_6 qA_7 qA_f qA_l qB_0 qB_1 qB_2 qB_3 qB_4 qB_5 qB_6 qB_7 qB_f qB_l nb_a nA_a nA_b nB_a nB_b nB_A
  have h0 := HB.out.store 5 rfl [.slice A0 k0.length cA0, .int .i64 s0, .int .i64 c0, .int .i64 n0, .int .u64 e0, .int .u64 f0, .int .i64 x0, .int .i64 y0] rfl
  rw [show Bag.setAll U5 (w.heap.size + 1 + 1 + 1 + 1) 0 [.slice A0 k0.length cA0, .int .i64 s0, .int .i64 c0, .int .i64 n0, .int .u64 e0, .int .u64 f0, .int .i64 x0, .int .i64 y0] = U6 from hU] at h0
  simp only [List.set_cons_zero, List.set_cons_succ] at h0
  clear HB
  have HB := Lib.hid h0
  clear h0
  clear hU
  generalize hU : ((((((((U6.setCell ⟨w.heap.size + 1 + 1 + 1 + 1 + 1, 0, none⟩ (.slice B0 k0.length cB0)).setCell ⟨w.heap.size + 1 + 1 + 1 + 1 + 1, 1, none⟩ (.int .i64 s0)).setCell ⟨w.heap.size + 1 + 1 + 1 + 1 + 1, 2, none⟩ (.int .i64 c0)).setCell ⟨w.heap.size + 1 + 1 + 1 + 1 + 1, 3, none⟩ (.int .i64 n0)).setCell ⟨w.heap.size + 1 + 1 + 1 + 1 + 1, 4, none⟩ (.int .u64 e0)).setCell ⟨w.heap.size + 1 + 1 + 1 + 1 + 1, 5, none⟩ (.int .u64 f0)).setCell ⟨w.heap.size + 1 + 1 + 1 + 1 + 1, 6, none⟩ (.int .i64 x0)).setCell ⟨w.heap.size + 1 + 1 + 1 + 1 + 1, 7, none⟩ (.int .i64 y0)) = U7
  have h0 := HB.out.store 4 rfl [.slice B0 k0.length cB0, .int .i64 s0, .int .i64 c0, .int .i64 n0, .int .u64 e0, .int .u64 f0, .int .i64 x0, .int .i64 y0] rfl
  rw [show Bag.setAll U6 (w.heap.size + 1 + 1 + 1 + 1 + 1) 0 [.slice B0 k0.length cB0, .int .i64 s0, .int .i64 c0, .int .i64 n0, .int .u64 e0, .int .u64 f0, .int .i64 x0, .int .i64 y0] = U7 from hU] at h0
  simp only [List.set_cons_zero, List.set_cons_succ] at h0
  clear HB
  have HB := Lib.hid h0
  clear h0
  clear hU
  generalize hU : U7.drew = U8
  have h0 := HB.out.drew
  rw [hU] at h0
  clear HB
  have HB := Lib.hid h0
  clear h0
  clear hU
  obtain ⟨qA_0, qA_1, qA_2, qA_3, qA_4, qA_5, qA_6, qA_7, qA_f⟩ := cells8 (HB.out.box 5 rfl)
  have qA_l := HB.out.boxLt 5 rfl
  obtain ⟨qB_0, qB_1, qB_2, qB_3, qB_4, qB_5, qB_6, qB_7, qB_f⟩ := cells8 (HB.out.box 4 rfl)
  have qB_l := HB.out.boxLt 4 rfl
  have nB_A := HB.out.boxNe 4 5 rfl rfl (by decide)
  have i1 : (aa == aa) = true := by simp
  go_wp2_with fail
  clear qA_0 qA_1 qA_2 qA_3 qA_4 qA_5 qA_6 qA_7 qA_f qA_l qB_0 qB_1 qB_2 qB_3 qB_4 qB_5 qB_6 qB_7 qB_f qB_l nB_A
  refine (sameLane ⟨k0, s0, c0, n0, e0, f0, x0, y0⟩ ⟨k0, s0, c0, n0, e0, f0, x0, y0⟩ A0 B0 cA0 cB0 _ hkn hkn (HB.out.mineRd 3 rfl) (HB.out.mineRd 1 rfl)).mono ?_
  rintro e W9 ⟨he, hb⟩
  rw [sameL_refl] at he
  subst he
  have h0 := HB.out.call hb
  clear HB
  have HB := Lib.hid h0
  clear h0
  clear hb
  by_cases hz : c0 = 0
  · have HY := Lib.hid (HZ.out.symm.trans (if_pos hz))
    have hz1 : (c0 == 0) = true := by rw [beq_iff_eq]; exact hz
    clear hz
    obtain ⟨qL_0, qL_1, qL_2, qL_3, qL_4, qL_5, qL_6, qL_7, qL_f⟩ := cells8 (HB.out.box 9 rfl)
    have qL_l := HB.out.boxLt 9 rfl
    obtain ⟨qA_0, qA_1, qA_2, qA_3, qA_4, qA_5, qA_6, qA_7, qA_f⟩ := cells8 (HB.out.box 5 rfl)
    have qA_l := HB.out.boxLt 5 rfl
    obtain ⟨qB_0, qB_1, qB_2, qB_3, qB_4, qB_5, qB_6, qB_7, qB_f⟩ := cells8 (HB.out.box 4 rfl)
    have qB_l := HB.out.boxLt 4 rfl
    obtain ⟨qr_0, qr_1, qr_2, qr_3, qr_4, qr_5, qr_6, qr_7, qr_f⟩ := cells8 (HB.out.box 7 rfl)
    have qr_l := HB.out.boxLt 7 rfl
    have nA_L := HB.out.boxNe 5 9 rfl rfl (by decide)
    have nB_L := HB.out.boxNe 4 9 rfl rfl (by decide)
    have nB_A := HB.out.boxNe 4 5 rfl rfl (by decide)
    have nr_L := HB.out.boxNe 7 9 rfl rfl (by decide)
    have nr_A := HB.out.boxNe 7 5 rfl rfl (by decide)
    have nr_B := HB.out.boxNe 7 4 rfl rfl (by decide)
    go_wp2_with fail
    generalize hU : ((((((((W9.setCell ⟨w.heap.size + 1 + 1 + 1 + 1, 0, none⟩ (.slice ao key.length cap)).setCell ⟨w.heap.size + 1 + 1 + 1 + 1, 1, none⟩ (.int .i64 side)).setCell ⟨w.heap.size + 1 + 1 + 1 + 1, 2, none⟩ (.int .i64 cur)).setCell ⟨w.heap.size + 1 + 1 + 1 + 1, 3, none⟩ (.int .i64 next)).setCell ⟨w.heap.size + 1 + 1 + 1 + 1, 4, none⟩ (.int .u64 send)).setCell ⟨w.heap.size + 1 + 1 + 1 + 1, 5, none⟩ (.int .u64 ceil)).setCell ⟨w.heap.size + 1 + 1 + 1 + 1, 6, none⟩ (.int .i64 sec)).setCell ⟨w.heap.size + 1 + 1 + 1 + 1, 7, none⟩ (.int .i64 nano)) = U10
    clear qL_0 qL_1 qL_2 qL_3 qL_4 qL_5 qL_6 qL_7 qL_f qL_l qA_0 qA_1 qA_2 qA_3 qA_4 qA_5 qA_6 qA_7 qA_f qA_l qB_0 qB_1 qB_2 qB_3 qB_4 qB_5 qB_6 qB_7 qB_f qB_l qr_0 qr_1 qr_2 qr_3 qr_4 qr_5 qr_6 qr_7 qr_f qr_l nA_L nB_L nB_A nr_L nr_A nr_B
    have h0 := HB.out.store 5 rfl [.slice ao key.length cap, .int .i64 side, .int .i64 cur, .int .i64 next, .int .u64 send, .int .u64 ceil, .int .i64 sec, .int .i64 nano] rfl
    rw [show Bag.setAll W9 (w.heap.size + 1 + 1 + 1 + 1) 0 [.slice ao key.length cap, .int .i64 side, .int .i64 cur, .int .i64 next, .int .u64 send, .int .u64 ceil, .int .i64 sec, .int .i64 nano] = U10 from hU] at h0
    simp only [List.set_cons_zero, List.set_cons_succ] at h0
    clear HB
    have HB := Lib.hid h0
    clear h0
    clear hU
    generalize hU : ((((((((U10.setCell ⟨w.heap.size + 1 + 1, 0, none⟩ (.slice ao key.length cap)).setCell ⟨w.heap.size + 1 + 1, 1, none⟩ (.int .i64 side)).setCell ⟨w.heap.size + 1 + 1, 2, none⟩ (.int .i64 cur)).setCell ⟨w.heap.size + 1 + 1, 3, none⟩ (.int .i64 next)).setCell ⟨w.heap.size + 1 + 1, 4, none⟩ (.int .u64 send)).setCell ⟨w.heap.size + 1 + 1, 5, none⟩ (.int .u64 ceil)).setCell ⟨w.heap.size + 1 + 1, 6, none⟩ (.int .i64 sec)).setCell ⟨w.heap.size + 1 + 1, 7, none⟩ (.int .i64 nano)) = U11
    have h0 := HB.out.store 7 rfl [.slice ao key.length cap, .int .i64 side, .int .i64 cur, .int .i64 next, .int .u64 send, .int .u64 ceil, .int .i64 sec, .int .i64 nano] rfl
    rw [show Bag.setAll U10 (w.heap.size + 1 + 1) 0 [.slice ao key.length cap, .int .i64 side, .int .i64 cur, .int .i64 next, .int .u64 send, .int .u64 ceil, .int .i64 sec, .int .i64 nano] = U11 from hU] at h0
    simp only [List.set_cons_zero, List.set_cons_succ] at h0
    clear HB
    have HB := Lib.hid h0
    clear h0
    clear hU
    obtain ⟨qr_0, qr_1, qr_2, qr_3, qr_4, qr_5, qr_6, qr_7, qr_f⟩ := cells8 (HB.out.box 7 rfl)
    have qr_l := HB.out.boxLt 7 rfl
    refine bodyPost_ret (v := .tuple #[.agg #[.slice ao key.length cap, .int .i64 side, .int .i64 cur, .int .i64 next, .int .u64 send, .int .u64 ceil, .int .i64 sec, .int .i64 nano], .bool true]) (by simp [results, Try.results36, go_sem, qr_0, qr_1, qr_2, qr_3, qr_4, qr_5, qr_6, qr_7]) rfl ?_
    exact stepR_mk HY.out rfl (hr.on HB.out.below) (fun _ h => Or.inl h.symm) HB.out.below
  · have HY := Lib.hid (HZ.out.symm.trans (if_neg hz))
    have hz1 : (c0 == 0) = false := by rw [beq_eq_false_iff_ne]; exact hz
    clear hz
    obtain ⟨qA_0, qA_1, qA_2, qA_3, qA_4, qA_5, qA_6, qA_7, qA_f⟩ := cells8 (HB.out.box 5 rfl)
    have qA_l := HB.out.boxLt 5 rfl
    obtain ⟨qB_0, qB_1, qB_2, qB_3, qB_4, qB_5, qB_6, qB_7, qB_f⟩ := cells8 (HB.out.box 4 rfl)
    have qB_l := HB.out.boxLt 4 rfl
    obtain ⟨qr_0, qr_1, qr_2, qr_3, qr_4, qr_5, qr_6, qr_7, qr_f⟩ := cells8 (HB.out.box 7 rfl)
    have qr_l := HB.out.boxLt 7 rfl
    have nB_A := HB.out.boxNe 4 5 rfl rfl (by decide)
    have nr_A := HB.out.boxNe 7 5 rfl rfl (by decide)
    have nr_B := HB.out.boxNe 7 4 rfl rfl (by decide)
    go_wp2_with fail
    generalize hU : ((((((((W9.setCell ⟨w.heap.size + 1 + 1, 0, none⟩ (.slice A0 k0.length cA0)).setCell ⟨w.heap.size + 1 + 1, 1, none⟩ (.int .i64 s0)).setCell ⟨w.heap.size + 1 + 1, 2, none⟩ (.int .i64 c0)).setCell ⟨w.heap.size + 1 + 1, 3, none⟩ (.int .i64 n0)).setCell ⟨w.heap.size + 1 + 1, 4, none⟩ (.int .u64 e0)).setCell ⟨w.heap.size + 1 + 1, 5, none⟩ (.int .u64 f0)).setCell ⟨w.heap.size + 1 + 1, 6, none⟩ (.int .i64 x0)).setCell ⟨w.heap.size + 1 + 1, 7, none⟩ (.int .i64 y0)) = U10
    clear qA_0 qA_1 qA_2 qA_3 qA_4 qA_5 qA_6 qA_7 qA_f qA_l qB_0 qB_1 qB_2 qB_3 qB_4 qB_5 qB_6 qB_7 qB_f qB_l qr_0 qr_1 qr_2 qr_3 qr_4 qr_5 qr_6 qr_7 qr_f qr_l nB_A nr_A nr_B
    have h0 := HB.out.store 7 rfl [.slice A0 k0.length cA0, .int .i64 s0, .int .i64 c0, .int .i64 n0, .int .u64 e0, .int .u64 f0, .int .i64 x0, .int .i64 y0] rfl
    rw [show Bag.setAll W9 (w.heap.size + 1 + 1) 0 [.slice A0 k0.length cA0, .int .i64 s0, .int .i64 c0, .int .i64 n0, .int .u64 e0, .int .u64 f0, .int .i64 x0, .int .i64 y0] = U10 from hU] at h0
    simp only [List.set_cons_zero, List.set_cons_succ] at h0
    clear HB
    have HB := Lib.hid h0
    clear h0
    clear hU
    obtain ⟨qr_0, qr_1, qr_2, qr_3, qr_4, qr_5, qr_6, qr_7, qr_f⟩ := cells8 (HB.out.box 7 rfl)
    have qr_l := HB.out.boxLt 7 rfl
    refine bodyPost_ret (v := .tuple #[.agg #[.slice A0 k0.length cA0, .int .i64 s0, .int .i64 c0, .int .i64 n0, .int .u64 e0, .int .u64 f0, .int .i64 x0, .int .i64 y0], .bool true]) (by simp [results, Try.results36, go_sem, qr_0, qr_1, qr_2, qr_3, qr_4, qr_5, qr_6, qr_7]) rfl ?_
    exact stepR_mk HY.out rfl ((HB.out.mineRd 3 rfl)) (fun a h => Or.inr (HB.out.mineFar 3 rfl a h)) HB.out.below
set_option maxRecDepth 100000 in
set_option maxHeartbeats 4000000 in
theorem lawStep_5 (L : Ln) (ao : Option Addr) (cap : Nat) (g b c at1 ss sn : Int) (w : World) (hf : L.fits) (hr : Rd w ao L.key) (hc0 : 0 ≤ c) (hc1 : c ≤ 18446744073709551615) (_ha0 : 0 ≤ at1) (_ha1 : at1 ≤ 18446744073709551615) (_hss : ss ≤ 9223372036854775807) : Calls Try.prog 36 #[L.val ao cap, .agg #[.int .i64 5, .int .i64 g, .int .i64 b, .int .u64 c, .int .u64 at1, .int .i64 ss, .int .i64 sn]] w (StepR w ao (stepL L ⟨5, g, b, c, at1, ss, sn⟩) [.bool true]) := by
  obtain ⟨N, hN⟩ : ∃ N, openedL L (Ask.sum ⟨5, g, b, c, at1, ss, sn⟩ L.cur) c b = N := ⟨_, rfl⟩
  have hst : stepL L ⟨5, g, b, c, at1, ss, sn⟩ = if N.cur = 0 then L else N := by rw [← hN]; rfl
  rw [hst]
  have hkn : N.key.length ≤ 281474976710656 := by rw [← hN]; exact keys_le (by have := hf.len; omega)
  obtain ⟨z, hz⟩ : ∃ z, (if N.cur = 0 then L else N) = z := ⟨_, rfl⟩
  rw [hz]
  obtain ⟨k0, s0, c0, n0, e0, f0, x0, y0⟩ := N
  simp only at hkn hz
  have hux : Ask.sum ⟨5, g, b, c, at1, ss, sn⟩ L.cur = wrap64 (L.cur + g) := rfl
  have HF := Lib.hid hf
  clear hst
  obtain ⟨key, side, cur, next, send, ceil, sec, nano⟩ := L
  unfold Ln.val
  obtain ⟨hl, hcur0, hcur1, hnext0, hnext1, hsend0, hsend1, hceil0, hceil1, hs⟩ := hf
  simp only at hl hr hcur0 hcur1 hnext0 hnext1 hsend0 hsend1 hceil0 hceil1 hs hux ⊢
  obtain ⟨gx, hgx⟩ : ∃ x, Ask.sum ⟨5, g, b, c, at1, ss, sn⟩ cur = x := ⟨_, rfl⟩
  simp only [hgx] at hux hN
  have HX := Lib.hid hux
  clear hux hgx
  have HN := Lib.hid hN
  have HZ := Lib.hid hz
  clear hN hz
  go_enter Try.func36, Try.ntmps36
  go_wp2_with fail
  generalize hU : ((((((w.alloc (.cells #[.slice ao key.length cap, .int .i64 side, .int .i64 cur, .int .i64 next, .int .u64 send, .int .u64 ceil, .int .i64 sec, .int .i64 nano] 27 (0, 0))).alloc (.cells #[.int .i64 5, .int .i64 g, .int .i64 b, .int .u64 c, .int .u64 at1, .int .i64 ss, .int .i64 sn] 57 (0, 0))).alloc (.cells #[.slice none 0 0, .int .i64 0, .int .i64 0, .int .i64 0, .int .u64 0, .int .u64 0, .int .i64 0, .int .i64 0] 27 (0, 0))).alloc (.cells #[.int .i64 g, .int .i64 b, .int .u64 c, .int .u64 at1, .int .i64 ss, .int .i64 sn] 37 (0, 0))).alloc (.cells #[.slice none 0 0, .int .i64 0, .int .i64 0, .int .i64 0, .int .u64 0, .int .u64 0, .int .i64 0, .int .i64 0] 27 (0, 0))).alloc (.cells #[.slice none 0 0, .int .i64 0, .int .i64 0, .int .i64 0, .int .u64 0, .int .u64 0, .int .i64 0, .int .i64 0] 27 (0, 0))) = U1
  have h0 := ((((((Bag.start w).allocAt #[.slice ao key.length cap, .int .i64 side, .int .i64 cur, .int .i64 next, .int .u64 send, .int .u64 ceil, .int .i64 sec, .int .i64 nano] 27 (w.heap.size) rfl).allocAt #[.int .i64 5, .int .i64 g, .int .i64 b, .int .u64 c, .int .u64 at1, .int .i64 ss, .int .i64 sn] 57 (w.heap.size + 1) (by simp only [alloc_size])).allocAt #[.slice none 0 0, .int .i64 0, .int .i64 0, .int .i64 0, .int .u64 0, .int .u64 0, .int .i64 0, .int .i64 0] 27 (w.heap.size + 1 + 1) (by simp only [alloc_size])).allocAt #[.int .i64 g, .int .i64 b, .int .u64 c, .int .u64 at1, .int .i64 ss, .int .i64 sn] 37 (w.heap.size + 1 + 1 + 1) (by simp only [alloc_size])).allocAt #[.slice none 0 0, .int .i64 0, .int .i64 0, .int .i64 0, .int .u64 0, .int .u64 0, .int .i64 0, .int .i64 0] 27 (w.heap.size + 1 + 1 + 1 + 1) (by simp only [alloc_size])).allocAt #[.slice none 0 0, .int .i64 0, .int .i64 0, .int .i64 0, .int .u64 0, .int .u64 0, .int .i64 0, .int .i64 0] 27 (w.heap.size + 1 + 1 + 1 + 1 + 1) (by simp only [alloc_size])
  rw [hU] at h0
  have HB := Lib.hid h0
  clear h0 hU
  rw [← HX.out]
  refine (laneOpened ⟨key, side, cur, next, send, ceil, sec, nano⟩ ao cap gx c b hc0 hc1 _ HF.out (hr.on HB.out.below)).mono ?_
  rintro e W2 ⟨A0, cA0, he, Mx, hb⟩
  rw [HN.out] at he Mx
  obtain rfl : e = .returned ((.agg #[.slice A0 k0.length cA0, .int .i64 s0, .int .i64 c0, .int .i64 n0, .int .u64 e0, .int .u64 f0, .int .i64 x0, .int .i64 y0])) := he
  have h0 := HB.out.mine hb Mx
  clear HB
  have HB := Lib.hid h0
  clear h0
  clear Mx
  clear hb
  obtain ⟨qL_0, qL_1, qL_2, qL_3, qL_4, qL_5, qL_6, qL_7, qL_f⟩ := cells8 (HB.out.box 6 rfl)
  have qL_l := HB.out.boxLt 6 rfl
  obtain ⟨qN_0, qN_1, qN_2, qN_3, qN_4, qN_5, qN_f⟩ := cells6 (HB.out.box 3 rfl)
  have qN_l := HB.out.boxLt 3 rfl
  obtain ⟨qA_0, qA_1, qA_2, qA_3, qA_4, qA_5, qA_6, qA_7, qA_f⟩ := cells8 (HB.out.box 2 rfl)
  have qA_l := HB.out.boxLt 2 rfl
  have nN_L := HB.out.boxNe 3 6 rfl rfl (by decide)
  have nA_L := HB.out.boxNe 2 6 rfl rfl (by decide)
  have nA_N := HB.out.boxNe 2 3 rfl rfl (by decide)
  go_wp2_with fail
  generalize hU : ((((((((W2.setCell ⟨w.heap.size + 1 + 1 + 1 + 1, 0, none⟩ (.slice A0 k0.length cA0)).setCell ⟨w.heap.size + 1 + 1 + 1 + 1, 1, none⟩ (.int .i64 s0)).setCell ⟨w.heap.size + 1 + 1 + 1 + 1, 2, none⟩ (.int .i64 c0)).setCell ⟨w.heap.size + 1 + 1 + 1 + 1, 3, none⟩ (.int .i64 n0)).setCell ⟨w.heap.size + 1 + 1 + 1 + 1, 4, none⟩ (.int .u64 e0)).setCell ⟨w.heap.size + 1 + 1 + 1 + 1, 5, none⟩ (.int .u64 f0)).setCell ⟨w.heap.size + 1 + 1 + 1 + 1, 6, none⟩ (.int .i64 x0)).setCell ⟨w.heap.size + 1 + 1 + 1 + 1, 7, none⟩ (.int .i64 y0)) = U3
  clear qL_0 qL_1 qL_2 qL_3 qL_4 qL_5 qL_6 qL_7 qL_f qL_l qN_0 qN_1 qN_2 qN_3 qN_4 qN_5 qN_f qN_l qA_0 qA_1 qA_2 qA_3 qA_4 qA_5 qA_6 qA_7 qA_f qA_l nN_L nA_L nA_N
  have h0 := HB.out.store 2 rfl [.slice A0 k0.length cA0, .int .i64 s0, .int .i64 c0, .int .i64 n0, .int .u64 e0, .int .u64 f0, .int .i64 x0, .int .i64 y0] rfl
  rw [show Bag.setAll W2 (w.heap.size + 1 + 1 + 1 + 1) 0 [.slice A0 k0.length cA0, .int .i64 s0, .int .i64 c0, .int .i64 n0, .int .u64 e0, .int .u64 f0, .int .i64 x0, .int .i64 y0] = U3 from hU] at h0
  simp only [List.set_cons_zero, List.set_cons_succ] at h0
  clear HB
  have HB := Lib.hid h0
  clear h0
  clear hU
  rw [← HX.out]
  refine (refOpened ⟨key, side, cur, next, send, ceil, sec, nano⟩ ao cap gx c b hc0 hc1 _ HF.out (hr.on HB.out.below)).mono ?_
  rintro e W4 ⟨B0, cB0, he, Mx, hb⟩
  rw [HN.out] at he Mx
  obtain rfl : e = .returned ((.agg #[.slice B0 k0.length cB0, .int .i64 s0, .int .i64 c0, .int .i64 n0, .int .u64 e0, .int .u64 f0, .int .i64 x0, .int .i64 y0])) := he
  have h0 := HB.out.mine hb Mx
  clear HB
  have HB := Lib.hid h0
  clear h0
  clear Mx
  clear hb
  obtain ⟨qA_0, qA_1, qA_2, qA_3, qA_4, qA_5, qA_6, qA_7, qA_f⟩ := cells8 (HB.out.box 3 rfl)
  have qA_l := HB.out.boxLt 3 rfl
  obtain ⟨qB_0, qB_1, qB_2, qB_3, qB_4, qB_5, qB_6, qB_7, qB_f⟩ := cells8 (HB.out.box 2 rfl)
  have qB_l := HB.out.boxLt 2 rfl
  have nB_A := HB.out.boxNe 2 3 rfl rfl (by decide)
  go_wp2_with fail
  generalize hU : ((((((((W4.setCell ⟨w.heap.size + 1 + 1 + 1 + 1 + 1, 0, none⟩ (.slice B0 k0.length cB0)).setCell ⟨w.heap.size + 1 + 1 + 1 + 1 + 1, 1, none⟩ (.int .i64 s0)).setCell ⟨w.heap.size + 1 + 1 + 1 + 1 + 1, 2, none⟩ (.int .i64 c0)).setCell ⟨w.heap.size + 1 + 1 + 1 + 1 + 1, 3, none⟩ (.int .i64 n0)).setCell ⟨w.heap.size + 1 + 1 + 1 + 1 + 1, 4, none⟩ (.int .u64 e0)).setCell ⟨w.heap.size + 1 + 1 + 1 + 1 + 1, 5, none⟩ (.int .u64 f0)).setCell ⟨w.heap.size + 1 + 1 + 1 + 1 + 1, 6, none⟩ (.int .i64 x0)).setCell ⟨w.heap.size + 1 + 1 + 1 + 1 + 1, 7, none⟩ (.int .i64 y0)) = U5
  clear qA_0 qA_1 qA_2 qA_3 qA_4 qA_5 qA_6 qA_7 qA_f qA_l qB_0 qB_1 qB_2 qB_3 qB_4 qB_5 qB_6 qB_7 qB_f qB_l nB_A
  have h0 := HB.out.store 2 rfl [.slice B0 k0.length cB0, .int .i64 s0, .int .i64 c0, .int .i64 n0, .int .u64 e0, .int .u64 f0, .int .i64 x0, .int .i64 y0] rfl
  rw [show Bag.setAll W4 (w.heap.size + 1 + 1 + 1 + 1 + 1) 0 [.slice B0 k0.length cB0, .int .i64 s0, .int .i64 c0, .int .i64 n0, .int .u64 e0, .int .u64 f0, .int .i64 x0, .int .i64 y0] = U5 from hU] at h0
  simp only [List.set_cons_zero, List.set_cons_succ] at h0
  clear HB
  have HB := Lib.hid h0
  clear h0
  clear hU
  refine (sameLane ⟨k0, s0, c0, n0, e0, f0, x0, y0⟩ ⟨k0, s0, c0, n0, e0, f0, x0, y0⟩ A0 B0 cA0 cB0 _ hkn hkn (HB.out.mineRd 1 rfl) (HB.out.mineRd 0 rfl)).mono ?_
  rintro e W6 ⟨he, hb⟩
  rw [sameL_refl] at he
  subst he
  have h0 := HB.out.call hb
  clear HB
  have HB := Lib.hid h0
  clear h0
  clear hb
  by_cases hz : c0 = 0
  · have HY := Lib.hid (HZ.out.symm.trans (if_pos hz))
    have hz1 : (c0 == 0) = true := by rw [beq_iff_eq]; exact hz
    clear hz
    obtain ⟨qL_0, qL_1, qL_2, qL_3, qL_4, qL_5, qL_6, qL_7, qL_f⟩ := cells8 (HB.out.box 7 rfl)
    have qL_l := HB.out.boxLt 7 rfl
    obtain ⟨qA_0, qA_1, qA_2, qA_3, qA_4, qA_5, qA_6, qA_7, qA_f⟩ := cells8 (HB.out.box 3 rfl)
    have qA_l := HB.out.boxLt 3 rfl
    obtain ⟨qB_0, qB_1, qB_2, qB_3, qB_4, qB_5, qB_6, qB_7, qB_f⟩ := cells8 (HB.out.box 2 rfl)
    have qB_l := HB.out.boxLt 2 rfl
    obtain ⟨qr_0, qr_1, qr_2, qr_3, qr_4, qr_5, qr_6, qr_7, qr_f⟩ := cells8 (HB.out.box 5 rfl)
    have qr_l := HB.out.boxLt 5 rfl
    have nA_L := HB.out.boxNe 3 7 rfl rfl (by decide)
    have nB_L := HB.out.boxNe 2 7 rfl rfl (by decide)
    have nB_A := HB.out.boxNe 2 3 rfl rfl (by decide)
    have nr_L := HB.out.boxNe 5 7 rfl rfl (by decide)
    have nr_A := HB.out.boxNe 5 3 rfl rfl (by decide)
    have nr_B := HB.out.boxNe 5 2 rfl rfl (by decide)
    go_wp2_with fail
    generalize hU : ((((((((W6.setCell ⟨w.heap.size + 1 + 1 + 1 + 1, 0, none⟩ (.slice ao key.length cap)).setCell ⟨w.heap.size + 1 + 1 + 1 + 1, 1, none⟩ (.int .i64 side)).setCell ⟨w.heap.size + 1 + 1 + 1 + 1, 2, none⟩ (.int .i64 cur)).setCell ⟨w.heap.size + 1 + 1 + 1 + 1, 3, none⟩ (.int .i64 next)).setCell ⟨w.heap.size + 1 + 1 + 1 + 1, 4, none⟩ (.int .u64 send)).setCell ⟨w.heap.size + 1 + 1 + 1 + 1, 5, none⟩ (.int .u64 ceil)).setCell ⟨w.heap.size + 1 + 1 + 1 + 1, 6, none⟩ (.int .i64 sec)).setCell ⟨w.heap.size + 1 + 1 + 1 + 1, 7, none⟩ (.int .i64 nano)) = U7
    clear qL_0 qL_1 qL_2 qL_3 qL_4 qL_5 qL_6 qL_7 qL_f qL_l qA_0 qA_1 qA_2 qA_3 qA_4 qA_5 qA_6 qA_7 qA_f qA_l qB_0 qB_1 qB_2 qB_3 qB_4 qB_5 qB_6 qB_7 qB_f qB_l qr_0 qr_1 qr_2 qr_3 qr_4 qr_5 qr_6 qr_7 qr_f qr_l nA_L nB_L nB_A nr_L nr_A nr_B
    have h0 := HB.out.store 3 rfl [.slice ao key.length cap, .int .i64 side, .int .i64 cur, .int .i64 next, .int .u64 send, .int .u64 ceil, .int .i64 sec, .int .i64 nano] rfl
    rw [show Bag.setAll W6 (w.heap.size + 1 + 1 + 1 + 1) 0 [.slice ao key.length cap, .int .i64 side, .int .i64 cur, .int .i64 next, .int .u64 send, .int .u64 ceil, .int .i64 sec, .int .i64 nano] = U7 from hU] at h0
    simp only [List.set_cons_zero, List.set_cons_succ] at h0
    clear HB
    have HB := Lib.hid h0
    clear h0
    clear hU
    generalize hU : ((((((((U7.setCell ⟨w.heap.size + 1 + 1, 0, none⟩ (.slice ao key.length cap)).setCell ⟨w.heap.size + 1 + 1, 1, none⟩ (.int .i64 side)).setCell ⟨w.heap.size + 1 + 1, 2, none⟩ (.int .i64 cur)).setCell ⟨w.heap.size + 1 + 1, 3, none⟩ (.int .i64 next)).setCell ⟨w.heap.size + 1 + 1, 4, none⟩ (.int .u64 send)).setCell ⟨w.heap.size + 1 + 1, 5, none⟩ (.int .u64 ceil)).setCell ⟨w.heap.size + 1 + 1, 6, none⟩ (.int .i64 sec)).setCell ⟨w.heap.size + 1 + 1, 7, none⟩ (.int .i64 nano)) = U8
    have h0 := HB.out.store 5 rfl [.slice ao key.length cap, .int .i64 side, .int .i64 cur, .int .i64 next, .int .u64 send, .int .u64 ceil, .int .i64 sec, .int .i64 nano] rfl
    rw [show Bag.setAll U7 (w.heap.size + 1 + 1) 0 [.slice ao key.length cap, .int .i64 side, .int .i64 cur, .int .i64 next, .int .u64 send, .int .u64 ceil, .int .i64 sec, .int .i64 nano] = U8 from hU] at h0
    simp only [List.set_cons_zero, List.set_cons_succ] at h0
    clear HB
    have HB := Lib.hid h0
    clear h0
    clear hU
    obtain ⟨qr_0, qr_1, qr_2, qr_3, qr_4, qr_5, qr_6, qr_7, qr_f⟩ := cells8 (HB.out.box 5 rfl)
    have qr_l := HB.out.boxLt 5 rfl
    refine bodyPost_ret (v := .tuple #[.agg #[.slice ao key.length cap, .int .i64 side, .int .i64 cur, .int .i64 next, .int .u64 send, .int .u64 ceil, .int .i64 sec, .int .i64 nano], .bool true]) (by simp [results, Try.results36, go_sem, qr_0, qr_1, qr_2, qr_3, qr_4, qr_5, qr_6, qr_7]) rfl ?_
    exact stepR_mk HY.out rfl (hr.on HB.out.below) (fun _ h => Or.inl h.symm) HB.out.below
  · have HY := Lib.hid (HZ.out.symm.trans (if_neg hz))
    have hz1 : (c0 == 0) = false := by rw [beq_eq_false_iff_ne]; exact hz
    clear hz
    obtain ⟨qA_0, qA_1, qA_2, qA_3, qA_4, qA_5, qA_6, qA_7, qA_f⟩ := cells8 (HB.out.box 3 rfl)
    have qA_l := HB.out.boxLt 3 rfl
    obtain ⟨qB_0, qB_1, qB_2, qB_3, qB_4, qB_5, qB_6, qB_7, qB_f⟩ := cells8 (HB.out.box 2 rfl)
    have qB_l := HB.out.boxLt 2 rfl
    obtain ⟨qr_0, qr_1, qr_2, qr_3, qr_4, qr_5, qr_6, qr_7, qr_f⟩ := cells8 (HB.out.box 5 rfl)
    have qr_l := HB.out.boxLt 5 rfl
    have nB_A := HB.out.boxNe 2 3 rfl rfl (by decide)
    have nr_A := HB.out.boxNe 5 3 rfl rfl (by decide)
    have nr_B := HB.out.boxNe 5 2 rfl rfl (by decide)
    go_wp2_with fail
    generalize hU : ((((((((W6.setCell ⟨w.heap.size + 1 + 1, 0, none⟩ (.slice A0 k0.length cA0)).setCell ⟨w.heap.size + 1 + 1, 1, none⟩ (.int .i64 s0)).setCell ⟨w.heap.size + 1 + 1, 2, none⟩ (.int .i64 c0)).setCell ⟨w.heap.size + 1 + 1, 3, none⟩ (.int .i64 n0)).setCell ⟨w.heap.size + 1 + 1, 4, none⟩ (.int .u64 e0)).setCell ⟨w.heap.size + 1 + 1, 5, none⟩ (.int .u64 f0)).setCell ⟨w.heap.size + 1 + 1, 6, none⟩ (.int .i64 x0)).setCell ⟨w.heap.size + 1 + 1, 7, none⟩ (.int .i64 y0)) = U7
    clear qA_0 qA_1 qA_2 qA_3 qA_4 qA_5 qA_6 qA_7 qA_f qA_l qB_0 qB_1 qB_2 qB_3 qB_4 qB_5 qB_6 qB_7 qB_f qB_l qr_0 qr_1 qr_2 qr_3 qr_4 qr_5 qr_6 qr_7 qr_f qr_l nB_A nr_A nr_B
    have h0 := HB.out.store 5 rfl [.slice A0 k0.length cA0, .int .i64 s0, .int .i64 c0, .int .i64 n0, .int .u64 e0, .int .u64 f0, .int .i64 x0, .int .i64 y0] rfl
    rw [show Bag.setAll W6 (w.heap.size + 1 + 1) 0 [.slice A0 k0.length cA0, .int .i64 s0, .int .i64 c0, .int .i64 n0, .int .u64 e0, .int .u64 f0, .int .i64 x0, .int .i64 y0] = U7 from hU] at h0
    simp only [List.set_cons_zero, List.set_cons_succ] at h0
    clear HB
    have HB := Lib.hid h0
    clear h0
    clear hU
    obtain ⟨qr_0, qr_1, qr_2, qr_3, qr_4, qr_5, qr_6, qr_7, qr_f⟩ := cells8 (HB.out.box 5 rfl)
    have qr_l := HB.out.boxLt 5 rfl
    refine bodyPost_ret (v := .tuple #[.agg #[.slice A0 k0.length cA0, .int .i64 s0, .int .i64 c0, .int .i64 n0, .int .u64 e0, .int .u64 f0, .int .i64 x0, .int .i64 y0], .bool true]) (by simp [results, Try.results36, go_sem, qr_0, qr_1, qr_2, qr_3, qr_4, qr_5, qr_6, qr_7]) rfl ?_
    exact stepR_mk HY.out rfl ((HB.out.mineRd 1 rfl)) (fun a h => Or.inr (HB.out.mineFar 1 rfl a h)) HB.out.below
set_option maxRecDepth 100000 in
set_option maxHeartbeats 4000000 in
theorem lawStep_6 (L : Ln) (ao : Option Addr) (cap : Nat) (g b c at1 ss sn : Int) (w : World) (hf : L.fits) (hr : Rd w ao L.key) (_hc0 : 0 ≤ c) (_hc1 : c ≤ 18446744073709551615) (_ha0 : 0 ≤ at1) (_ha1 : at1 ≤ 18446744073709551615) (_hss : ss ≤ 9223372036854775807) : Calls Try.prog 36 #[L.val ao cap, .agg #[.int .i64 6, .int .i64 g, .int .i64 b, .int .u64 c, .int .u64 at1, .int .i64 ss, .int .i64 sn]] w (StepR w ao (stepL L ⟨6, g, b, c, at1, ss, sn⟩) [.bool true]) := by
  obtain ⟨N, hN⟩ : ∃ N, raiseL L (Ask.usum L.ceil c) b = N := ⟨_, rfl⟩
  have hst : stepL L ⟨6, g, b, c, at1, ss, sn⟩ = if N.cur = 0 then L else N := by rw [← hN]; rfl
  rw [hst]
  have hkn : N.key.length ≤ 281474976710656 := by rw [← hN]; exact keys_le (by have := hf.len; omega)
  obtain ⟨z, hz⟩ : ∃ z, (if N.cur = 0 then L else N) = z := ⟨_, rfl⟩
  rw [hz]
  obtain ⟨k0, s0, c0, n0, e0, f0, x0, y0⟩ := N
  simp only at hkn hz
  have hu := usum_bd L.ceil c
  have hux : Ask.usum L.ceil c = IntKind.u64.wrap (L.ceil + c) := rfl
  have HF := Lib.hid hf
  clear hst
  obtain ⟨key, side, cur, next, send, ceil, sec, nano⟩ := L
  unfold Ln.val
  obtain ⟨hl, hcur0, hcur1, hnext0, hnext1, hsend0, hsend1, hceil0, hceil1, hs⟩ := hf
  simp only at hl hr hcur0 hcur1 hnext0 hnext1 hsend0 hsend1 hceil0 hceil1 hs hu hux ⊢
  obtain ⟨ax, hax⟩ : ∃ x, Ask.usum ceil c = x := ⟨_, rfl⟩
  simp only [hax] at hu hux hN
  have HX := Lib.hid hux
  clear hux hax
  have HN := Lib.hid hN
  have HZ := Lib.hid hz
  clear hN hz
  go_enter Try.func36, Try.ntmps36
  go_wp2_with fail
  generalize hU : ((((((w.alloc (.cells #[.slice ao key.length cap, .int .i64 side, .int .i64 cur, .int .i64 next, .int .u64 send, .int .u64 ceil, .int .i64 sec, .int .i64 nano] 27 (0, 0))).alloc (.cells #[.int .i64 6, .int .i64 g, .int .i64 b, .int .u64 c, .int .u64 at1, .int .i64 ss, .int .i64 sn] 57 (0, 0))).alloc (.cells #[.slice none 0 0, .int .i64 0, .int .i64 0, .int .i64 0, .int .u64 0, .int .u64 0, .int .i64 0, .int .i64 0] 27 (0, 0))).alloc (.cells #[.int .i64 g, .int .i64 b, .int .u64 c, .int .u64 at1, .int .i64 ss, .int .i64 sn] 37 (0, 0))).alloc (.cells #[.slice none 0 0, .int .i64 0, .int .i64 0, .int .i64 0, .int .u64 0, .int .u64 0, .int .i64 0, .int .i64 0] 27 (0, 0))).alloc (.cells #[.slice none 0 0, .int .i64 0, .int .i64 0, .int .i64 0, .int .u64 0, .int .u64 0, .int .i64 0, .int .i64 0] 27 (0, 0))) = U1
  have h0 := ((((((Bag.start w).allocAt #[.slice ao key.length cap, .int .i64 side, .int .i64 cur, .int .i64 next, .int .u64 send, .int .u64 ceil, .int .i64 sec, .int .i64 nano] 27 (w.heap.size) rfl).allocAt #[.int .i64 6, .int .i64 g, .int .i64 b, .int .u64 c, .int .u64 at1, .int .i64 ss, .int .i64 sn] 57 (w.heap.size + 1) (by simp only [alloc_size])).allocAt #[.slice none 0 0, .int .i64 0, .int .i64 0, .int .i64 0, .int .u64 0, .int .u64 0, .int .i64 0, .int .i64 0] 27 (w.heap.size + 1 + 1) (by simp only [alloc_size])).allocAt #[.int .i64 g, .int .i64 b, .int .u64 c, .int .u64 at1, .int .i64 ss, .int .i64 sn] 37 (w.heap.size + 1 + 1 + 1) (by simp only [alloc_size])).allocAt #[.slice none 0 0, .int .i64 0, .int .i64 0, .int .i64 0, .int .u64 0, .int .u64 0, .int .i64 0, .int .i64 0] 27 (w.heap.size + 1 + 1 + 1 + 1) (by simp only [alloc_size])).allocAt #[.slice none 0 0, .int .i64 0, .int .i64 0, .int .i64 0, .int .u64 0, .int .u64 0, .int .i64 0, .int .i64 0] 27 (w.heap.size + 1 + 1 + 1 + 1 + 1) (by simp only [alloc_size])
  rw [hU] at h0
  have HB := Lib.hid h0
  clear h0 hU
  rw [← HX.out]
  refine (laneRaise ⟨key, side, cur, next, send, ceil, sec, nano⟩ ao cap ax b hu.1 hu.2 _ HF.out (hr.on HB.out.below)).mono ?_
  rintro e W2 ⟨A0, cA0, he, Mx, hb⟩
  rw [HN.out] at he Mx
  obtain rfl : e = .returned ((.agg #[.slice A0 k0.length cA0, .int .i64 s0, .int .i64 c0, .int .i64 n0, .int .u64 e0, .int .u64 f0, .int .i64 x0, .int .i64 y0])) := he
  have h0 := HB.out.mine hb Mx
  clear HB
  have HB := Lib.hid h0
  clear h0
  clear Mx
  clear hb
  obtain ⟨qL_0, qL_1, qL_2, qL_3, qL_4, qL_5, qL_6, qL_7, qL_f⟩ := cells8 (HB.out.box 6 rfl)
  have qL_l := HB.out.boxLt 6 rfl
  obtain ⟨qN_0, qN_1, qN_2, qN_3, qN_4, qN_5, qN_f⟩ := cells6 (HB.out.box 3 rfl)
  have qN_l := HB.out.boxLt 3 rfl
  obtain ⟨qA_0, qA_1, qA_2, qA_3, qA_4, qA_5, qA_6, qA_7, qA_f⟩ := cells8 (HB.out.box 2 rfl)
  have qA_l := HB.out.boxLt 2 rfl
  have nN_L := HB.out.boxNe 3 6 rfl rfl (by decide)
  have nA_L := HB.out.boxNe 2 6 rfl rfl (by decide)
  have nA_N := HB.out.boxNe 2 3 rfl rfl (by decide)
  go_wp2_with fail
  generalize hU : ((((((((W2.setCell ⟨w.heap.size + 1 + 1 + 1 + 1, 0, none⟩ (.slice A0 k0.length cA0)).setCell ⟨w.heap.size + 1 + 1 + 1 + 1, 1, none⟩ (.int .i64 s0)).setCell ⟨w.heap.size + 1 + 1 + 1 + 1, 2, none⟩ (.int .i64 c0)).setCell ⟨w.heap.size + 1 + 1 + 1 + 1, 3, none⟩ (.int .i64 n0)).setCell ⟨w.heap.size + 1 + 1 + 1 + 1, 4, none⟩ (.int .u64 e0)).setCell ⟨w.heap.size + 1 + 1 + 1 + 1, 5, none⟩ (.int .u64 f0)).setCell ⟨w.heap.size + 1 + 1 + 1 + 1, 6, none⟩ (.int .i64 x0)).setCell ⟨w.heap.size + 1 + 1 + 1 + 1, 7, none⟩ (.int .i64 y0)) = U3
  clear qL_0 qL_1 qL_2 qL_3 qL_4 qL_5 qL_6 qL_7 qL_f qL_l qN_0 qN_1 qN_2 qN_3 qN_4 qN_5 qN_f qN_l qA_0 qA_1 qA_2 qA_3 qA_4 qA_5 qA_6 qA_7 qA_f qA_l nN_L nA_L nA_N
  have h0 := HB.out.store 2 rfl [.slice A0 k0.length cA0, .int .i64 s0, .int .i64 c0, .int .i64 n0, .int .u64 e0, .int .u64 f0, .int .i64 x0, .int .i64 y0] rfl
  rw [show Bag.setAll W2 (w.heap.size + 1 + 1 + 1 + 1) 0 [.slice A0 k0.length cA0, .int .i64 s0, .int .i64 c0, .int .i64 n0, .int .u64 e0, .int .u64 f0, .int .i64 x0, .int .i64 y0] = U3 from hU] at h0
  simp only [List.set_cons_zero, List.set_cons_succ] at h0
  clear HB
  have HB := Lib.hid h0
  clear h0
  clear hU
  rw [← HX.out]
  refine (refRaise ⟨key, side, cur, next, send, ceil, sec, nano⟩ ao cap ax b hu.1 hu.2 _ HF.out (hr.on HB.out.below)).mono ?_
  rintro e W4 ⟨B0, cB0, he, Mx, hb⟩
  rw [HN.out] at he Mx
  obtain rfl : e = .returned ((.agg #[.slice B0 k0.length cB0, .int .i64 s0, .int .i64 c0, .int .i64 n0, .int .u64 e0, .int .u64 f0, .int .i64 x0, .int .i64 y0])) := he
  have h0 := HB.out.mine hb Mx
  clear HB
  have HB := Lib.hid h0
  clear h0
  clear Mx
  clear hb
  obtain ⟨qA_0, qA_1, qA_2, qA_3, qA_4, qA_5, qA_6, qA_7, qA_f⟩ := cells8 (HB.out.box 3 rfl)
  have qA_l := HB.out.boxLt 3 rfl
  obtain ⟨qB_0, qB_1, qB_2, qB_3, qB_4, qB_5, qB_6, qB_7, qB_f⟩ := cells8 (HB.out.box 2 rfl)
  have qB_l := HB.out.boxLt 2 rfl
  have nB_A := HB.out.boxNe 2 3 rfl rfl (by decide)
  go_wp2_with fail
  generalize hU : ((((((((W4.setCell ⟨w.heap.size + 1 + 1 + 1 + 1 + 1, 0, none⟩ (.slice B0 k0.length cB0)).setCell ⟨w.heap.size + 1 + 1 + 1 + 1 + 1, 1, none⟩ (.int .i64 s0)).setCell ⟨w.heap.size + 1 + 1 + 1 + 1 + 1, 2, none⟩ (.int .i64 c0)).setCell ⟨w.heap.size + 1 + 1 + 1 + 1 + 1, 3, none⟩ (.int .i64 n0)).setCell ⟨w.heap.size + 1 + 1 + 1 + 1 + 1, 4, none⟩ (.int .u64 e0)).setCell ⟨w.heap.size + 1 + 1 + 1 + 1 + 1, 5, none⟩ (.int .u64 f0)).setCell ⟨w.heap.size + 1 + 1 + 1 + 1 + 1, 6, none⟩ (.int .i64 x0)).setCell ⟨w.heap.size + 1 + 1 + 1 + 1 + 1, 7, none⟩ (.int .i64 y0)) = U5
  clear qA_0 qA_1 qA_2 qA_3 qA_4 qA_5 qA_6 qA_7 qA_f qA_l qB_0 qB_1 qB_2 qB_3 qB_4 qB_5 qB_6 qB_7 qB_f qB_l nB_A
  have h0 := HB.out.store 2 rfl [.slice B0 k0.length cB0, .int .i64 s0, .int .i64 c0, .int .i64 n0, .int .u64 e0, .int .u64 f0, .int .i64 x0, .int .i64 y0] rfl
  rw [show Bag.setAll W4 (w.heap.size + 1 + 1 + 1 + 1 + 1) 0 [.slice B0 k0.length cB0, .int .i64 s0, .int .i64 c0, .int .i64 n0, .int .u64 e0, .int .u64 f0, .int .i64 x0, .int .i64 y0] = U5 from hU] at h0
  simp only [List.set_cons_zero, List.set_cons_succ] at h0
  clear HB
  have HB := Lib.hid h0
  clear h0
  clear hU
  refine (sameLane ⟨k0, s0, c0, n0, e0, f0, x0, y0⟩ ⟨k0, s0, c0, n0, e0, f0, x0, y0⟩ A0 B0 cA0 cB0 _ hkn hkn (HB.out.mineRd 1 rfl) (HB.out.mineRd 0 rfl)).mono ?_
  rintro e W6 ⟨he, hb⟩
  rw [sameL_refl] at he
  subst he
  have h0 := HB.out.call hb
  clear HB
  have HB := Lib.hid h0
  clear h0
  clear hb
  by_cases hz : c0 = 0
  · have HY := Lib.hid (HZ.out.symm.trans (if_pos hz))
    have hz1 : (c0 == 0) = true := by rw [beq_iff_eq]; exact hz
    clear hz
    obtain ⟨qL_0, qL_1, qL_2, qL_3, qL_4, qL_5, qL_6, qL_7, qL_f⟩ := cells8 (HB.out.box 7 rfl)
    have qL_l := HB.out.boxLt 7 rfl
    obtain ⟨qA_0, qA_1, qA_2, qA_3, qA_4, qA_5, qA_6, qA_7, qA_f⟩ := cells8 (HB.out.box 3 rfl)
    have qA_l := HB.out.boxLt 3 rfl
    obtain ⟨qB_0, qB_1, qB_2, qB_3, qB_4, qB_5, qB_6, qB_7, qB_f⟩ := cells8 (HB.out.box 2 rfl)
    have qB_l := HB.out.boxLt 2 rfl
    obtain ⟨qr_0, qr_1, qr_2, qr_3, qr_4, qr_5, qr_6, qr_7, qr_f⟩ := cells8 (HB.out.box 5 rfl)
    have qr_l := HB.out.boxLt 5 rfl
    have nA_L := HB.out.boxNe 3 7 rfl rfl (by decide)
    have nB_L := HB.out.boxNe 2 7 rfl rfl (by decide)
    have nB_A := HB.out.boxNe 2 3 rfl rfl (by decide)
    have nr_L := HB.out.boxNe 5 7 rfl rfl (by decide)
    have nr_A := HB.out.boxNe 5 3 rfl rfl (by decide)
    have nr_B := HB.out.boxNe 5 2 rfl rfl (by decide)
    go_wp2_with fail
    generalize hU : ((((((((W6.setCell ⟨w.heap.size + 1 + 1 + 1 + 1, 0, none⟩ (.slice ao key.length cap)).setCell ⟨w.heap.size + 1 + 1 + 1 + 1, 1, none⟩ (.int .i64 side)).setCell ⟨w.heap.size + 1 + 1 + 1 + 1, 2, none⟩ (.int .i64 cur)).setCell ⟨w.heap.size + 1 + 1 + 1 + 1, 3, none⟩ (.int .i64 next)).setCell ⟨w.heap.size + 1 + 1 + 1 + 1, 4, none⟩ (.int .u64 send)).setCell ⟨w.heap.size + 1 + 1 + 1 + 1, 5, none⟩ (.int .u64 ceil)).setCell ⟨w.heap.size + 1 + 1 + 1 + 1, 6, none⟩ (.int .i64 sec)).setCell ⟨w.heap.size + 1 + 1 + 1 + 1, 7, none⟩ (.int .i64 nano)) = U7
    clear qL_0 qL_1 qL_2 qL_3 qL_4 qL_5 qL_6 qL_7 qL_f qL_l qA_0 qA_1 qA_2 qA_3 qA_4 qA_5 qA_6 qA_7 qA_f qA_l qB_0 qB_1 qB_2 qB_3 qB_4 qB_5 qB_6 qB_7 qB_f qB_l qr_0 qr_1 qr_2 qr_3 qr_4 qr_5 qr_6 qr_7 qr_f qr_l nA_L nB_L nB_A nr_L nr_A nr_B
    have h0 := HB.out.store 3 rfl [.slice ao key.length cap, .int .i64 side, .int .i64 cur, .int .i64 next, .int .u64 send, .int .u64 ceil, .int .i64 sec, .int .i64 nano] rfl
    rw [show Bag.setAll W6 (w.heap.size + 1 + 1 + 1 + 1) 0 [.slice ao key.length cap, .int .i64 side, .int .i64 cur, .int .i64 next, .int .u64 send, .int .u64 ceil, .int .i64 sec, .int .i64 nano] = U7 from hU] at h0
    simp only [List.set_cons_zero, List.set_cons_succ] at h0
    clear HB
    have HB := Lib.hid h0
    clear h0
    clear hU
    generalize hU : ((((((((U7.setCell ⟨w.heap.size + 1 + 1, 0, none⟩ (.slice ao key.length cap)).setCell ⟨w.heap.size + 1 + 1, 1, none⟩ (.int .i64 side)).setCell ⟨w.heap.size + 1 + 1, 2, none⟩ (.int .i64 cur)).setCell ⟨w.heap.size + 1 + 1, 3, none⟩ (.int .i64 next)).setCell ⟨w.heap.size + 1 + 1, 4, none⟩ (.int .u64 send)).setCell ⟨w.heap.size + 1 + 1, 5, none⟩ (.int .u64 ceil)).setCell ⟨w.heap.size + 1 + 1, 6, none⟩ (.int .i64 sec)).setCell ⟨w.heap.size + 1 + 1, 7, none⟩ (.int .i64 nano)) = U8
    have h0 := HB.out.store 5 rfl [.slice ao key.length cap, .int .i64 side, .int .i64 cur, .int .i64 next, .int .u64 send, .int .u64 ceil, .int .i64 sec, .int .i64 nano] rfl
    rw [show Bag.setAll U7 (w.heap.size + 1 + 1) 0 [.slice ao key.length cap, .int .i64 side, .int .i64 cur, .int .i64 next, .int .u64 send, .int .u64 ceil, .int .i64 sec, .int .i64 nano] = U8 from hU] at h0
    simp only [List.set_cons_zero, List.set_cons_succ] at h0
    clear HB
    have HB := Lib.hid h0
    clear h0
    clear hU
    obtain ⟨qr_0, qr_1, qr_2, qr_3, qr_4, qr_5, qr_6, qr_7, qr_f⟩ := cells8 (HB.out.box 5 rfl)
    have qr_l := HB.out.boxLt 5 rfl
    refine bodyPost_ret (v := .tuple #[.agg #[.slice ao key.length cap, .int .i64 side, .int .i64 cur, .int .i64 next, .int .u64 send, .int .u64 ceil, .int .i64 sec, .int .i64 nano], .bool true]) (by simp [results, Try.results36, go_sem, qr_0, qr_1, qr_2, qr_3, qr_4, qr_5, qr_6, qr_7]) rfl ?_
    exact stepR_mk HY.out rfl (hr.on HB.out.below) (fun _ h => Or.inl h.symm) HB.out.below
  · have HY := Lib.hid (HZ.out.symm.trans (if_neg hz))
    have hz1 : (c0 == 0) = false := by rw [beq_eq_false_iff_ne]; exact hz
    clear hz
    obtain ⟨qA_0, qA_1, qA_2, qA_3, qA_4, qA_5, qA_6, qA_7, qA_f⟩ := cells8 (HB.out.box 3 rfl)
    have qA_l := HB.out.boxLt 3 rfl
    obtain ⟨qB_0, qB_1, qB_2, qB_3, qB_4, qB_5, qB_6, qB_7, qB_f⟩ := cells8 (HB.out.box 2 rfl)
    have qB_l := HB.out.boxLt 2 rfl
    obtain ⟨qr_0, qr_1, qr_2, qr_3, qr_4, qr_5, qr_6, qr_7, qr_f⟩ := cells8 (HB.out.box 5 rfl)
    have qr_l := HB.out.boxLt 5 rfl
    have nB_A := HB.out.boxNe 2 3 rfl rfl (by decide)
    have nr_A := HB.out.boxNe 5 3 rfl rfl (by decide)
    have nr_B := HB.out.boxNe 5 2 rfl rfl (by decide)
    go_wp2_with fail
    generalize hU : ((((((((W6.setCell ⟨w.heap.size + 1 + 1, 0, none⟩ (.slice A0 k0.length cA0)).setCell ⟨w.heap.size + 1 + 1, 1, none⟩ (.int .i64 s0)).setCell ⟨w.heap.size + 1 + 1, 2, none⟩ (.int .i64 c0)).setCell ⟨w.heap.size + 1 + 1, 3, none⟩ (.int .i64 n0)).setCell ⟨w.heap.size + 1 + 1, 4, none⟩ (.int .u64 e0)).setCell ⟨w.heap.size + 1 + 1, 5, none⟩ (.int .u64 f0)).setCell ⟨w.heap.size + 1 + 1, 6, none⟩ (.int .i64 x0)).setCell ⟨w.heap.size + 1 + 1, 7, none⟩ (.int .i64 y0)) = U7
    clear qA_0 qA_1 qA_2 qA_3 qA_4 qA_5 qA_6 qA_7 qA_f qA_l qB_0 qB_1 qB_2 qB_3 qB_4 qB_5 qB_6 qB_7 qB_f qB_l qr_0 qr_1 qr_2 qr_3 qr_4 qr_5 qr_6 qr_7 qr_f qr_l nB_A nr_A nr_B
    have h0 := HB.out.store 5 rfl [.slice A0 k0.length cA0, .int .i64 s0, .int .i64 c0, .int .i64 n0, .int .u64 e0, .int .u64 f0, .int .i64 x0, .int .i64 y0] rfl
    rw [show Bag.setAll W6 (w.heap.size + 1 + 1) 0 [.slice A0 k0.length cA0, .int .i64 s0, .int .i64 c0, .int .i64 n0, .int .u64 e0, .int .u64 f0, .int .i64 x0, .int .i64 y0] = U7 from hU] at h0
    simp only [List.set_cons_zero, List.set_cons_succ] at h0
    clear HB
    have HB := Lib.hid h0
    clear h0
    clear hU
    obtain ⟨qr_0, qr_1, qr_2, qr_3, qr_4, qr_5, qr_6, qr_7, qr_f⟩ := cells8 (HB.out.box 5 rfl)
    have qr_l := HB.out.boxLt 5 rfl
    refine bodyPost_ret (v := .tuple #[.agg #[.slice A0 k0.length cA0, .int .i64 s0, .int .i64 c0, .int .i64 n0, .int .u64 e0, .int .u64 f0, .int .i64 x0, .int .i64 y0], .bool true]) (by simp [results, Try.results36, go_sem, qr_0, qr_1, qr_2, qr_3, qr_4, qr_5, qr_6, qr_7]) rfl ?_
    exact stepR_mk HY.out rfl ((HB.out.mineRd 1 rfl)) (fun a h => Or.inr (HB.out.mineFar 1 rfl a h)) HB.out.below
set_option maxRecDepth 100000 in
set_option maxHeartbeats 4000000 in
theorem lawStep_0 (L : Ln) (ao : Option Addr) (cap : Nat) (kind g b c at1 ss sn : Int) (w : World) (_hf : L.fits) (hr : Rd w ao L.key) (_hc0 : 0 ≤ c) (_hc1 : c ≤ 18446744073709551615) (_ha0 : 0 ≤ at1) (_ha1 : at1 ≤ 18446744073709551615) (_hss : ss ≤ 9223372036854775807) (h1 : kind ≠ 1) (h2 : kind ≠ 2) (h3 : kind ≠ 3) (h4 : kind ≠ 4) (h5 : kind ≠ 5) (h6 : kind ≠ 6) : Calls Try.prog 36 #[L.val ao cap, .agg #[.int .i64 kind, .int .i64 g, .int .i64 b, .int .u64 c, .int .u64 at1, .int .i64 ss, .int .i64 sn]] w (StepR w ao (stepL L ⟨kind, g, b, c, at1, ss, sn⟩) [.bool true]) := by
  have hst : stepL L ⟨kind, g, b, c, at1, ss, sn⟩ = L := stepL_zero (by unfold ansL; rw [if_neg h1, if_neg h2, if_neg h3, if_neg h4, if_neg h5, if_neg h6])
  have i1 : (kind == 1) = false := beq_eq_false_iff_ne.2 h1
  have i2 : (kind == 2) = false := beq_eq_false_iff_ne.2 h2
  have i3 : (kind == 3) = false := beq_eq_false_iff_ne.2 h3
  have i4 : (kind == 4) = false := beq_eq_false_iff_ne.2 h4
  have i5 : (kind == 5) = false := beq_eq_false_iff_ne.2 h5
  have i6 : (kind == 6) = false := beq_eq_false_iff_ne.2 h6
  obtain ⟨z, hz⟩ : ∃ z, stepL L ⟨kind, g, b, c, at1, ss, sn⟩ = z := ⟨_, rfl⟩
  rw [hz]
  have HZ := Lib.hid (hz.symm.trans hst)
  clear hst hz h1 h2 h3 h4 h5 h6
  obtain ⟨key, side, cur, next, send, ceil, sec, nano⟩ := L
  unfold Ln.val
  simp only at hr ⊢
  go_enter Try.func36, Try.ntmps36
  go_wp2_with fail
  generalize hU : ((((((w.alloc (.cells #[.slice ao key.length cap, .int .i64 side, .int .i64 cur, .int .i64 next, .int .u64 send, .int .u64 ceil, .int .i64 sec, .int .i64 nano] 27 (0, 0))).alloc (.cells #[.int .i64 kind, .int .i64 g, .int .i64 b, .int .u64 c, .int .u64 at1, .int .i64 ss, .int .i64 sn] 57 (0, 0))).alloc (.cells #[.slice ao key.length cap, .int .i64 side, .int .i64 cur, .int .i64 next, .int .u64 send, .int .u64 ceil, .int .i64 sec, .int .i64 nano] 27 (0, 0))).alloc (.cells #[.int .i64 g, .int .i64 b, .int .u64 c, .int .u64 at1, .int .i64 ss, .int .i64 sn] 37 (0, 0))).alloc (.cells #[.slice none 0 0, .int .i64 0, .int .i64 0, .int .i64 0, .int .u64 0, .int .u64 0, .int .i64 0, .int .i64 0] 27 (0, 0))).alloc (.cells #[.slice none 0 0, .int .i64 0, .int .i64 0, .int .i64 0, .int .u64 0, .int .u64 0, .int .i64 0, .int .i64 0] 27 (0, 0))) = U1
  have h0 := ((((((Bag.start w).allocAt #[.slice ao key.length cap, .int .i64 side, .int .i64 cur, .int .i64 next, .int .u64 send, .int .u64 ceil, .int .i64 sec, .int .i64 nano] 27 (w.heap.size) rfl).allocAt #[.int .i64 kind, .int .i64 g, .int .i64 b, .int .u64 c, .int .u64 at1, .int .i64 ss, .int .i64 sn] 57 (w.heap.size + 1) (by simp only [alloc_size])).allocAt #[.slice ao key.length cap, .int .i64 side, .int .i64 cur, .int .i64 next, .int .u64 send, .int .u64 ceil, .int .i64 sec, .int .i64 nano] 27 (w.heap.size + 1 + 1) (by simp only [alloc_size])).allocAt #[.int .i64 g, .int .i64 b, .int .u64 c, .int .u64 at1, .int .i64 ss, .int .i64 sn] 37 (w.heap.size + 1 + 1 + 1) (by simp only [alloc_size])).allocAt #[.slice none 0 0, .int .i64 0, .int .i64 0, .int .i64 0, .int .u64 0, .int .u64 0, .int .i64 0, .int .i64 0] 27 (w.heap.size + 1 + 1 + 1 + 1) (by simp only [alloc_size])).allocAt #[.slice none 0 0, .int .i64 0, .int .i64 0, .int .i64 0, .int .u64 0, .int .u64 0, .int .i64 0, .int .i64 0] 27 (w.heap.size + 1 + 1 + 1 + 1 + 1) (by simp only [alloc_size])
  rw [hU] at h0
  have HB := Lib.hid h0
  clear h0 hU
  obtain ⟨qr_0, qr_1, qr_2, qr_3, qr_4, qr_5, qr_6, qr_7, qr_f⟩ := cells8 (HB.out.box 3 rfl)
  have qr_l := HB.out.boxLt 3 rfl
  refine bodyPost_ret (v := .tuple #[.agg #[.slice ao key.length cap, .int .i64 side, .int .i64 cur, .int .i64 next, .int .u64 send, .int .u64 ceil, .int .i64 sec, .int .i64 nano], .bool true]) (by simp [results, Try.results36, go_sem, qr_0, qr_1, qr_2, qr_3, qr_4, qr_5, qr_6, qr_7]) rfl ?_
  exact stepR_mk HZ.out rfl (hr.on HB.out.below) (fun _ h => Or.inl h.symm) HB.out.below
theorem lawStep (L : Ln) (ao : Option Addr) (cap : Nat) (o : Ask) (w : World) (hf : L.fits) (ho : o.fits) (hr : Rd w ao L.key) :
    Calls Try.prog 36 #[L.val ao cap, o.val] w (StepR w ao (stepL L o) [.bool true]) := by
  obtain ⟨kind, g, b, c, at1, ss, sn⟩ := o
  obtain ⟨hc0, hc1, ha0, ha1, hss⟩ := ho
  by_cases h1 : kind = 1
  · subst h1; exact lawStep_1 L ao cap g b c at1 ss sn w hf hr hc0 hc1 ha0 ha1 hss
  by_cases h2 : kind = 2
  · subst h2; exact lawStep_2 L ao cap g b c at1 ss sn w hf hr hc0 hc1 ha0 ha1 hss
  by_cases h3 : kind = 3
  · subst h3; exact lawStep_3 L ao cap g b c at1 ss sn w hf hr hc0 hc1 ha0 ha1 hss
  by_cases h4 : kind = 4
  · subst h4; exact lawStep_4 L ao cap g b c at1 ss sn w hf hr hc0 hc1 ha0 ha1 hss
  by_cases h5 : kind = 5
  · subst h5; exact lawStep_5 L ao cap g b c at1 ss sn w hf hr hc0 hc1 ha0 ha1 hss
  by_cases h6 : kind = 6
  · subst h6; exact lawStep_6 L ao cap g b c at1 ss sn w hf hr hc0 hc1 ha0 ha1 hss
  exact lawStep_0 L ao cap kind g b c at1 ss sn w hf hr hc0 hc1 ha0 ha1 hss h1 h2 h3 h4 h5 h6
end Go.Proofs.Ytihndipgdogebaa
