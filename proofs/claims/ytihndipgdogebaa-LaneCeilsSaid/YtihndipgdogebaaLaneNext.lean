/- next: one call by number, of the program alone: the lane behind it, what was given, the answer's counter. -/
import Derived.Test.YtihndipgdogebaaLaneStep
namespace Go.Proofs.Ytihndipgdogebaa
open Go.RowKit
theorem atA_zero {L : Ln} {g c ss sn b : Int} (h : (answeredL L g c ss sn b).cur = 0) : atA L g c ss sn b = 0 := by
  unfold atA
  by_cases hm : mayA L g c ss sn b = true
  · exfalso
    unfold answeredL at h
    rw [if_pos hm] at h
    have h1 := mayA_iff.1 hm
    have h2 := ok_iff.1 h1.1
    have h3 : g = 0 := h
    omega
  · rw [if_neg hm]
theorem prop_zero {L : Ln} (h : nextE L = 0) : (proposeL L).cur ≠ 0 := by
  have h2 := ok_iff.1 (nextE_ok h)
  unfold proposeL
  rw [if_pos h, keep_cur]
  omega
theorem prop_none {L : Ln} (h : nextE L ≠ 0) : proposeL L = Ln.zero := by
  unfold proposeL
  rw [if_neg h]
set_option maxRecDepth 100000 in
set_option maxHeartbeats 4000000 in
theorem lawNext_1 (L : Ln) (ao : Option Addr) (cap : Nat) (g b c at1 ss sn : Int) (w : World) (hf : L.fits) (hr : Rd w ao L.key) (_hc0 : 0 ≤ c) (_hc1 : c ≤ 18446744073709551615) (_ha0 : 0 ≤ at1) (_ha1 : at1 ≤ 18446744073709551615) (_hss : ss ≤ 9223372036854775807) : Calls Try.prog 37 #[L.val ao cap, .agg #[.int .i64 1, .int .i64 g, .int .i64 b, .int .u64 c, .int .u64 at1, .int .i64 ss, .int .i64 sn]] w (StepR w ao (stepL L ⟨1, g, b, c, at1, ss, sn⟩) [.int .i64 (givenL L ⟨1, g, b, c, at1, ss, sn⟩), .int .u64 (atL L ⟨1, g, b, c, at1, ss, sn⟩)]) := by
  obtain ⟨gv, hgv⟩ : ∃ x, givenL L ⟨1, g, b, c, at1, ss, sn⟩ = x := ⟨_, rfl⟩
  obtain ⟨av, hav⟩ : ∃ x, atL L ⟨1, g, b, c, at1, ss, sn⟩ = x := ⟨_, rfl⟩
  rw [hgv, hav]
  obtain ⟨N, hN⟩ : ∃ N, againL L = N := ⟨_, rfl⟩
  have hst : stepL L ⟨1, g, b, c, at1, ss, sn⟩ = if N.cur = 0 then L else N := by rw [← hN]; rfl
  rw [hst]
  have hkn : N.key.length ≤ 281474976710656 := by rw [← hN]; exact keys_le (by have := hf.len; omega)
  obtain ⟨z, hz⟩ : ∃ z, (if N.cur = 0 then L else N) = z := ⟨_, rfl⟩
  rw [hz]
  obtain ⟨ng, hng⟩ : ∃ x, nextG L = x := ⟨_, rfl⟩
  obtain ⟨ne, hne⟩ : ∃ x, nextE L = x := ⟨_, rfl⟩
  have HV := Lib.hid (show gv = -1 by rw [← hgv]; unfold givenL; rw [if_neg (by simp)])
  have HT := Lib.hid (show av = 0 by rw [← hav]; unfold atL; rw [if_neg (by simp)])
  clear hgv hav
  obtain ⟨k0, s0, c0, n0, e0, f0, x0, y0⟩ := N
  simp only at hkn hz
  have HF := Lib.hid hf
  clear hst
  obtain ⟨key, side, cur, next, send, ceil, sec, nano⟩ := L
  unfold Ln.val
  obtain ⟨hl, hcur0, hcur1, hnext0, hnext1, hsend0, hsend1, hceil0, hceil1, hs⟩ := hf
  simp only at hl hr hcur0 hcur1 hnext0 hnext1 hsend0 hsend1 hceil0 hceil1 hs ⊢
  have HN := Lib.hid hN
  have HZ := Lib.hid hz
  have HG := Lib.hid hng
  have HE := Lib.hid hne
  clear hN hz hng hne
  go_enter Try.func37, Try.ntmps37
  go_wp2_with fail
  generalize hU : (((((w.alloc (.cells #[.slice ao key.length cap, .int .i64 side, .int .i64 cur, .int .i64 next, .int .u64 send, .int .u64 ceil, .int .i64 sec, .int .i64 nano] 27 (0, 0))).alloc (.cells #[.int .i64 1, .int .i64 g, .int .i64 b, .int .u64 c, .int .u64 at1, .int .i64 ss, .int .i64 sn] 57 (0, 0))).alloc (.cells #[.slice none 0 0, .int .i64 0, .int .i64 0, .int .i64 0, .int .u64 0, .int .u64 0, .int .i64 0, .int .i64 0] 27 (0, 0))).alloc (.cells #[.int .i64 g, .int .i64 b, .int .u64 c, .int .u64 at1, .int .i64 ss, .int .i64 sn] 37 (0, 0))).alloc (.cells #[.slice none 0 0, .int .i64 0, .int .i64 0, .int .i64 0, .int .u64 0, .int .u64 0, .int .i64 0, .int .i64 0] 27 (0, 0))) = U1
  have h0 := (((((Bag.start w).allocAt #[.slice ao key.length cap, .int .i64 side, .int .i64 cur, .int .i64 next, .int .u64 send, .int .u64 ceil, .int .i64 sec, .int .i64 nano] 27 (w.heap.size) rfl).allocAt #[.int .i64 1, .int .i64 g, .int .i64 b, .int .u64 c, .int .u64 at1, .int .i64 ss, .int .i64 sn] 57 (w.heap.size + 1) (by simp only [alloc_size])).allocAt #[.slice none 0 0, .int .i64 0, .int .i64 0, .int .i64 0, .int .u64 0, .int .u64 0, .int .i64 0, .int .i64 0] 27 (w.heap.size + 1 + 1) (by simp only [alloc_size])).allocAt #[.int .i64 g, .int .i64 b, .int .u64 c, .int .u64 at1, .int .i64 ss, .int .i64 sn] 37 (w.heap.size + 1 + 1 + 1) (by simp only [alloc_size])).allocAt #[.slice none 0 0, .int .i64 0, .int .i64 0, .int .i64 0, .int .u64 0, .int .u64 0, .int .i64 0, .int .i64 0] 27 (w.heap.size + 1 + 1 + 1 + 1) (by simp only [alloc_size])
  rw [hU] at h0
  have HB := Lib.hid h0
  clear h0 hU
  refine (laneAgain ⟨key, side, cur, next, send, ceil, sec, nano⟩ ao cap _ HF.out (hr.on HB.out.below)).mono ?_
  rintro e W2 ⟨A0, cA0, he, Mx, hb⟩
  rw [HN.out] at he Mx
  rw [HE.out] at he
  obtain rfl : e = .returned (.tuple #[(.agg #[.slice A0 k0.length cA0, .int .i64 s0, .int .i64 c0, .int .i64 n0, .int .u64 e0, .int .u64 f0, .int .i64 x0, .int .i64 y0]), .int .i64 ne]) := he
  have h0 := HB.out.mine hb Mx
  clear HB
  have HB := Lib.hid h0
  clear h0
  clear Mx
  clear hb
  obtain ⟨qL_0, qL_1, qL_2, qL_3, qL_4, qL_5, qL_6, qL_7, qL_f⟩ := cells8 (HB.out.box 5 rfl)
  have qL_l := HB.out.boxLt 5 rfl
  obtain ⟨qz_0, qz_1, qz_2, qz_3, qz_4, qz_5, qz_6, qz_7, qz_f⟩ := cells8 (HB.out.box 1 rfl)
  have qz_l := HB.out.boxLt 1 rfl
  have nz_L := HB.out.boxNe 1 5 rfl rfl (by decide)
  by_cases hz : c0 = 0
  · have HC := Lib.hid hz
    have HY := Lib.hid (HZ.out.symm.trans (if_pos hz))
    have hz1 : (c0 == 0) = true := by rw [beq_iff_eq]; exact hz
    clear hz
    obtain ⟨qr_0, qr_1, qr_2, qr_3, qr_4, qr_5, qr_6, qr_7, qr_f⟩ := cells8 (HB.out.box 3 rfl)
    have qr_l := HB.out.boxLt 3 rfl
    have nr_1 := HB.out.boxNe 3 5 rfl rfl (by decide)
    have nr_2 := HB.out.boxNe 3 1 rfl rfl (by decide)
    go_wp2_with fail
    generalize hU : ((((((((W2.setCell ⟨w.heap.size + 1 + 1 + 1 + 1, 0, none⟩ (.slice A0 k0.length cA0)).setCell ⟨w.heap.size + 1 + 1 + 1 + 1, 1, none⟩ (.int .i64 s0)).setCell ⟨w.heap.size + 1 + 1 + 1 + 1, 2, none⟩ (.int .i64 c0)).setCell ⟨w.heap.size + 1 + 1 + 1 + 1, 3, none⟩ (.int .i64 n0)).setCell ⟨w.heap.size + 1 + 1 + 1 + 1, 4, none⟩ (.int .u64 e0)).setCell ⟨w.heap.size + 1 + 1 + 1 + 1, 5, none⟩ (.int .u64 f0)).setCell ⟨w.heap.size + 1 + 1 + 1 + 1, 6, none⟩ (.int .i64 x0)).setCell ⟨w.heap.size + 1 + 1 + 1 + 1, 7, none⟩ (.int .i64 y0)) = U3
    clear qL_0 qL_1 qL_2 qL_3 qL_4 qL_5 qL_6 qL_7 qL_f qL_l qz_0 qz_1 qz_2 qz_3 qz_4 qz_5 qz_6 qz_7 qz_f qz_l nz_L qr_0 qr_1 qr_2 qr_3 qr_4 qr_5 qr_6 qr_7 qr_f qr_l nr_1 nr_2
    have h0 := HB.out.store 1 rfl [.slice A0 k0.length cA0, .int .i64 s0, .int .i64 c0, .int .i64 n0, .int .u64 e0, .int .u64 f0, .int .i64 x0, .int .i64 y0] rfl
    rw [show Bag.setAll W2 (w.heap.size + 1 + 1 + 1 + 1) 0 [.slice A0 k0.length cA0, .int .i64 s0, .int .i64 c0, .int .i64 n0, .int .u64 e0, .int .u64 f0, .int .i64 x0, .int .i64 y0] = U3 from hU] at h0
    simp only [List.set_cons_zero, List.set_cons_succ] at h0
    clear HB
    have HB := Lib.hid h0
    clear h0
    clear hU
    generalize hU : ((((((((U3.setCell ⟨w.heap.size + 1 + 1, 0, none⟩ (.slice ao key.length cap)).setCell ⟨w.heap.size + 1 + 1, 1, none⟩ (.int .i64 side)).setCell ⟨w.heap.size + 1 + 1, 2, none⟩ (.int .i64 cur)).setCell ⟨w.heap.size + 1 + 1, 3, none⟩ (.int .i64 next)).setCell ⟨w.heap.size + 1 + 1, 4, none⟩ (.int .u64 send)).setCell ⟨w.heap.size + 1 + 1, 5, none⟩ (.int .u64 ceil)).setCell ⟨w.heap.size + 1 + 1, 6, none⟩ (.int .i64 sec)).setCell ⟨w.heap.size + 1 + 1, 7, none⟩ (.int .i64 nano)) = U4
    have h0 := HB.out.store 3 rfl [.slice ao key.length cap, .int .i64 side, .int .i64 cur, .int .i64 next, .int .u64 send, .int .u64 ceil, .int .i64 sec, .int .i64 nano] rfl
    rw [show Bag.setAll U3 (w.heap.size + 1 + 1) 0 [.slice ao key.length cap, .int .i64 side, .int .i64 cur, .int .i64 next, .int .u64 send, .int .u64 ceil, .int .i64 sec, .int .i64 nano] = U4 from hU] at h0
    simp only [List.set_cons_zero, List.set_cons_succ] at h0
    clear HB
    have HB := Lib.hid h0
    clear h0
    clear hU
    obtain ⟨qr_0, qr_1, qr_2, qr_3, qr_4, qr_5, qr_6, qr_7, qr_f⟩ := cells8 (HB.out.box 3 rfl)
    have qr_l := HB.out.boxLt 3 rfl
    refine bodyPost_ret (v := .tuple #[.agg #[.slice ao key.length cap, .int .i64 side, .int .i64 cur, .int .i64 next, .int .u64 send, .int .u64 ceil, .int .i64 sec, .int .i64 nano], .int .i64 (-1), .int .u64 (0)]) (by simp [results, Try.results37, go_sem, qr_0, qr_1, qr_2, qr_3, qr_4, qr_5, qr_6, qr_7]) rfl ?_
    exact stepR_mk HY.out (by rw [HV.out, HT.out]; rfl) (hr.on HB.out.below) (fun _ h => Or.inl h.symm) HB.out.below
  · have HY := Lib.hid (HZ.out.symm.trans (if_neg hz))
    have hz1 : (c0 == 0) = false := by rw [beq_eq_false_iff_ne]; exact hz
    clear hz
    obtain ⟨qr_0, qr_1, qr_2, qr_3, qr_4, qr_5, qr_6, qr_7, qr_f⟩ := cells8 (HB.out.box 3 rfl)
    have qr_l := HB.out.boxLt 3 rfl
    have nr_1 := HB.out.boxNe 3 5 rfl rfl (by decide)
    have nr_2 := HB.out.boxNe 3 1 rfl rfl (by decide)
    go_wp2_with fail
    generalize hU : ((((((((W2.setCell ⟨w.heap.size + 1 + 1 + 1 + 1, 0, none⟩ (.slice A0 k0.length cA0)).setCell ⟨w.heap.size + 1 + 1 + 1 + 1, 1, none⟩ (.int .i64 s0)).setCell ⟨w.heap.size + 1 + 1 + 1 + 1, 2, none⟩ (.int .i64 c0)).setCell ⟨w.heap.size + 1 + 1 + 1 + 1, 3, none⟩ (.int .i64 n0)).setCell ⟨w.heap.size + 1 + 1 + 1 + 1, 4, none⟩ (.int .u64 e0)).setCell ⟨w.heap.size + 1 + 1 + 1 + 1, 5, none⟩ (.int .u64 f0)).setCell ⟨w.heap.size + 1 + 1 + 1 + 1, 6, none⟩ (.int .i64 x0)).setCell ⟨w.heap.size + 1 + 1 + 1 + 1, 7, none⟩ (.int .i64 y0)) = U3
    clear qL_0 qL_1 qL_2 qL_3 qL_4 qL_5 qL_6 qL_7 qL_f qL_l qz_0 qz_1 qz_2 qz_3 qz_4 qz_5 qz_6 qz_7 qz_f qz_l nz_L qr_0 qr_1 qr_2 qr_3 qr_4 qr_5 qr_6 qr_7 qr_f qr_l nr_1 nr_2
    have h0 := HB.out.store 1 rfl [.slice A0 k0.length cA0, .int .i64 s0, .int .i64 c0, .int .i64 n0, .int .u64 e0, .int .u64 f0, .int .i64 x0, .int .i64 y0] rfl
    rw [show Bag.setAll W2 (w.heap.size + 1 + 1 + 1 + 1) 0 [.slice A0 k0.length cA0, .int .i64 s0, .int .i64 c0, .int .i64 n0, .int .u64 e0, .int .u64 f0, .int .i64 x0, .int .i64 y0] = U3 from hU] at h0
    simp only [List.set_cons_zero, List.set_cons_succ] at h0
    clear HB
    have HB := Lib.hid h0
    clear h0
    clear hU
    generalize hU : ((((((((U3.setCell ⟨w.heap.size + 1 + 1, 0, none⟩ (.slice A0 k0.length cA0)).setCell ⟨w.heap.size + 1 + 1, 1, none⟩ (.int .i64 s0)).setCell ⟨w.heap.size + 1 + 1, 2, none⟩ (.int .i64 c0)).setCell ⟨w.heap.size + 1 + 1, 3, none⟩ (.int .i64 n0)).setCell ⟨w.heap.size + 1 + 1, 4, none⟩ (.int .u64 e0)).setCell ⟨w.heap.size + 1 + 1, 5, none⟩ (.int .u64 f0)).setCell ⟨w.heap.size + 1 + 1, 6, none⟩ (.int .i64 x0)).setCell ⟨w.heap.size + 1 + 1, 7, none⟩ (.int .i64 y0)) = U4
    have h0 := HB.out.store 3 rfl [.slice A0 k0.length cA0, .int .i64 s0, .int .i64 c0, .int .i64 n0, .int .u64 e0, .int .u64 f0, .int .i64 x0, .int .i64 y0] rfl
    rw [show Bag.setAll U3 (w.heap.size + 1 + 1) 0 [.slice A0 k0.length cA0, .int .i64 s0, .int .i64 c0, .int .i64 n0, .int .u64 e0, .int .u64 f0, .int .i64 x0, .int .i64 y0] = U4 from hU] at h0
    simp only [List.set_cons_zero, List.set_cons_succ] at h0
    clear HB
    have HB := Lib.hid h0
    clear h0
    clear hU
    obtain ⟨qr_0, qr_1, qr_2, qr_3, qr_4, qr_5, qr_6, qr_7, qr_f⟩ := cells8 (HB.out.box 3 rfl)
    have qr_l := HB.out.boxLt 3 rfl
    refine bodyPost_ret (v := .tuple #[.agg #[.slice A0 k0.length cA0, .int .i64 s0, .int .i64 c0, .int .i64 n0, .int .u64 e0, .int .u64 f0, .int .i64 x0, .int .i64 y0], .int .i64 (-1), .int .u64 (0)]) (by simp [results, Try.results37, go_sem, qr_0, qr_1, qr_2, qr_3, qr_4, qr_5, qr_6, qr_7]) rfl ?_
    exact stepR_mk HY.out (by rw [HV.out, HT.out]; rfl) ((HB.out.mineRd 0 rfl)) (fun a h => Or.inr (HB.out.mineFar 0 rfl a h)) HB.out.below
set_option maxRecDepth 100000 in
set_option maxHeartbeats 4000000 in
theorem lawNext_2 (L : Ln) (ao : Option Addr) (cap : Nat) (g b c at1 ss sn : Int) (w : World) (hf : L.fits) (hr : Rd w ao L.key) (_hc0 : 0 ≤ c) (_hc1 : c ≤ 18446744073709551615) (_ha0 : 0 ≤ at1) (_ha1 : at1 ≤ 18446744073709551615) (_hss : ss ≤ 9223372036854775807) : Calls Try.prog 37 #[L.val ao cap, .agg #[.int .i64 2, .int .i64 g, .int .i64 b, .int .u64 c, .int .u64 at1, .int .i64 ss, .int .i64 sn]] w (StepR w ao (stepL L ⟨2, g, b, c, at1, ss, sn⟩) [.int .i64 (givenL L ⟨2, g, b, c, at1, ss, sn⟩), .int .u64 (atL L ⟨2, g, b, c, at1, ss, sn⟩)]) := by
  obtain ⟨gv, hgv⟩ : ∃ x, givenL L ⟨2, g, b, c, at1, ss, sn⟩ = x := ⟨_, rfl⟩
  obtain ⟨av, hav⟩ : ∃ x, atL L ⟨2, g, b, c, at1, ss, sn⟩ = x := ⟨_, rfl⟩
  rw [hgv, hav]
  obtain ⟨N, hN⟩ : ∃ N, reserveL L (Ask.usum L.send at1) b = N := ⟨_, rfl⟩
  have hst : stepL L ⟨2, g, b, c, at1, ss, sn⟩ = if N.cur = 0 then L else N := by rw [← hN]; rfl
  rw [hst]
  have hkn : N.key.length ≤ 281474976710656 := by rw [← hN]; exact keys_le (by have := hf.len; omega)
  obtain ⟨z, hz⟩ : ∃ z, (if N.cur = 0 then L else N) = z := ⟨_, rfl⟩
  rw [hz]
  have hu := usum_bd L.send at1
  have hux : Ask.usum L.send at1 = IntKind.u64.wrap (L.send + at1) := rfl
  have HV := Lib.hid (show gv = -1 by rw [← hgv]; unfold givenL; rw [if_neg (by simp)])
  have HT := Lib.hid (show av = 0 by rw [← hav]; unfold atL; rw [if_neg (by simp)])
  clear hgv hav
  obtain ⟨k0, s0, c0, n0, e0, f0, x0, y0⟩ := N
  simp only at hkn hz
  have HF := Lib.hid hf
  clear hst
  obtain ⟨key, side, cur, next, send, ceil, sec, nano⟩ := L
  unfold Ln.val
  obtain ⟨hl, hcur0, hcur1, hnext0, hnext1, hsend0, hsend1, hceil0, hceil1, hs⟩ := hf
  simp only at hl hr hcur0 hcur1 hnext0 hnext1 hsend0 hsend1 hceil0 hceil1 hs hu hux ⊢
  obtain ⟨ax, hax⟩ : ∃ x, Ask.usum send at1 = x := ⟨_, rfl⟩
  simp only [hax] at hu hux hN
  have HX := Lib.hid hux
  clear hux hax
  have HN := Lib.hid hN
  have HZ := Lib.hid hz
  clear hN hz
  go_enter Try.func37, Try.ntmps37
  go_wp2_with fail
  generalize hU : (((((w.alloc (.cells #[.slice ao key.length cap, .int .i64 side, .int .i64 cur, .int .i64 next, .int .u64 send, .int .u64 ceil, .int .i64 sec, .int .i64 nano] 27 (0, 0))).alloc (.cells #[.int .i64 2, .int .i64 g, .int .i64 b, .int .u64 c, .int .u64 at1, .int .i64 ss, .int .i64 sn] 57 (0, 0))).alloc (.cells #[.slice none 0 0, .int .i64 0, .int .i64 0, .int .i64 0, .int .u64 0, .int .u64 0, .int .i64 0, .int .i64 0] 27 (0, 0))).alloc (.cells #[.int .i64 g, .int .i64 b, .int .u64 c, .int .u64 at1, .int .i64 ss, .int .i64 sn] 37 (0, 0))).alloc (.cells #[.slice none 0 0, .int .i64 0, .int .i64 0, .int .i64 0, .int .u64 0, .int .u64 0, .int .i64 0, .int .i64 0] 27 (0, 0))) = U1
  have h0 := (((((Bag.start w).allocAt #[.slice ao key.length cap, .int .i64 side, .int .i64 cur, .int .i64 next, .int .u64 send, .int .u64 ceil, .int .i64 sec, .int .i64 nano] 27 (w.heap.size) rfl).allocAt #[.int .i64 2, .int .i64 g, .int .i64 b, .int .u64 c, .int .u64 at1, .int .i64 ss, .int .i64 sn] 57 (w.heap.size + 1) (by simp only [alloc_size])).allocAt #[.slice none 0 0, .int .i64 0, .int .i64 0, .int .i64 0, .int .u64 0, .int .u64 0, .int .i64 0, .int .i64 0] 27 (w.heap.size + 1 + 1) (by simp only [alloc_size])).allocAt #[.int .i64 g, .int .i64 b, .int .u64 c, .int .u64 at1, .int .i64 ss, .int .i64 sn] 37 (w.heap.size + 1 + 1 + 1) (by simp only [alloc_size])).allocAt #[.slice none 0 0, .int .i64 0, .int .i64 0, .int .i64 0, .int .u64 0, .int .u64 0, .int .i64 0, .int .i64 0] 27 (w.heap.size + 1 + 1 + 1 + 1) (by simp only [alloc_size])
  rw [hU] at h0
  have HB := Lib.hid h0
  clear h0 hU
  rw [← HX.out]
  refine (laneReserve ⟨key, side, cur, next, send, ceil, sec, nano⟩ ao cap ax b hu.1 hu.2 _ HF.out (hr.on HB.out.below)).mono ?_
  rintro e W2 ⟨A0, cA0, he, Mx, hb⟩
  rw [HN.out] at he Mx
  obtain rfl : e = .returned ((.agg #[.slice A0 k0.length cA0, .int .i64 s0, .int .i64 c0, .int .i64 n0, .int .u64 e0, .int .u64 f0, .int .i64 x0, .int .i64 y0])) := he
  have h0 := HB.out.mine hb Mx
  clear HB
  have HB := Lib.hid h0
  clear h0
  clear Mx
  clear hb
  obtain ⟨qL_0, qL_1, qL_2, qL_3, qL_4, qL_5, qL_6, qL_7, qL_f⟩ := cells8 (HB.out.box 5 rfl)
  have qL_l := HB.out.boxLt 5 rfl
  obtain ⟨qz_0, qz_1, qz_2, qz_3, qz_4, qz_5, qz_6, qz_7, qz_f⟩ := cells8 (HB.out.box 1 rfl)
  have qz_l := HB.out.boxLt 1 rfl
  have nz_L := HB.out.boxNe 1 5 rfl rfl (by decide)
  by_cases hz : c0 = 0
  · have HC := Lib.hid hz
    have HY := Lib.hid (HZ.out.symm.trans (if_pos hz))
    have hz1 : (c0 == 0) = true := by rw [beq_iff_eq]; exact hz
    clear hz
    obtain ⟨qr_0, qr_1, qr_2, qr_3, qr_4, qr_5, qr_6, qr_7, qr_f⟩ := cells8 (HB.out.box 3 rfl)
    have qr_l := HB.out.boxLt 3 rfl
    have nr_1 := HB.out.boxNe 3 5 rfl rfl (by decide)
    have nr_2 := HB.out.boxNe 3 1 rfl rfl (by decide)
    go_wp2_with fail
    generalize hU : ((((((((W2.setCell ⟨w.heap.size + 1 + 1 + 1 + 1, 0, none⟩ (.slice A0 k0.length cA0)).setCell ⟨w.heap.size + 1 + 1 + 1 + 1, 1, none⟩ (.int .i64 s0)).setCell ⟨w.heap.size + 1 + 1 + 1 + 1, 2, none⟩ (.int .i64 c0)).setCell ⟨w.heap.size + 1 + 1 + 1 + 1, 3, none⟩ (.int .i64 n0)).setCell ⟨w.heap.size + 1 + 1 + 1 + 1, 4, none⟩ (.int .u64 e0)).setCell ⟨w.heap.size + 1 + 1 + 1 + 1, 5, none⟩ (.int .u64 f0)).setCell ⟨w.heap.size + 1 + 1 + 1 + 1, 6, none⟩ (.int .i64 x0)).setCell ⟨w.heap.size + 1 + 1 + 1 + 1, 7, none⟩ (.int .i64 y0)) = U3
    clear qL_0 qL_1 qL_2 qL_3 qL_4 qL_5 qL_6 qL_7 qL_f qL_l qz_0 qz_1 qz_2 qz_3 qz_4 qz_5 qz_6 qz_7 qz_f qz_l nz_L qr_0 qr_1 qr_2 qr_3 qr_4 qr_5 qr_6 qr_7 qr_f qr_l nr_1 nr_2
    have h0 := HB.out.store 1 rfl [.slice A0 k0.length cA0, .int .i64 s0, .int .i64 c0, .int .i64 n0, .int .u64 e0, .int .u64 f0, .int .i64 x0, .int .i64 y0] rfl
    rw [show Bag.setAll W2 (w.heap.size + 1 + 1 + 1 + 1) 0 [.slice A0 k0.length cA0, .int .i64 s0, .int .i64 c0, .int .i64 n0, .int .u64 e0, .int .u64 f0, .int .i64 x0, .int .i64 y0] = U3 from hU] at h0
    simp only [List.set_cons_zero, List.set_cons_succ] at h0
    clear HB
    have HB := Lib.hid h0
    clear h0
    clear hU
    generalize hU : ((((((((U3.setCell ⟨w.heap.size + 1 + 1, 0, none⟩ (.slice ao key.length cap)).setCell ⟨w.heap.size + 1 + 1, 1, none⟩ (.int .i64 side)).setCell ⟨w.heap.size + 1 + 1, 2, none⟩ (.int .i64 cur)).setCell ⟨w.heap.size + 1 + 1, 3, none⟩ (.int .i64 next)).setCell ⟨w.heap.size + 1 + 1, 4, none⟩ (.int .u64 send)).setCell ⟨w.heap.size + 1 + 1, 5, none⟩ (.int .u64 ceil)).setCell ⟨w.heap.size + 1 + 1, 6, none⟩ (.int .i64 sec)).setCell ⟨w.heap.size + 1 + 1, 7, none⟩ (.int .i64 nano)) = U4
    have h0 := HB.out.store 3 rfl [.slice ao key.length cap, .int .i64 side, .int .i64 cur, .int .i64 next, .int .u64 send, .int .u64 ceil, .int .i64 sec, .int .i64 nano] rfl
    rw [show Bag.setAll U3 (w.heap.size + 1 + 1) 0 [.slice ao key.length cap, .int .i64 side, .int .i64 cur, .int .i64 next, .int .u64 send, .int .u64 ceil, .int .i64 sec, .int .i64 nano] = U4 from hU] at h0
    simp only [List.set_cons_zero, List.set_cons_succ] at h0
    clear HB
    have HB := Lib.hid h0
    clear h0
    clear hU
    obtain ⟨qr_0, qr_1, qr_2, qr_3, qr_4, qr_5, qr_6, qr_7, qr_f⟩ := cells8 (HB.out.box 3 rfl)
    have qr_l := HB.out.boxLt 3 rfl
    refine bodyPost_ret (v := .tuple #[.agg #[.slice ao key.length cap, .int .i64 side, .int .i64 cur, .int .i64 next, .int .u64 send, .int .u64 ceil, .int .i64 sec, .int .i64 nano], .int .i64 (-1), .int .u64 (0)]) (by simp [results, Try.results37, go_sem, qr_0, qr_1, qr_2, qr_3, qr_4, qr_5, qr_6, qr_7]) rfl ?_
    exact stepR_mk HY.out (by rw [HV.out, HT.out]; rfl) (hr.on HB.out.below) (fun _ h => Or.inl h.symm) HB.out.below
  · have HY := Lib.hid (HZ.out.symm.trans (if_neg hz))
    have hz1 : (c0 == 0) = false := by rw [beq_eq_false_iff_ne]; exact hz
    clear hz
    obtain ⟨qr_0, qr_1, qr_2, qr_3, qr_4, qr_5, qr_6, qr_7, qr_f⟩ := cells8 (HB.out.box 3 rfl)
    have qr_l := HB.out.boxLt 3 rfl
    have nr_1 := HB.out.boxNe 3 5 rfl rfl (by decide)
    have nr_2 := HB.out.boxNe 3 1 rfl rfl (by decide)
    go_wp2_with fail
    generalize hU : ((((((((W2.setCell ⟨w.heap.size + 1 + 1 + 1 + 1, 0, none⟩ (.slice A0 k0.length cA0)).setCell ⟨w.heap.size + 1 + 1 + 1 + 1, 1, none⟩ (.int .i64 s0)).setCell ⟨w.heap.size + 1 + 1 + 1 + 1, 2, none⟩ (.int .i64 c0)).setCell ⟨w.heap.size + 1 + 1 + 1 + 1, 3, none⟩ (.int .i64 n0)).setCell ⟨w.heap.size + 1 + 1 + 1 + 1, 4, none⟩ (.int .u64 e0)).setCell ⟨w.heap.size + 1 + 1 + 1 + 1, 5, none⟩ (.int .u64 f0)).setCell ⟨w.heap.size + 1 + 1 + 1 + 1, 6, none⟩ (.int .i64 x0)).setCell ⟨w.heap.size + 1 + 1 + 1 + 1, 7, none⟩ (.int .i64 y0)) = U3
    clear qL_0 qL_1 qL_2 qL_3 qL_4 qL_5 qL_6 qL_7 qL_f qL_l qz_0 qz_1 qz_2 qz_3 qz_4 qz_5 qz_6 qz_7 qz_f qz_l nz_L qr_0 qr_1 qr_2 qr_3 qr_4 qr_5 qr_6 qr_7 qr_f qr_l nr_1 nr_2
    have h0 := HB.out.store 1 rfl [.slice A0 k0.length cA0, .int .i64 s0, .int .i64 c0, .int .i64 n0, .int .u64 e0, .int .u64 f0, .int .i64 x0, .int .i64 y0] rfl
    rw [show Bag.setAll W2 (w.heap.size + 1 + 1 + 1 + 1) 0 [.slice A0 k0.length cA0, .int .i64 s0, .int .i64 c0, .int .i64 n0, .int .u64 e0, .int .u64 f0, .int .i64 x0, .int .i64 y0] = U3 from hU] at h0
    simp only [List.set_cons_zero, List.set_cons_succ] at h0
    clear HB
    have HB := Lib.hid h0
    clear h0
    clear hU
    generalize hU : ((((((((U3.setCell ⟨w.heap.size + 1 + 1, 0, none⟩ (.slice A0 k0.length cA0)).setCell ⟨w.heap.size + 1 + 1, 1, none⟩ (.int .i64 s0)).setCell ⟨w.heap.size + 1 + 1, 2, none⟩ (.int .i64 c0)).setCell ⟨w.heap.size + 1 + 1, 3, none⟩ (.int .i64 n0)).setCell ⟨w.heap.size + 1 + 1, 4, none⟩ (.int .u64 e0)).setCell ⟨w.heap.size + 1 + 1, 5, none⟩ (.int .u64 f0)).setCell ⟨w.heap.size + 1 + 1, 6, none⟩ (.int .i64 x0)).setCell ⟨w.heap.size + 1 + 1, 7, none⟩ (.int .i64 y0)) = U4
    have h0 := HB.out.store 3 rfl [.slice A0 k0.length cA0, .int .i64 s0, .int .i64 c0, .int .i64 n0, .int .u64 e0, .int .u64 f0, .int .i64 x0, .int .i64 y0] rfl
    rw [show Bag.setAll U3 (w.heap.size + 1 + 1) 0 [.slice A0 k0.length cA0, .int .i64 s0, .int .i64 c0, .int .i64 n0, .int .u64 e0, .int .u64 f0, .int .i64 x0, .int .i64 y0] = U4 from hU] at h0
    simp only [List.set_cons_zero, List.set_cons_succ] at h0
    clear HB
    have HB := Lib.hid h0
    clear h0
    clear hU
    obtain ⟨qr_0, qr_1, qr_2, qr_3, qr_4, qr_5, qr_6, qr_7, qr_f⟩ := cells8 (HB.out.box 3 rfl)
    have qr_l := HB.out.boxLt 3 rfl
    refine bodyPost_ret (v := .tuple #[.agg #[.slice A0 k0.length cA0, .int .i64 s0, .int .i64 c0, .int .i64 n0, .int .u64 e0, .int .u64 f0, .int .i64 x0, .int .i64 y0], .int .i64 (-1), .int .u64 (0)]) (by simp [results, Try.results37, go_sem, qr_0, qr_1, qr_2, qr_3, qr_4, qr_5, qr_6, qr_7]) rfl ?_
    exact stepR_mk HY.out (by rw [HV.out, HT.out]; rfl) ((HB.out.mineRd 0 rfl)) (fun a h => Or.inr (HB.out.mineFar 0 rfl a h)) HB.out.below
set_option maxRecDepth 100000 in
set_option maxHeartbeats 4000000 in
theorem lawNext_3 (L : Ln) (ao : Option Addr) (cap : Nat) (g b c at1 ss sn : Int) (w : World) (hf : L.fits) (hr : Rd w ao L.key) (_hc0 : 0 ≤ c) (_hc1 : c ≤ 18446744073709551615) (_ha0 : 0 ≤ at1) (_ha1 : at1 ≤ 18446744073709551615) (_hss : ss ≤ 9223372036854775807) : Calls Try.prog 37 #[L.val ao cap, .agg #[.int .i64 3, .int .i64 g, .int .i64 b, .int .u64 c, .int .u64 at1, .int .i64 ss, .int .i64 sn]] w (StepR w ao (stepL L ⟨3, g, b, c, at1, ss, sn⟩) [.int .i64 (givenL L ⟨3, g, b, c, at1, ss, sn⟩), .int .u64 (atL L ⟨3, g, b, c, at1, ss, sn⟩)]) := by
  obtain ⟨gv, hgv⟩ : ∃ x, givenL L ⟨3, g, b, c, at1, ss, sn⟩ = x := ⟨_, rfl⟩
  obtain ⟨av, hav⟩ : ∃ x, atL L ⟨3, g, b, c, at1, ss, sn⟩ = x := ⟨_, rfl⟩
  rw [hgv, hav]
  obtain ⟨N, hN⟩ : ∃ N, proposeL L = N := ⟨_, rfl⟩
  have hst : stepL L ⟨3, g, b, c, at1, ss, sn⟩ = if N.cur = 0 then L else N := by rw [← hN]; rfl
  rw [hst]
  have hkn : N.key.length ≤ 281474976710656 := by rw [← hN]; exact keys_le (by have := hf.len; omega)
  obtain ⟨z, hz⟩ : ∃ z, (if N.cur = 0 then L else N) = z := ⟨_, rfl⟩
  rw [hz]
  obtain ⟨ng, hng⟩ : ∃ x, nextG L = x := ⟨_, rfl⟩
  obtain ⟨ne, hne⟩ : ∃ x, nextE L = x := ⟨_, rfl⟩
  have HV := Lib.hid (show gv = if ne = 0 then ng else -1 by rw [← hgv, ← hne, ← hng]; unfold givenL; rw [if_pos rfl])
  have HT := Lib.hid (show av = 0 by rw [← hav]; unfold atL; rw [if_neg (by simp)])
  have HP := Lib.hid (show ne = 0 → N.cur ≠ 0 by intro h; rw [← hN]; exact prop_zero (by rw [hne]; exact h))
  have HQ := Lib.hid (show ne ≠ 0 → N = Ln.zero by intro h; rw [← hN]; exact prop_none (by rw [hne]; exact h))
  clear hgv hav
  obtain ⟨k0, s0, c0, n0, e0, f0, x0, y0⟩ := N
  simp only at hkn hz
  have HF := Lib.hid hf
  clear hst
  obtain ⟨key, side, cur, next, send, ceil, sec, nano⟩ := L
  unfold Ln.val
  obtain ⟨hl, hcur0, hcur1, hnext0, hnext1, hsend0, hsend1, hceil0, hceil1, hs⟩ := hf
  simp only at hl hr hcur0 hcur1 hnext0 hnext1 hsend0 hsend1 hceil0 hceil1 hs ⊢
  have HN := Lib.hid hN
  have HZ := Lib.hid hz
  have HG := Lib.hid hng
  have HE := Lib.hid hne
  clear hN hz hng hne
  go_enter Try.func37, Try.ntmps37
  go_wp2_with fail
  generalize hU : (((((w.alloc (.cells #[.slice ao key.length cap, .int .i64 side, .int .i64 cur, .int .i64 next, .int .u64 send, .int .u64 ceil, .int .i64 sec, .int .i64 nano] 27 (0, 0))).alloc (.cells #[.int .i64 3, .int .i64 g, .int .i64 b, .int .u64 c, .int .u64 at1, .int .i64 ss, .int .i64 sn] 57 (0, 0))).alloc (.cells #[.slice none 0 0, .int .i64 0, .int .i64 0, .int .i64 0, .int .u64 0, .int .u64 0, .int .i64 0, .int .i64 0] 27 (0, 0))).alloc (.cells #[.int .i64 g, .int .i64 b, .int .u64 c, .int .u64 at1, .int .i64 ss, .int .i64 sn] 37 (0, 0))).alloc (.cells #[.slice none 0 0, .int .i64 0, .int .i64 0, .int .i64 0, .int .u64 0, .int .u64 0, .int .i64 0, .int .i64 0] 27 (0, 0))) = U1
  have h0 := (((((Bag.start w).allocAt #[.slice ao key.length cap, .int .i64 side, .int .i64 cur, .int .i64 next, .int .u64 send, .int .u64 ceil, .int .i64 sec, .int .i64 nano] 27 (w.heap.size) rfl).allocAt #[.int .i64 3, .int .i64 g, .int .i64 b, .int .u64 c, .int .u64 at1, .int .i64 ss, .int .i64 sn] 57 (w.heap.size + 1) (by simp only [alloc_size])).allocAt #[.slice none 0 0, .int .i64 0, .int .i64 0, .int .i64 0, .int .u64 0, .int .u64 0, .int .i64 0, .int .i64 0] 27 (w.heap.size + 1 + 1) (by simp only [alloc_size])).allocAt #[.int .i64 g, .int .i64 b, .int .u64 c, .int .u64 at1, .int .i64 ss, .int .i64 sn] 37 (w.heap.size + 1 + 1 + 1) (by simp only [alloc_size])).allocAt #[.slice none 0 0, .int .i64 0, .int .i64 0, .int .i64 0, .int .u64 0, .int .u64 0, .int .i64 0, .int .i64 0] 27 (w.heap.size + 1 + 1 + 1 + 1) (by simp only [alloc_size])
  rw [hU] at h0
  have HB := Lib.hid h0
  clear h0 hU
  refine (lanePropose ⟨key, side, cur, next, send, ceil, sec, nano⟩ ao cap _ HF.out (hr.on HB.out.below)).mono ?_
  rintro e W2 ⟨A0, cA0, he, Mx, hb⟩
  rw [HN.out] at he Mx
  rw [HG.out, HE.out] at he
  obtain rfl : e = .returned (.tuple #[(.agg #[.slice A0 k0.length cA0, .int .i64 s0, .int .i64 c0, .int .i64 n0, .int .u64 e0, .int .u64 f0, .int .i64 x0, .int .i64 y0]), .int .i64 ng, .int .i64 ne]) := he
  have h0 := HB.out.mine hb Mx
  clear HB
  have HB := Lib.hid h0
  clear h0
  clear Mx
  clear hb
  by_cases hc : ne = 0
  · have HC := Lib.hid hc
    have HY := Lib.hid (HZ.out.symm.trans (if_neg (HP.out hc)))
    have hz1 : (c0 == 0) = false := by rw [beq_eq_false_iff_ne]; exact HP.out hc
    have i1 : (ne == 0) = true := by rw [beq_iff_eq]; exact hc
    clear hc
    obtain ⟨qr_0, qr_1, qr_2, qr_3, qr_4, qr_5, qr_6, qr_7, qr_f⟩ := cells8 (HB.out.box 3 rfl)
    have qr_l := HB.out.boxLt 3 rfl
    obtain ⟨qz_0, qz_1, qz_2, qz_3, qz_4, qz_5, qz_6, qz_7, qz_f⟩ := cells8 (HB.out.box 1 rfl)
    have qz_l := HB.out.boxLt 1 rfl
    have nz_r := HB.out.boxNe 1 3 rfl rfl (by decide)
    go_wp2_with (go_at_call 27; refine (numOf _ _).mono ?_; rintro e w' ⟨rfl, hw⟩; obtain rfl := hw.symm; clear hw)
    generalize hU : ((((((((W2.setCell ⟨w.heap.size + 1 + 1 + 1 + 1, 0, none⟩ (.slice A0 k0.length cA0)).setCell ⟨w.heap.size + 1 + 1 + 1 + 1, 1, none⟩ (.int .i64 s0)).setCell ⟨w.heap.size + 1 + 1 + 1 + 1, 2, none⟩ (.int .i64 c0)).setCell ⟨w.heap.size + 1 + 1 + 1 + 1, 3, none⟩ (.int .i64 n0)).setCell ⟨w.heap.size + 1 + 1 + 1 + 1, 4, none⟩ (.int .u64 e0)).setCell ⟨w.heap.size + 1 + 1 + 1 + 1, 5, none⟩ (.int .u64 f0)).setCell ⟨w.heap.size + 1 + 1 + 1 + 1, 6, none⟩ (.int .i64 x0)).setCell ⟨w.heap.size + 1 + 1 + 1 + 1, 7, none⟩ (.int .i64 y0)) = U3
    clear qr_0 qr_1 qr_2 qr_3 qr_4 qr_5 qr_6 qr_7 qr_f qr_l qz_0 qz_1 qz_2 qz_3 qz_4 qz_5 qz_6 qz_7 qz_f qz_l nz_r
    have h0 := HB.out.store 1 rfl [.slice A0 k0.length cA0, .int .i64 s0, .int .i64 c0, .int .i64 n0, .int .u64 e0, .int .u64 f0, .int .i64 x0, .int .i64 y0] rfl
    rw [show Bag.setAll W2 (w.heap.size + 1 + 1 + 1 + 1) 0 [.slice A0 k0.length cA0, .int .i64 s0, .int .i64 c0, .int .i64 n0, .int .u64 e0, .int .u64 f0, .int .i64 x0, .int .i64 y0] = U3 from hU] at h0
    simp only [List.set_cons_zero, List.set_cons_succ] at h0
    clear HB
    have HB := Lib.hid h0
    clear h0
    clear hU
    generalize hU : ((((((((U3.setCell ⟨w.heap.size + 1 + 1, 0, none⟩ (.slice A0 k0.length cA0)).setCell ⟨w.heap.size + 1 + 1, 1, none⟩ (.int .i64 s0)).setCell ⟨w.heap.size + 1 + 1, 2, none⟩ (.int .i64 c0)).setCell ⟨w.heap.size + 1 + 1, 3, none⟩ (.int .i64 n0)).setCell ⟨w.heap.size + 1 + 1, 4, none⟩ (.int .u64 e0)).setCell ⟨w.heap.size + 1 + 1, 5, none⟩ (.int .u64 f0)).setCell ⟨w.heap.size + 1 + 1, 6, none⟩ (.int .i64 x0)).setCell ⟨w.heap.size + 1 + 1, 7, none⟩ (.int .i64 y0)) = U4
    have h0 := HB.out.store 3 rfl [.slice A0 k0.length cA0, .int .i64 s0, .int .i64 c0, .int .i64 n0, .int .u64 e0, .int .u64 f0, .int .i64 x0, .int .i64 y0] rfl
    rw [show Bag.setAll U3 (w.heap.size + 1 + 1) 0 [.slice A0 k0.length cA0, .int .i64 s0, .int .i64 c0, .int .i64 n0, .int .u64 e0, .int .u64 f0, .int .i64 x0, .int .i64 y0] = U4 from hU] at h0
    simp only [List.set_cons_zero, List.set_cons_succ] at h0
    clear HB
    have HB := Lib.hid h0
    clear h0
    clear hU
    generalize hU : U4.alloc (.cells #[.slice A0 k0.length cA0, .int .i64 s0, .int .i64 c0, .int .i64 n0, .int .u64 e0, .int .u64 f0, .int .i64 x0, .int .i64 y0] 27 (0, 0)) = U5
    have h0 := HB.out.call (fresh1 U4 (.cells #[.slice A0 k0.length cA0, .int .i64 s0, .int .i64 c0, .int .i64 n0, .int .u64 e0, .int .u64 f0, .int .i64 x0, .int .i64 y0] 27 (0, 0)))
    rw [hU] at h0
    clear HB
    have HB := Lib.hid h0
    clear h0
    clear hU
    obtain ⟨qr_0, qr_1, qr_2, qr_3, qr_4, qr_5, qr_6, qr_7, qr_f⟩ := cells8 (HB.out.box 3 rfl)
    have qr_l := HB.out.boxLt 3 rfl
    refine bodyPost_ret (v := .tuple #[.agg #[.slice A0 k0.length cA0, .int .i64 s0, .int .i64 c0, .int .i64 n0, .int .u64 e0, .int .u64 f0, .int .i64 x0, .int .i64 y0], .int .i64 (ng), .int .u64 (0)]) (by simp [results, Try.results37, go_sem, qr_0, qr_1, qr_2, qr_3, qr_4, qr_5, qr_6, qr_7]) rfl ?_
    exact stepR_mk HY.out (by rw [HV.out, HT.out]; rw [if_pos HC.out]; rfl) ((HB.out.mineRd 0 rfl)) (fun a h => Or.inr (HB.out.mineFar 0 rfl a h)) HB.out.below
  · have HC := Lib.hid hc
    have HY := Lib.hid (HZ.out.symm.trans (if_pos (congrArg Ln.cur (HQ.out hc) : c0 = 0)))
    have i1 : (ne == 0) = false := by rw [beq_eq_false_iff_ne]; exact hc
    clear hc
    obtain ⟨qr_0, qr_1, qr_2, qr_3, qr_4, qr_5, qr_6, qr_7, qr_f⟩ := cells8 (HB.out.box 3 rfl)
    have qr_l := HB.out.boxLt 3 rfl
    obtain ⟨qz_0, qz_1, qz_2, qz_3, qz_4, qz_5, qz_6, qz_7, qz_f⟩ := cells8 (HB.out.box 1 rfl)
    have qz_l := HB.out.boxLt 1 rfl
    obtain ⟨qL_0, qL_1, qL_2, qL_3, qL_4, qL_5, qL_6, qL_7, qL_f⟩ := cells8 (HB.out.box 5 rfl)
    have qL_l := HB.out.boxLt 5 rfl
    have nz_r := HB.out.boxNe 1 3 rfl rfl (by decide)
    have nL_r := HB.out.boxNe 5 3 rfl rfl (by decide)
    have nL_z := HB.out.boxNe 5 1 rfl rfl (by decide)
    go_wp2_with (go_at_call 27; refine (numOf _ _).mono ?_; rintro e w' ⟨rfl, hw⟩; obtain rfl := hw.symm; clear hw)
    generalize hU : ((((((((W2.setCell ⟨w.heap.size + 1 + 1, 0, none⟩ (.slice ao key.length cap)).setCell ⟨w.heap.size + 1 + 1, 1, none⟩ (.int .i64 side)).setCell ⟨w.heap.size + 1 + 1, 2, none⟩ (.int .i64 cur)).setCell ⟨w.heap.size + 1 + 1, 3, none⟩ (.int .i64 next)).setCell ⟨w.heap.size + 1 + 1, 4, none⟩ (.int .u64 send)).setCell ⟨w.heap.size + 1 + 1, 5, none⟩ (.int .u64 ceil)).setCell ⟨w.heap.size + 1 + 1, 6, none⟩ (.int .i64 sec)).setCell ⟨w.heap.size + 1 + 1, 7, none⟩ (.int .i64 nano)) = U3
    clear qr_0 qr_1 qr_2 qr_3 qr_4 qr_5 qr_6 qr_7 qr_f qr_l qz_0 qz_1 qz_2 qz_3 qz_4 qz_5 qz_6 qz_7 qz_f qz_l qL_0 qL_1 qL_2 qL_3 qL_4 qL_5 qL_6 qL_7 qL_f qL_l nz_r nL_r nL_z
    have h0 := HB.out.store 3 rfl [.slice ao key.length cap, .int .i64 side, .int .i64 cur, .int .i64 next, .int .u64 send, .int .u64 ceil, .int .i64 sec, .int .i64 nano] rfl
    rw [show Bag.setAll W2 (w.heap.size + 1 + 1) 0 [.slice ao key.length cap, .int .i64 side, .int .i64 cur, .int .i64 next, .int .u64 send, .int .u64 ceil, .int .i64 sec, .int .i64 nano] = U3 from hU] at h0
    simp only [List.set_cons_zero, List.set_cons_succ] at h0
    clear HB
    have HB := Lib.hid h0
    clear h0
    clear hU
    generalize hU : U3.alloc (.cells #[.slice A0 k0.length cA0, .int .i64 s0, .int .i64 c0, .int .i64 n0, .int .u64 e0, .int .u64 f0, .int .i64 x0, .int .i64 y0] 27 (0, 0)) = U4
    have h0 := HB.out.call (fresh1 U3 (.cells #[.slice A0 k0.length cA0, .int .i64 s0, .int .i64 c0, .int .i64 n0, .int .u64 e0, .int .u64 f0, .int .i64 x0, .int .i64 y0] 27 (0, 0)))
    rw [hU] at h0
    clear HB
    have HB := Lib.hid h0
    clear h0
    clear hU
    obtain ⟨qr_0, qr_1, qr_2, qr_3, qr_4, qr_5, qr_6, qr_7, qr_f⟩ := cells8 (HB.out.box 3 rfl)
    have qr_l := HB.out.boxLt 3 rfl
    refine bodyPost_ret (v := .tuple #[.agg #[.slice ao key.length cap, .int .i64 side, .int .i64 cur, .int .i64 next, .int .u64 send, .int .u64 ceil, .int .i64 sec, .int .i64 nano], .int .i64 (-1), .int .u64 (0)]) (by simp [results, Try.results37, go_sem, qr_0, qr_1, qr_2, qr_3, qr_4, qr_5, qr_6, qr_7]) rfl ?_
    exact stepR_mk HY.out (by rw [HV.out, HT.out]; rw [if_neg HC.out]; rfl) (hr.on HB.out.below) (fun _ h => Or.inl h.symm) HB.out.below
set_option maxRecDepth 100000 in
set_option maxHeartbeats 4000000 in
theorem lawNext_4 (L : Ln) (ao : Option Addr) (cap : Nat) (g b c at1 ss sn : Int) (w : World) (hf : L.fits) (hr : Rd w ao L.key) (hc0 : 0 ≤ c) (hc1 : c ≤ 18446744073709551615) (_ha0 : 0 ≤ at1) (_ha1 : at1 ≤ 18446744073709551615) (hss : ss ≤ 9223372036854775807) : Calls Try.prog 37 #[L.val ao cap, .agg #[.int .i64 4, .int .i64 g, .int .i64 b, .int .u64 c, .int .u64 at1, .int .i64 ss, .int .i64 sn]] w (StepR w ao (stepL L ⟨4, g, b, c, at1, ss, sn⟩) [.int .i64 (givenL L ⟨4, g, b, c, at1, ss, sn⟩), .int .u64 (atL L ⟨4, g, b, c, at1, ss, sn⟩)]) := by
  obtain ⟨gv, hgv⟩ : ∃ x, givenL L ⟨4, g, b, c, at1, ss, sn⟩ = x := ⟨_, rfl⟩
  obtain ⟨av, hav⟩ : ∃ x, atL L ⟨4, g, b, c, at1, ss, sn⟩ = x := ⟨_, rfl⟩
  rw [hgv, hav]
  obtain ⟨N, hN⟩ : ∃ N, answeredL L (Ask.sum ⟨4, g, b, c, at1, ss, sn⟩ L.cur) c ss sn b = N := ⟨_, rfl⟩
  have hst : stepL L ⟨4, g, b, c, at1, ss, sn⟩ = if N.cur = 0 then L else N := by rw [← hN]; rfl
  rw [hst]
  have hkn : N.key.length ≤ 281474976710656 := by rw [← hN]; exact keys_le (by have := hf.len; omega)
  obtain ⟨z, hz⟩ : ∃ z, (if N.cur = 0 then L else N) = z := ⟨_, rfl⟩
  rw [hz]
  obtain ⟨aa, haa⟩ : ∃ x, atA L (Ask.sum ⟨4, g, b, c, at1, ss, sn⟩ L.cur) c ss sn b = x := ⟨_, rfl⟩
  have hux : Ask.sum ⟨4, g, b, c, at1, ss, sn⟩ L.cur = wrap64 (L.cur + g) := rfl
  have HV := Lib.hid (show gv = -1 by rw [← hgv]; unfold givenL; rw [if_neg (by simp)])
  have HT := Lib.hid (show av = aa by rw [← hav, ← haa]; unfold atL; rw [if_pos rfl])
  have HT0 := Lib.hid (show N.cur = 0 → aa = 0 by intro h; rw [← haa]; exact atA_zero (by rw [hN]; exact h))
  clear hgv hav
  obtain ⟨k0, s0, c0, n0, e0, f0, x0, y0⟩ := N
  simp only at hkn hz
  have HF := Lib.hid hf
  clear hst
  obtain ⟨key, side, cur, next, send, ceil, sec, nano⟩ := L
  unfold Ln.val
  obtain ⟨hl, hcur0, hcur1, hnext0, hnext1, hsend0, hsend1, hceil0, hceil1, hs⟩ := hf
  simp only at hl hr hcur0 hcur1 hnext0 hnext1 hsend0 hsend1 hceil0 hceil1 hs hux ⊢
  obtain ⟨gx, hgx⟩ : ∃ x, Ask.sum ⟨4, g, b, c, at1, ss, sn⟩ cur = x := ⟨_, rfl⟩
  simp only [hgx] at hux hN haa
  have HX := Lib.hid hux
  clear hux hgx
  have HN := Lib.hid hN
  have HZ := Lib.hid hz
  have HA := Lib.hid haa
  clear hN hz haa
  go_enter Try.func37, Try.ntmps37
  go_wp2_with fail
  generalize hU : (((((w.alloc (.cells #[.slice ao key.length cap, .int .i64 side, .int .i64 cur, .int .i64 next, .int .u64 send, .int .u64 ceil, .int .i64 sec, .int .i64 nano] 27 (0, 0))).alloc (.cells #[.int .i64 4, .int .i64 g, .int .i64 b, .int .u64 c, .int .u64 at1, .int .i64 ss, .int .i64 sn] 57 (0, 0))).alloc (.cells #[.slice none 0 0, .int .i64 0, .int .i64 0, .int .i64 0, .int .u64 0, .int .u64 0, .int .i64 0, .int .i64 0] 27 (0, 0))).alloc (.cells #[.int .i64 g, .int .i64 b, .int .u64 c, .int .u64 at1, .int .i64 ss, .int .i64 sn] 37 (0, 0))).alloc (.cells #[.slice none 0 0, .int .i64 0, .int .i64 0, .int .i64 0, .int .u64 0, .int .u64 0, .int .i64 0, .int .i64 0] 27 (0, 0))) = U1
  have h0 := (((((Bag.start w).allocAt #[.slice ao key.length cap, .int .i64 side, .int .i64 cur, .int .i64 next, .int .u64 send, .int .u64 ceil, .int .i64 sec, .int .i64 nano] 27 (w.heap.size) rfl).allocAt #[.int .i64 4, .int .i64 g, .int .i64 b, .int .u64 c, .int .u64 at1, .int .i64 ss, .int .i64 sn] 57 (w.heap.size + 1) (by simp only [alloc_size])).allocAt #[.slice none 0 0, .int .i64 0, .int .i64 0, .int .i64 0, .int .u64 0, .int .u64 0, .int .i64 0, .int .i64 0] 27 (w.heap.size + 1 + 1) (by simp only [alloc_size])).allocAt #[.int .i64 g, .int .i64 b, .int .u64 c, .int .u64 at1, .int .i64 ss, .int .i64 sn] 37 (w.heap.size + 1 + 1 + 1) (by simp only [alloc_size])).allocAt #[.slice none 0 0, .int .i64 0, .int .i64 0, .int .i64 0, .int .u64 0, .int .u64 0, .int .i64 0, .int .i64 0] 27 (w.heap.size + 1 + 1 + 1 + 1) (by simp only [alloc_size])
  rw [hU] at h0
  have HB := Lib.hid h0
  clear h0 hU
  rw [← HX.out]
  refine (laneAnswered ⟨key, side, cur, next, send, ceil, sec, nano⟩ ao cap gx c ss sn b hc0 hc1 hss _ HF.out (hr.on HB.out.below)).mono ?_
  rintro e W2 ⟨A0, cA0, he, Mx, hb⟩
  rw [HN.out] at he Mx
  rw [HA.out] at he
  obtain rfl : e = .returned (.tuple #[(.agg #[.slice A0 k0.length cA0, .int .i64 s0, .int .i64 c0, .int .i64 n0, .int .u64 e0, .int .u64 f0, .int .i64 x0, .int .i64 y0]), .int .u64 aa]) := he
  have h0 := HB.out.mine hb Mx
  clear HB
  have HB := Lib.hid h0
  clear h0
  clear Mx
  clear hb
  obtain ⟨qL_0, qL_1, qL_2, qL_3, qL_4, qL_5, qL_6, qL_7, qL_f⟩ := cells8 (HB.out.box 5 rfl)
  have qL_l := HB.out.boxLt 5 rfl
  obtain ⟨qz_0, qz_1, qz_2, qz_3, qz_4, qz_5, qz_6, qz_7, qz_f⟩ := cells8 (HB.out.box 1 rfl)
  have qz_l := HB.out.boxLt 1 rfl
  have nz_L := HB.out.boxNe 1 5 rfl rfl (by decide)
  by_cases hz : c0 = 0
  · have HC := Lib.hid hz
    have HY := Lib.hid (HZ.out.symm.trans (if_pos hz))
    have hz1 : (c0 == 0) = true := by rw [beq_iff_eq]; exact hz
    clear hz
    obtain ⟨qr_0, qr_1, qr_2, qr_3, qr_4, qr_5, qr_6, qr_7, qr_f⟩ := cells8 (HB.out.box 3 rfl)
    have qr_l := HB.out.boxLt 3 rfl
    have nr_1 := HB.out.boxNe 3 5 rfl rfl (by decide)
    have nr_2 := HB.out.boxNe 3 1 rfl rfl (by decide)
    go_wp2_with fail
    generalize hU : ((((((((W2.setCell ⟨w.heap.size + 1 + 1 + 1 + 1, 0, none⟩ (.slice A0 k0.length cA0)).setCell ⟨w.heap.size + 1 + 1 + 1 + 1, 1, none⟩ (.int .i64 s0)).setCell ⟨w.heap.size + 1 + 1 + 1 + 1, 2, none⟩ (.int .i64 c0)).setCell ⟨w.heap.size + 1 + 1 + 1 + 1, 3, none⟩ (.int .i64 n0)).setCell ⟨w.heap.size + 1 + 1 + 1 + 1, 4, none⟩ (.int .u64 e0)).setCell ⟨w.heap.size + 1 + 1 + 1 + 1, 5, none⟩ (.int .u64 f0)).setCell ⟨w.heap.size + 1 + 1 + 1 + 1, 6, none⟩ (.int .i64 x0)).setCell ⟨w.heap.size + 1 + 1 + 1 + 1, 7, none⟩ (.int .i64 y0)) = U3
    clear qL_0 qL_1 qL_2 qL_3 qL_4 qL_5 qL_6 qL_7 qL_f qL_l qz_0 qz_1 qz_2 qz_3 qz_4 qz_5 qz_6 qz_7 qz_f qz_l nz_L qr_0 qr_1 qr_2 qr_3 qr_4 qr_5 qr_6 qr_7 qr_f qr_l nr_1 nr_2
    have h0 := HB.out.store 1 rfl [.slice A0 k0.length cA0, .int .i64 s0, .int .i64 c0, .int .i64 n0, .int .u64 e0, .int .u64 f0, .int .i64 x0, .int .i64 y0] rfl
    rw [show Bag.setAll W2 (w.heap.size + 1 + 1 + 1 + 1) 0 [.slice A0 k0.length cA0, .int .i64 s0, .int .i64 c0, .int .i64 n0, .int .u64 e0, .int .u64 f0, .int .i64 x0, .int .i64 y0] = U3 from hU] at h0
    simp only [List.set_cons_zero, List.set_cons_succ] at h0
    clear HB
    have HB := Lib.hid h0
    clear h0
    clear hU
    generalize hU : ((((((((U3.setCell ⟨w.heap.size + 1 + 1, 0, none⟩ (.slice ao key.length cap)).setCell ⟨w.heap.size + 1 + 1, 1, none⟩ (.int .i64 side)).setCell ⟨w.heap.size + 1 + 1, 2, none⟩ (.int .i64 cur)).setCell ⟨w.heap.size + 1 + 1, 3, none⟩ (.int .i64 next)).setCell ⟨w.heap.size + 1 + 1, 4, none⟩ (.int .u64 send)).setCell ⟨w.heap.size + 1 + 1, 5, none⟩ (.int .u64 ceil)).setCell ⟨w.heap.size + 1 + 1, 6, none⟩ (.int .i64 sec)).setCell ⟨w.heap.size + 1 + 1, 7, none⟩ (.int .i64 nano)) = U4
    have h0 := HB.out.store 3 rfl [.slice ao key.length cap, .int .i64 side, .int .i64 cur, .int .i64 next, .int .u64 send, .int .u64 ceil, .int .i64 sec, .int .i64 nano] rfl
    rw [show Bag.setAll U3 (w.heap.size + 1 + 1) 0 [.slice ao key.length cap, .int .i64 side, .int .i64 cur, .int .i64 next, .int .u64 send, .int .u64 ceil, .int .i64 sec, .int .i64 nano] = U4 from hU] at h0
    simp only [List.set_cons_zero, List.set_cons_succ] at h0
    clear HB
    have HB := Lib.hid h0
    clear h0
    clear hU
    obtain ⟨qr_0, qr_1, qr_2, qr_3, qr_4, qr_5, qr_6, qr_7, qr_f⟩ := cells8 (HB.out.box 3 rfl)
    have qr_l := HB.out.boxLt 3 rfl
    refine bodyPost_ret (v := .tuple #[.agg #[.slice ao key.length cap, .int .i64 side, .int .i64 cur, .int .i64 next, .int .u64 send, .int .u64 ceil, .int .i64 sec, .int .i64 nano], .int .i64 (-1), .int .u64 (0)]) (by simp [results, Try.results37, go_sem, qr_0, qr_1, qr_2, qr_3, qr_4, qr_5, qr_6, qr_7]) rfl ?_
    exact stepR_mk HY.out (by rw [HV.out, HT.out]; rw [HT0.out HC.out]; rfl) (hr.on HB.out.below) (fun _ h => Or.inl h.symm) HB.out.below
  · have HY := Lib.hid (HZ.out.symm.trans (if_neg hz))
    have hz1 : (c0 == 0) = false := by rw [beq_eq_false_iff_ne]; exact hz
    clear hz
    obtain ⟨qr_0, qr_1, qr_2, qr_3, qr_4, qr_5, qr_6, qr_7, qr_f⟩ := cells8 (HB.out.box 3 rfl)
    have qr_l := HB.out.boxLt 3 rfl
    have nr_1 := HB.out.boxNe 3 5 rfl rfl (by decide)
    have nr_2 := HB.out.boxNe 3 1 rfl rfl (by decide)
    go_wp2_with fail
    generalize hU : ((((((((W2.setCell ⟨w.heap.size + 1 + 1 + 1 + 1, 0, none⟩ (.slice A0 k0.length cA0)).setCell ⟨w.heap.size + 1 + 1 + 1 + 1, 1, none⟩ (.int .i64 s0)).setCell ⟨w.heap.size + 1 + 1 + 1 + 1, 2, none⟩ (.int .i64 c0)).setCell ⟨w.heap.size + 1 + 1 + 1 + 1, 3, none⟩ (.int .i64 n0)).setCell ⟨w.heap.size + 1 + 1 + 1 + 1, 4, none⟩ (.int .u64 e0)).setCell ⟨w.heap.size + 1 + 1 + 1 + 1, 5, none⟩ (.int .u64 f0)).setCell ⟨w.heap.size + 1 + 1 + 1 + 1, 6, none⟩ (.int .i64 x0)).setCell ⟨w.heap.size + 1 + 1 + 1 + 1, 7, none⟩ (.int .i64 y0)) = U3
    clear qL_0 qL_1 qL_2 qL_3 qL_4 qL_5 qL_6 qL_7 qL_f qL_l qz_0 qz_1 qz_2 qz_3 qz_4 qz_5 qz_6 qz_7 qz_f qz_l nz_L qr_0 qr_1 qr_2 qr_3 qr_4 qr_5 qr_6 qr_7 qr_f qr_l nr_1 nr_2
    have h0 := HB.out.store 1 rfl [.slice A0 k0.length cA0, .int .i64 s0, .int .i64 c0, .int .i64 n0, .int .u64 e0, .int .u64 f0, .int .i64 x0, .int .i64 y0] rfl
    rw [show Bag.setAll W2 (w.heap.size + 1 + 1 + 1 + 1) 0 [.slice A0 k0.length cA0, .int .i64 s0, .int .i64 c0, .int .i64 n0, .int .u64 e0, .int .u64 f0, .int .i64 x0, .int .i64 y0] = U3 from hU] at h0
    simp only [List.set_cons_zero, List.set_cons_succ] at h0
    clear HB
    have HB := Lib.hid h0
    clear h0
    clear hU
    generalize hU : ((((((((U3.setCell ⟨w.heap.size + 1 + 1, 0, none⟩ (.slice A0 k0.length cA0)).setCell ⟨w.heap.size + 1 + 1, 1, none⟩ (.int .i64 s0)).setCell ⟨w.heap.size + 1 + 1, 2, none⟩ (.int .i64 c0)).setCell ⟨w.heap.size + 1 + 1, 3, none⟩ (.int .i64 n0)).setCell ⟨w.heap.size + 1 + 1, 4, none⟩ (.int .u64 e0)).setCell ⟨w.heap.size + 1 + 1, 5, none⟩ (.int .u64 f0)).setCell ⟨w.heap.size + 1 + 1, 6, none⟩ (.int .i64 x0)).setCell ⟨w.heap.size + 1 + 1, 7, none⟩ (.int .i64 y0)) = U4
    have h0 := HB.out.store 3 rfl [.slice A0 k0.length cA0, .int .i64 s0, .int .i64 c0, .int .i64 n0, .int .u64 e0, .int .u64 f0, .int .i64 x0, .int .i64 y0] rfl
    rw [show Bag.setAll U3 (w.heap.size + 1 + 1) 0 [.slice A0 k0.length cA0, .int .i64 s0, .int .i64 c0, .int .i64 n0, .int .u64 e0, .int .u64 f0, .int .i64 x0, .int .i64 y0] = U4 from hU] at h0
    simp only [List.set_cons_zero, List.set_cons_succ] at h0
    clear HB
    have HB := Lib.hid h0
    clear h0
    clear hU
    obtain ⟨qr_0, qr_1, qr_2, qr_3, qr_4, qr_5, qr_6, qr_7, qr_f⟩ := cells8 (HB.out.box 3 rfl)
    have qr_l := HB.out.boxLt 3 rfl
    refine bodyPost_ret (v := .tuple #[.agg #[.slice A0 k0.length cA0, .int .i64 s0, .int .i64 c0, .int .i64 n0, .int .u64 e0, .int .u64 f0, .int .i64 x0, .int .i64 y0], .int .i64 (-1), .int .u64 (aa)]) (by simp [results, Try.results37, go_sem, qr_0, qr_1, qr_2, qr_3, qr_4, qr_5, qr_6, qr_7]) rfl ?_
    exact stepR_mk HY.out (by rw [HV.out, HT.out]; rfl) ((HB.out.mineRd 0 rfl)) (fun a h => Or.inr (HB.out.mineFar 0 rfl a h)) HB.out.below
set_option maxRecDepth 100000 in
set_option maxHeartbeats 4000000 in
theorem lawNext_5 (L : Ln) (ao : Option Addr) (cap : Nat) (g b c at1 ss sn : Int) (w : World) (hf : L.fits) (hr : Rd w ao L.key) (hc0 : 0 ≤ c) (hc1 : c ≤ 18446744073709551615) (_ha0 : 0 ≤ at1) (_ha1 : at1 ≤ 18446744073709551615) (_hss : ss ≤ 9223372036854775807) : Calls Try.prog 37 #[L.val ao cap, .agg #[.int .i64 5, .int .i64 g, .int .i64 b, .int .u64 c, .int .u64 at1, .int .i64 ss, .int .i64 sn]] w (StepR w ao (stepL L ⟨5, g, b, c, at1, ss, sn⟩) [.int .i64 (givenL L ⟨5, g, b, c, at1, ss, sn⟩), .int .u64 (atL L ⟨5, g, b, c, at1, ss, sn⟩)]) := by
  obtain ⟨gv, hgv⟩ : ∃ x, givenL L ⟨5, g, b, c, at1, ss, sn⟩ = x := ⟨_, rfl⟩
  obtain ⟨av, hav⟩ : ∃ x, atL L ⟨5, g, b, c, at1, ss, sn⟩ = x := ⟨_, rfl⟩
  rw [hgv, hav]
  obtain ⟨N, hN⟩ : ∃ N, openedL L (Ask.sum ⟨5, g, b, c, at1, ss, sn⟩ L.cur) c b = N := ⟨_, rfl⟩
  have hst : stepL L ⟨5, g, b, c, at1, ss, sn⟩ = if N.cur = 0 then L else N := by rw [← hN]; rfl
  rw [hst]
  have hkn : N.key.length ≤ 281474976710656 := by rw [← hN]; exact keys_le (by have := hf.len; omega)
  obtain ⟨z, hz⟩ : ∃ z, (if N.cur = 0 then L else N) = z := ⟨_, rfl⟩
  rw [hz]
  have hux : Ask.sum ⟨5, g, b, c, at1, ss, sn⟩ L.cur = wrap64 (L.cur + g) := rfl
  have HV := Lib.hid (show gv = -1 by rw [← hgv]; unfold givenL; rw [if_neg (by simp)])
  have HT := Lib.hid (show av = 0 by rw [← hav]; unfold atL; rw [if_neg (by simp)])
  clear hgv hav
  obtain ⟨k0, s0, c0, n0, e0, f0, x0, y0⟩ := N
  simp only at hkn hz
  have HF := Lib.hid hf
  clear hst
  obtain ⟨key, side, cur, next, send, ceil, sec, nano⟩ := L
  unfold Ln.val
  obtain ⟨hl, hcur0, hcur1, hnext0, hnext1, hsend0, hsend1, hceil0, hceil1, hs⟩ := hf
  simp only at hl hr hcur0 hcur1 hnext0 hnext1 hsend0 hsend1 hceil0 hceil1 hs hux ⊢
  obtain ⟨gx, hgx⟩ : ∃ x, Ask.sum ⟨5, g, b, c, at1, ss, sn⟩ cur = x := ⟨_, rfl⟩
  simp only [hgx] at hux hN
  have HX := Lib.hid hux
  clear hux hgx
  have HN := Lib.hid hN
  have HZ := Lib.hid hz
  clear hN hz
  go_enter Try.func37, Try.ntmps37
  go_wp2_with fail
  generalize hU : (((((w.alloc (.cells #[.slice ao key.length cap, .int .i64 side, .int .i64 cur, .int .i64 next, .int .u64 send, .int .u64 ceil, .int .i64 sec, .int .i64 nano] 27 (0, 0))).alloc (.cells #[.int .i64 5, .int .i64 g, .int .i64 b, .int .u64 c, .int .u64 at1, .int .i64 ss, .int .i64 sn] 57 (0, 0))).alloc (.cells #[.slice none 0 0, .int .i64 0, .int .i64 0, .int .i64 0, .int .u64 0, .int .u64 0, .int .i64 0, .int .i64 0] 27 (0, 0))).alloc (.cells #[.int .i64 g, .int .i64 b, .int .u64 c, .int .u64 at1, .int .i64 ss, .int .i64 sn] 37 (0, 0))).alloc (.cells #[.slice none 0 0, .int .i64 0, .int .i64 0, .int .i64 0, .int .u64 0, .int .u64 0, .int .i64 0, .int .i64 0] 27 (0, 0))) = U1
  have h0 := (((((Bag.start w).allocAt #[.slice ao key.length cap, .int .i64 side, .int .i64 cur, .int .i64 next, .int .u64 send, .int .u64 ceil, .int .i64 sec, .int .i64 nano] 27 (w.heap.size) rfl).allocAt #[.int .i64 5, .int .i64 g, .int .i64 b, .int .u64 c, .int .u64 at1, .int .i64 ss, .int .i64 sn] 57 (w.heap.size + 1) (by simp only [alloc_size])).allocAt #[.slice none 0 0, .int .i64 0, .int .i64 0, .int .i64 0, .int .u64 0, .int .u64 0, .int .i64 0, .int .i64 0] 27 (w.heap.size + 1 + 1) (by simp only [alloc_size])).allocAt #[.int .i64 g, .int .i64 b, .int .u64 c, .int .u64 at1, .int .i64 ss, .int .i64 sn] 37 (w.heap.size + 1 + 1 + 1) (by simp only [alloc_size])).allocAt #[.slice none 0 0, .int .i64 0, .int .i64 0, .int .i64 0, .int .u64 0, .int .u64 0, .int .i64 0, .int .i64 0] 27 (w.heap.size + 1 + 1 + 1 + 1) (by simp only [alloc_size])
  rw [hU] at h0
  have HB := Lib.hid h0
  clear h0 hU
  rw [← HX.out]
  refine (laneOpened ⟨key, side, cur, next, send, ceil, sec, nano⟩ ao cap gx c b hc0 hc1 _ HF.out (hr.on HB.out.below)).mono ?_
  rintro e W2 ⟨A0, cA0, he, Mx, hb⟩
  rw [HN.out] at he Mx
  obtain rfl : e = .returned ((.agg #[.slice A0 k0.length cA0, .int .i64 s0, .int .i64 c0, .int .i64 n0, .int .u64 e0, .int .u64 f0, .int .i64 x0, .int .i64 y0])) := he
  have h0 := HB.out.mine hb Mx
  clear HB
  have HB := Lib.hid h0
  clear h0
  clear Mx
  clear hb
  obtain ⟨qL_0, qL_1, qL_2, qL_3, qL_4, qL_5, qL_6, qL_7, qL_f⟩ := cells8 (HB.out.box 5 rfl)
  have qL_l := HB.out.boxLt 5 rfl
  obtain ⟨qz_0, qz_1, qz_2, qz_3, qz_4, qz_5, qz_6, qz_7, qz_f⟩ := cells8 (HB.out.box 1 rfl)
  have qz_l := HB.out.boxLt 1 rfl
  have nz_L := HB.out.boxNe 1 5 rfl rfl (by decide)
  by_cases hz : c0 = 0
  · have HC := Lib.hid hz
    have HY := Lib.hid (HZ.out.symm.trans (if_pos hz))
    have hz1 : (c0 == 0) = true := by rw [beq_iff_eq]; exact hz
    clear hz
    obtain ⟨qr_0, qr_1, qr_2, qr_3, qr_4, qr_5, qr_6, qr_7, qr_f⟩ := cells8 (HB.out.box 3 rfl)
    have qr_l := HB.out.boxLt 3 rfl
    have nr_1 := HB.out.boxNe 3 5 rfl rfl (by decide)
    have nr_2 := HB.out.boxNe 3 1 rfl rfl (by decide)
    go_wp2_with fail
    generalize hU : ((((((((W2.setCell ⟨w.heap.size + 1 + 1 + 1 + 1, 0, none⟩ (.slice A0 k0.length cA0)).setCell ⟨w.heap.size + 1 + 1 + 1 + 1, 1, none⟩ (.int .i64 s0)).setCell ⟨w.heap.size + 1 + 1 + 1 + 1, 2, none⟩ (.int .i64 c0)).setCell ⟨w.heap.size + 1 + 1 + 1 + 1, 3, none⟩ (.int .i64 n0)).setCell ⟨w.heap.size + 1 + 1 + 1 + 1, 4, none⟩ (.int .u64 e0)).setCell ⟨w.heap.size + 1 + 1 + 1 + 1, 5, none⟩ (.int .u64 f0)).setCell ⟨w.heap.size + 1 + 1 + 1 + 1, 6, none⟩ (.int .i64 x0)).setCell ⟨w.heap.size + 1 + 1 + 1 + 1, 7, none⟩ (.int .i64 y0)) = U3
    clear qL_0 qL_1 qL_2 qL_3 qL_4 qL_5 qL_6 qL_7 qL_f qL_l qz_0 qz_1 qz_2 qz_3 qz_4 qz_5 qz_6 qz_7 qz_f qz_l nz_L qr_0 qr_1 qr_2 qr_3 qr_4 qr_5 qr_6 qr_7 qr_f qr_l nr_1 nr_2
    have h0 := HB.out.store 1 rfl [.slice A0 k0.length cA0, .int .i64 s0, .int .i64 c0, .int .i64 n0, .int .u64 e0, .int .u64 f0, .int .i64 x0, .int .i64 y0] rfl
    rw [show Bag.setAll W2 (w.heap.size + 1 + 1 + 1 + 1) 0 [.slice A0 k0.length cA0, .int .i64 s0, .int .i64 c0, .int .i64 n0, .int .u64 e0, .int .u64 f0, .int .i64 x0, .int .i64 y0] = U3 from hU] at h0
    simp only [List.set_cons_zero, List.set_cons_succ] at h0
    clear HB
    have HB := Lib.hid h0
    clear h0
    clear hU
    generalize hU : ((((((((U3.setCell ⟨w.heap.size + 1 + 1, 0, none⟩ (.slice ao key.length cap)).setCell ⟨w.heap.size + 1 + 1, 1, none⟩ (.int .i64 side)).setCell ⟨w.heap.size + 1 + 1, 2, none⟩ (.int .i64 cur)).setCell ⟨w.heap.size + 1 + 1, 3, none⟩ (.int .i64 next)).setCell ⟨w.heap.size + 1 + 1, 4, none⟩ (.int .u64 send)).setCell ⟨w.heap.size + 1 + 1, 5, none⟩ (.int .u64 ceil)).setCell ⟨w.heap.size + 1 + 1, 6, none⟩ (.int .i64 sec)).setCell ⟨w.heap.size + 1 + 1, 7, none⟩ (.int .i64 nano)) = U4
    have h0 := HB.out.store 3 rfl [.slice ao key.length cap, .int .i64 side, .int .i64 cur, .int .i64 next, .int .u64 send, .int .u64 ceil, .int .i64 sec, .int .i64 nano] rfl
    rw [show Bag.setAll U3 (w.heap.size + 1 + 1) 0 [.slice ao key.length cap, .int .i64 side, .int .i64 cur, .int .i64 next, .int .u64 send, .int .u64 ceil, .int .i64 sec, .int .i64 nano] = U4 from hU] at h0
    simp only [List.set_cons_zero, List.set_cons_succ] at h0
    clear HB
    have HB := Lib.hid h0
    clear h0
    clear hU
    obtain ⟨qr_0, qr_1, qr_2, qr_3, qr_4, qr_5, qr_6, qr_7, qr_f⟩ := cells8 (HB.out.box 3 rfl)
    have qr_l := HB.out.boxLt 3 rfl
    refine bodyPost_ret (v := .tuple #[.agg #[.slice ao key.length cap, .int .i64 side, .int .i64 cur, .int .i64 next, .int .u64 send, .int .u64 ceil, .int .i64 sec, .int .i64 nano], .int .i64 (-1), .int .u64 (0)]) (by simp [results, Try.results37, go_sem, qr_0, qr_1, qr_2, qr_3, qr_4, qr_5, qr_6, qr_7]) rfl ?_
    exact stepR_mk HY.out (by rw [HV.out, HT.out]; rfl) (hr.on HB.out.below) (fun _ h => Or.inl h.symm) HB.out.below
  · have HY := Lib.hid (HZ.out.symm.trans (if_neg hz))
    have hz1 : (c0 == 0) = false := by rw [beq_eq_false_iff_ne]; exact hz
    clear hz
    obtain ⟨qr_0, qr_1, qr_2, qr_3, qr_4, qr_5, qr_6, qr_7, qr_f⟩ := cells8 (HB.out.box 3 rfl)
    have qr_l := HB.out.boxLt 3 rfl
    have nr_1 := HB.out.boxNe 3 5 rfl rfl (by decide)
    have nr_2 := HB.out.boxNe 3 1 rfl rfl (by decide)
    go_wp2_with fail
    generalize hU : ((((((((W2.setCell ⟨w.heap.size + 1 + 1 + 1 + 1, 0, none⟩ (.slice A0 k0.length cA0)).setCell ⟨w.heap.size + 1 + 1 + 1 + 1, 1, none⟩ (.int .i64 s0)).setCell ⟨w.heap.size + 1 + 1 + 1 + 1, 2, none⟩ (.int .i64 c0)).setCell ⟨w.heap.size + 1 + 1 + 1 + 1, 3, none⟩ (.int .i64 n0)).setCell ⟨w.heap.size + 1 + 1 + 1 + 1, 4, none⟩ (.int .u64 e0)).setCell ⟨w.heap.size + 1 + 1 + 1 + 1, 5, none⟩ (.int .u64 f0)).setCell ⟨w.heap.size + 1 + 1 + 1 + 1, 6, none⟩ (.int .i64 x0)).setCell ⟨w.heap.size + 1 + 1 + 1 + 1, 7, none⟩ (.int .i64 y0)) = U3
    clear qL_0 qL_1 qL_2 qL_3 qL_4 qL_5 qL_6 qL_7 qL_f qL_l qz_0 qz_1 qz_2 qz_3 qz_4 qz_5 qz_6 qz_7 qz_f qz_l nz_L qr_0 qr_1 qr_2 qr_3 qr_4 qr_5 qr_6 qr_7 qr_f qr_l nr_1 nr_2
    have h0 := HB.out.store 1 rfl [.slice A0 k0.length cA0, .int .i64 s0, .int .i64 c0, .int .i64 n0, .int .u64 e0, .int .u64 f0, .int .i64 x0, .int .i64 y0] rfl
    rw [show Bag.setAll W2 (w.heap.size + 1 + 1 + 1 + 1) 0 [.slice A0 k0.length cA0, .int .i64 s0, .int .i64 c0, .int .i64 n0, .int .u64 e0, .int .u64 f0, .int .i64 x0, .int .i64 y0] = U3 from hU] at h0
    simp only [List.set_cons_zero, List.set_cons_succ] at h0
    clear HB
    have HB := Lib.hid h0
    clear h0
    clear hU
    generalize hU : ((((((((U3.setCell ⟨w.heap.size + 1 + 1, 0, none⟩ (.slice A0 k0.length cA0)).setCell ⟨w.heap.size + 1 + 1, 1, none⟩ (.int .i64 s0)).setCell ⟨w.heap.size + 1 + 1, 2, none⟩ (.int .i64 c0)).setCell ⟨w.heap.size + 1 + 1, 3, none⟩ (.int .i64 n0)).setCell ⟨w.heap.size + 1 + 1, 4, none⟩ (.int .u64 e0)).setCell ⟨w.heap.size + 1 + 1, 5, none⟩ (.int .u64 f0)).setCell ⟨w.heap.size + 1 + 1, 6, none⟩ (.int .i64 x0)).setCell ⟨w.heap.size + 1 + 1, 7, none⟩ (.int .i64 y0)) = U4
    have h0 := HB.out.store 3 rfl [.slice A0 k0.length cA0, .int .i64 s0, .int .i64 c0, .int .i64 n0, .int .u64 e0, .int .u64 f0, .int .i64 x0, .int .i64 y0] rfl
    rw [show Bag.setAll U3 (w.heap.size + 1 + 1) 0 [.slice A0 k0.length cA0, .int .i64 s0, .int .i64 c0, .int .i64 n0, .int .u64 e0, .int .u64 f0, .int .i64 x0, .int .i64 y0] = U4 from hU] at h0
    simp only [List.set_cons_zero, List.set_cons_succ] at h0
    clear HB
    have HB := Lib.hid h0
    clear h0
    clear hU
    obtain ⟨qr_0, qr_1, qr_2, qr_3, qr_4, qr_5, qr_6, qr_7, qr_f⟩ := cells8 (HB.out.box 3 rfl)
    have qr_l := HB.out.boxLt 3 rfl
    refine bodyPost_ret (v := .tuple #[.agg #[.slice A0 k0.length cA0, .int .i64 s0, .int .i64 c0, .int .i64 n0, .int .u64 e0, .int .u64 f0, .int .i64 x0, .int .i64 y0], .int .i64 (-1), .int .u64 (0)]) (by simp [results, Try.results37, go_sem, qr_0, qr_1, qr_2, qr_3, qr_4, qr_5, qr_6, qr_7]) rfl ?_
    exact stepR_mk HY.out (by rw [HV.out, HT.out]; rfl) ((HB.out.mineRd 0 rfl)) (fun a h => Or.inr (HB.out.mineFar 0 rfl a h)) HB.out.below
set_option maxRecDepth 100000 in
set_option maxHeartbeats 4000000 in
theorem lawNext_6 (L : Ln) (ao : Option Addr) (cap : Nat) (g b c at1 ss sn : Int) (w : World) (hf : L.fits) (hr : Rd w ao L.key) (_hc0 : 0 ≤ c) (_hc1 : c ≤ 18446744073709551615) (_ha0 : 0 ≤ at1) (_ha1 : at1 ≤ 18446744073709551615) (_hss : ss ≤ 9223372036854775807) : Calls Try.prog 37 #[L.val ao cap, .agg #[.int .i64 6, .int .i64 g, .int .i64 b, .int .u64 c, .int .u64 at1, .int .i64 ss, .int .i64 sn]] w (StepR w ao (stepL L ⟨6, g, b, c, at1, ss, sn⟩) [.int .i64 (givenL L ⟨6, g, b, c, at1, ss, sn⟩), .int .u64 (atL L ⟨6, g, b, c, at1, ss, sn⟩)]) := by
  obtain ⟨gv, hgv⟩ : ∃ x, givenL L ⟨6, g, b, c, at1, ss, sn⟩ = x := ⟨_, rfl⟩
  obtain ⟨av, hav⟩ : ∃ x, atL L ⟨6, g, b, c, at1, ss, sn⟩ = x := ⟨_, rfl⟩
  rw [hgv, hav]
  obtain ⟨N, hN⟩ : ∃ N, raiseL L (Ask.usum L.ceil c) b = N := ⟨_, rfl⟩
  have hst : stepL L ⟨6, g, b, c, at1, ss, sn⟩ = if N.cur = 0 then L else N := by rw [← hN]; rfl
  rw [hst]
  have hkn : N.key.length ≤ 281474976710656 := by rw [← hN]; exact keys_le (by have := hf.len; omega)
  obtain ⟨z, hz⟩ : ∃ z, (if N.cur = 0 then L else N) = z := ⟨_, rfl⟩
  rw [hz]
  have hu := usum_bd L.ceil c
  have hux : Ask.usum L.ceil c = IntKind.u64.wrap (L.ceil + c) := rfl
  have HV := Lib.hid (show gv = -1 by rw [← hgv]; unfold givenL; rw [if_neg (by simp)])
  have HT := Lib.hid (show av = 0 by rw [← hav]; unfold atL; rw [if_neg (by simp)])
  clear hgv hav
  obtain ⟨k0, s0, c0, n0, e0, f0, x0, y0⟩ := N
  simp only at hkn hz
  have HF := Lib.hid hf
  clear hst
  obtain ⟨key, side, cur, next, send, ceil, sec, nano⟩ := L
  unfold Ln.val
  obtain ⟨hl, hcur0, hcur1, hnext0, hnext1, hsend0, hsend1, hceil0, hceil1, hs⟩ := hf
  simp only at hl hr hcur0 hcur1 hnext0 hnext1 hsend0 hsend1 hceil0 hceil1 hs hu hux ⊢
  obtain ⟨ax, hax⟩ : ∃ x, Ask.usum ceil c = x := ⟨_, rfl⟩
  simp only [hax] at hu hux hN
  have HX := Lib.hid hux
  clear hux hax
  have HN := Lib.hid hN
  have HZ := Lib.hid hz
  clear hN hz
  go_enter Try.func37, Try.ntmps37
  go_wp2_with fail
  generalize hU : (((((w.alloc (.cells #[.slice ao key.length cap, .int .i64 side, .int .i64 cur, .int .i64 next, .int .u64 send, .int .u64 ceil, .int .i64 sec, .int .i64 nano] 27 (0, 0))).alloc (.cells #[.int .i64 6, .int .i64 g, .int .i64 b, .int .u64 c, .int .u64 at1, .int .i64 ss, .int .i64 sn] 57 (0, 0))).alloc (.cells #[.slice none 0 0, .int .i64 0, .int .i64 0, .int .i64 0, .int .u64 0, .int .u64 0, .int .i64 0, .int .i64 0] 27 (0, 0))).alloc (.cells #[.int .i64 g, .int .i64 b, .int .u64 c, .int .u64 at1, .int .i64 ss, .int .i64 sn] 37 (0, 0))).alloc (.cells #[.slice none 0 0, .int .i64 0, .int .i64 0, .int .i64 0, .int .u64 0, .int .u64 0, .int .i64 0, .int .i64 0] 27 (0, 0))) = U1
  have h0 := (((((Bag.start w).allocAt #[.slice ao key.length cap, .int .i64 side, .int .i64 cur, .int .i64 next, .int .u64 send, .int .u64 ceil, .int .i64 sec, .int .i64 nano] 27 (w.heap.size) rfl).allocAt #[.int .i64 6, .int .i64 g, .int .i64 b, .int .u64 c, .int .u64 at1, .int .i64 ss, .int .i64 sn] 57 (w.heap.size + 1) (by simp only [alloc_size])).allocAt #[.slice none 0 0, .int .i64 0, .int .i64 0, .int .i64 0, .int .u64 0, .int .u64 0, .int .i64 0, .int .i64 0] 27 (w.heap.size + 1 + 1) (by simp only [alloc_size])).allocAt #[.int .i64 g, .int .i64 b, .int .u64 c, .int .u64 at1, .int .i64 ss, .int .i64 sn] 37 (w.heap.size + 1 + 1 + 1) (by simp only [alloc_size])).allocAt #[.slice none 0 0, .int .i64 0, .int .i64 0, .int .i64 0, .int .u64 0, .int .u64 0, .int .i64 0, .int .i64 0] 27 (w.heap.size + 1 + 1 + 1 + 1) (by simp only [alloc_size])
  rw [hU] at h0
  have HB := Lib.hid h0
  clear h0 hU
  rw [← HX.out]
  refine (laneRaise ⟨key, side, cur, next, send, ceil, sec, nano⟩ ao cap ax b hu.1 hu.2 _ HF.out (hr.on HB.out.below)).mono ?_
  rintro e W2 ⟨A0, cA0, he, Mx, hb⟩
  rw [HN.out] at he Mx
  obtain rfl : e = .returned ((.agg #[.slice A0 k0.length cA0, .int .i64 s0, .int .i64 c0, .int .i64 n0, .int .u64 e0, .int .u64 f0, .int .i64 x0, .int .i64 y0])) := he
  have h0 := HB.out.mine hb Mx
  clear HB
  have HB := Lib.hid h0
  clear h0
  clear Mx
  clear hb
  obtain ⟨qL_0, qL_1, qL_2, qL_3, qL_4, qL_5, qL_6, qL_7, qL_f⟩ := cells8 (HB.out.box 5 rfl)
  have qL_l := HB.out.boxLt 5 rfl
  obtain ⟨qz_0, qz_1, qz_2, qz_3, qz_4, qz_5, qz_6, qz_7, qz_f⟩ := cells8 (HB.out.box 1 rfl)
  have qz_l := HB.out.boxLt 1 rfl
  have nz_L := HB.out.boxNe 1 5 rfl rfl (by decide)
  by_cases hz : c0 = 0
  · have HC := Lib.hid hz
    have HY := Lib.hid (HZ.out.symm.trans (if_pos hz))
    have hz1 : (c0 == 0) = true := by rw [beq_iff_eq]; exact hz
    clear hz
    obtain ⟨qr_0, qr_1, qr_2, qr_3, qr_4, qr_5, qr_6, qr_7, qr_f⟩ := cells8 (HB.out.box 3 rfl)
    have qr_l := HB.out.boxLt 3 rfl
    have nr_1 := HB.out.boxNe 3 5 rfl rfl (by decide)
    have nr_2 := HB.out.boxNe 3 1 rfl rfl (by decide)
    go_wp2_with fail
    generalize hU : ((((((((W2.setCell ⟨w.heap.size + 1 + 1 + 1 + 1, 0, none⟩ (.slice A0 k0.length cA0)).setCell ⟨w.heap.size + 1 + 1 + 1 + 1, 1, none⟩ (.int .i64 s0)).setCell ⟨w.heap.size + 1 + 1 + 1 + 1, 2, none⟩ (.int .i64 c0)).setCell ⟨w.heap.size + 1 + 1 + 1 + 1, 3, none⟩ (.int .i64 n0)).setCell ⟨w.heap.size + 1 + 1 + 1 + 1, 4, none⟩ (.int .u64 e0)).setCell ⟨w.heap.size + 1 + 1 + 1 + 1, 5, none⟩ (.int .u64 f0)).setCell ⟨w.heap.size + 1 + 1 + 1 + 1, 6, none⟩ (.int .i64 x0)).setCell ⟨w.heap.size + 1 + 1 + 1 + 1, 7, none⟩ (.int .i64 y0)) = U3
    clear qL_0 qL_1 qL_2 qL_3 qL_4 qL_5 qL_6 qL_7 qL_f qL_l qz_0 qz_1 qz_2 qz_3 qz_4 qz_5 qz_6 qz_7 qz_f qz_l nz_L qr_0 qr_1 qr_2 qr_3 qr_4 qr_5 qr_6 qr_7 qr_f qr_l nr_1 nr_2
    have h0 := HB.out.store 1 rfl [.slice A0 k0.length cA0, .int .i64 s0, .int .i64 c0, .int .i64 n0, .int .u64 e0, .int .u64 f0, .int .i64 x0, .int .i64 y0] rfl
    rw [show Bag.setAll W2 (w.heap.size + 1 + 1 + 1 + 1) 0 [.slice A0 k0.length cA0, .int .i64 s0, .int .i64 c0, .int .i64 n0, .int .u64 e0, .int .u64 f0, .int .i64 x0, .int .i64 y0] = U3 from hU] at h0
    simp only [List.set_cons_zero, List.set_cons_succ] at h0
    clear HB
    have HB := Lib.hid h0
    clear h0
    clear hU
    generalize hU : ((((((((U3.setCell ⟨w.heap.size + 1 + 1, 0, none⟩ (.slice ao key.length cap)).setCell ⟨w.heap.size + 1 + 1, 1, none⟩ (.int .i64 side)).setCell ⟨w.heap.size + 1 + 1, 2, none⟩ (.int .i64 cur)).setCell ⟨w.heap.size + 1 + 1, 3, none⟩ (.int .i64 next)).setCell ⟨w.heap.size + 1 + 1, 4, none⟩ (.int .u64 send)).setCell ⟨w.heap.size + 1 + 1, 5, none⟩ (.int .u64 ceil)).setCell ⟨w.heap.size + 1 + 1, 6, none⟩ (.int .i64 sec)).setCell ⟨w.heap.size + 1 + 1, 7, none⟩ (.int .i64 nano)) = U4
    have h0 := HB.out.store 3 rfl [.slice ao key.length cap, .int .i64 side, .int .i64 cur, .int .i64 next, .int .u64 send, .int .u64 ceil, .int .i64 sec, .int .i64 nano] rfl
    rw [show Bag.setAll U3 (w.heap.size + 1 + 1) 0 [.slice ao key.length cap, .int .i64 side, .int .i64 cur, .int .i64 next, .int .u64 send, .int .u64 ceil, .int .i64 sec, .int .i64 nano] = U4 from hU] at h0
    simp only [List.set_cons_zero, List.set_cons_succ] at h0
    clear HB
    have HB := Lib.hid h0
    clear h0
    clear hU
    obtain ⟨qr_0, qr_1, qr_2, qr_3, qr_4, qr_5, qr_6, qr_7, qr_f⟩ := cells8 (HB.out.box 3 rfl)
    have qr_l := HB.out.boxLt 3 rfl
    refine bodyPost_ret (v := .tuple #[.agg #[.slice ao key.length cap, .int .i64 side, .int .i64 cur, .int .i64 next, .int .u64 send, .int .u64 ceil, .int .i64 sec, .int .i64 nano], .int .i64 (-1), .int .u64 (0)]) (by simp [results, Try.results37, go_sem, qr_0, qr_1, qr_2, qr_3, qr_4, qr_5, qr_6, qr_7]) rfl ?_
    exact stepR_mk HY.out (by rw [HV.out, HT.out]; rfl) (hr.on HB.out.below) (fun _ h => Or.inl h.symm) HB.out.below
  · have HY := Lib.hid (HZ.out.symm.trans (if_neg hz))
    have hz1 : (c0 == 0) = false := by rw [beq_eq_false_iff_ne]; exact hz
    clear hz
    obtain ⟨qr_0, qr_1, qr_2, qr_3, qr_4, qr_5, qr_6, qr_7, qr_f⟩ := cells8 (HB.out.box 3 rfl)
    have qr_l := HB.out.boxLt 3 rfl
    have nr_1 := HB.out.boxNe 3 5 rfl rfl (by decide)
    have nr_2 := HB.out.boxNe 3 1 rfl rfl (by decide)
    go_wp2_with fail
    generalize hU : ((((((((W2.setCell ⟨w.heap.size + 1 + 1 + 1 + 1, 0, none⟩ (.slice A0 k0.length cA0)).setCell ⟨w.heap.size + 1 + 1 + 1 + 1, 1, none⟩ (.int .i64 s0)).setCell ⟨w.heap.size + 1 + 1 + 1 + 1, 2, none⟩ (.int .i64 c0)).setCell ⟨w.heap.size + 1 + 1 + 1 + 1, 3, none⟩ (.int .i64 n0)).setCell ⟨w.heap.size + 1 + 1 + 1 + 1, 4, none⟩ (.int .u64 e0)).setCell ⟨w.heap.size + 1 + 1 + 1 + 1, 5, none⟩ (.int .u64 f0)).setCell ⟨w.heap.size + 1 + 1 + 1 + 1, 6, none⟩ (.int .i64 x0)).setCell ⟨w.heap.size + 1 + 1 + 1 + 1, 7, none⟩ (.int .i64 y0)) = U3
    clear qL_0 qL_1 qL_2 qL_3 qL_4 qL_5 qL_6 qL_7 qL_f qL_l qz_0 qz_1 qz_2 qz_3 qz_4 qz_5 qz_6 qz_7 qz_f qz_l nz_L qr_0 qr_1 qr_2 qr_3 qr_4 qr_5 qr_6 qr_7 qr_f qr_l nr_1 nr_2
    have h0 := HB.out.store 1 rfl [.slice A0 k0.length cA0, .int .i64 s0, .int .i64 c0, .int .i64 n0, .int .u64 e0, .int .u64 f0, .int .i64 x0, .int .i64 y0] rfl
    rw [show Bag.setAll W2 (w.heap.size + 1 + 1 + 1 + 1) 0 [.slice A0 k0.length cA0, .int .i64 s0, .int .i64 c0, .int .i64 n0, .int .u64 e0, .int .u64 f0, .int .i64 x0, .int .i64 y0] = U3 from hU] at h0
    simp only [List.set_cons_zero, List.set_cons_succ] at h0
    clear HB
    have HB := Lib.hid h0
    clear h0
    clear hU
    generalize hU : ((((((((U3.setCell ⟨w.heap.size + 1 + 1, 0, none⟩ (.slice A0 k0.length cA0)).setCell ⟨w.heap.size + 1 + 1, 1, none⟩ (.int .i64 s0)).setCell ⟨w.heap.size + 1 + 1, 2, none⟩ (.int .i64 c0)).setCell ⟨w.heap.size + 1 + 1, 3, none⟩ (.int .i64 n0)).setCell ⟨w.heap.size + 1 + 1, 4, none⟩ (.int .u64 e0)).setCell ⟨w.heap.size + 1 + 1, 5, none⟩ (.int .u64 f0)).setCell ⟨w.heap.size + 1 + 1, 6, none⟩ (.int .i64 x0)).setCell ⟨w.heap.size + 1 + 1, 7, none⟩ (.int .i64 y0)) = U4
    have h0 := HB.out.store 3 rfl [.slice A0 k0.length cA0, .int .i64 s0, .int .i64 c0, .int .i64 n0, .int .u64 e0, .int .u64 f0, .int .i64 x0, .int .i64 y0] rfl
    rw [show Bag.setAll U3 (w.heap.size + 1 + 1) 0 [.slice A0 k0.length cA0, .int .i64 s0, .int .i64 c0, .int .i64 n0, .int .u64 e0, .int .u64 f0, .int .i64 x0, .int .i64 y0] = U4 from hU] at h0
    simp only [List.set_cons_zero, List.set_cons_succ] at h0
    clear HB
    have HB := Lib.hid h0
    clear h0
    clear hU
    obtain ⟨qr_0, qr_1, qr_2, qr_3, qr_4, qr_5, qr_6, qr_7, qr_f⟩ := cells8 (HB.out.box 3 rfl)
    have qr_l := HB.out.boxLt 3 rfl
    refine bodyPost_ret (v := .tuple #[.agg #[.slice A0 k0.length cA0, .int .i64 s0, .int .i64 c0, .int .i64 n0, .int .u64 e0, .int .u64 f0, .int .i64 x0, .int .i64 y0], .int .i64 (-1), .int .u64 (0)]) (by simp [results, Try.results37, go_sem, qr_0, qr_1, qr_2, qr_3, qr_4, qr_5, qr_6, qr_7]) rfl ?_
    exact stepR_mk HY.out (by rw [HV.out, HT.out]; rfl) ((HB.out.mineRd 0 rfl)) (fun a h => Or.inr (HB.out.mineFar 0 rfl a h)) HB.out.below
set_option maxRecDepth 100000 in
set_option maxHeartbeats 4000000 in
theorem lawNext_0 (L : Ln) (ao : Option Addr) (cap : Nat) (kind g b c at1 ss sn : Int) (w : World) (_hf : L.fits) (hr : Rd w ao L.key) (_hc0 : 0 ≤ c) (_hc1 : c ≤ 18446744073709551615) (_ha0 : 0 ≤ at1) (_ha1 : at1 ≤ 18446744073709551615) (_hss : ss ≤ 9223372036854775807) (h1 : kind ≠ 1) (h2 : kind ≠ 2) (h3 : kind ≠ 3) (h4 : kind ≠ 4) (h5 : kind ≠ 5) (h6 : kind ≠ 6) : Calls Try.prog 37 #[L.val ao cap, .agg #[.int .i64 kind, .int .i64 g, .int .i64 b, .int .u64 c, .int .u64 at1, .int .i64 ss, .int .i64 sn]] w (StepR w ao (stepL L ⟨kind, g, b, c, at1, ss, sn⟩) [.int .i64 (givenL L ⟨kind, g, b, c, at1, ss, sn⟩), .int .u64 (atL L ⟨kind, g, b, c, at1, ss, sn⟩)]) := by
  have hst : stepL L ⟨kind, g, b, c, at1, ss, sn⟩ = L := stepL_zero (by unfold ansL; rw [if_neg h1, if_neg h2, if_neg h3, if_neg h4, if_neg h5, if_neg h6])
  have i1 : (kind == 1) = false := beq_eq_false_iff_ne.2 h1
  have i2 : (kind == 2) = false := beq_eq_false_iff_ne.2 h2
  have i3 : (kind == 3) = false := beq_eq_false_iff_ne.2 h3
  have i4 : (kind == 4) = false := beq_eq_false_iff_ne.2 h4
  have i5 : (kind == 5) = false := beq_eq_false_iff_ne.2 h5
  have i6 : (kind == 6) = false := beq_eq_false_iff_ne.2 h6
  have hgv : givenL L ⟨kind, g, b, c, at1, ss, sn⟩ = -1 := by unfold givenL; rw [if_neg h3]
  have hav : atL L ⟨kind, g, b, c, at1, ss, sn⟩ = 0 := by unfold atL; rw [if_neg h4]
  rw [hgv, hav]
  clear hgv hav
  obtain ⟨z, hz⟩ : ∃ z, stepL L ⟨kind, g, b, c, at1, ss, sn⟩ = z := ⟨_, rfl⟩
  rw [hz]
  have HZ := Lib.hid (hz.symm.trans hst)
  clear hst hz h1 h2 h3 h4 h5 h6
  obtain ⟨key, side, cur, next, send, ceil, sec, nano⟩ := L
  unfold Ln.val
  simp only at hr ⊢
  go_enter Try.func37, Try.ntmps37
  go_wp2_with fail
  generalize hU : (((((w.alloc (.cells #[.slice ao key.length cap, .int .i64 side, .int .i64 cur, .int .i64 next, .int .u64 send, .int .u64 ceil, .int .i64 sec, .int .i64 nano] 27 (0, 0))).alloc (.cells #[.int .i64 kind, .int .i64 g, .int .i64 b, .int .u64 c, .int .u64 at1, .int .i64 ss, .int .i64 sn] 57 (0, 0))).alloc (.cells #[.slice ao key.length cap, .int .i64 side, .int .i64 cur, .int .i64 next, .int .u64 send, .int .u64 ceil, .int .i64 sec, .int .i64 nano] 27 (0, 0))).alloc (.cells #[.int .i64 g, .int .i64 b, .int .u64 c, .int .u64 at1, .int .i64 ss, .int .i64 sn] 37 (0, 0))).alloc (.cells #[.slice none 0 0, .int .i64 0, .int .i64 0, .int .i64 0, .int .u64 0, .int .u64 0, .int .i64 0, .int .i64 0] 27 (0, 0))) = U1
  have h0 := (((((Bag.start w).allocAt #[.slice ao key.length cap, .int .i64 side, .int .i64 cur, .int .i64 next, .int .u64 send, .int .u64 ceil, .int .i64 sec, .int .i64 nano] 27 (w.heap.size) rfl).allocAt #[.int .i64 kind, .int .i64 g, .int .i64 b, .int .u64 c, .int .u64 at1, .int .i64 ss, .int .i64 sn] 57 (w.heap.size + 1) (by simp only [alloc_size])).allocAt #[.slice ao key.length cap, .int .i64 side, .int .i64 cur, .int .i64 next, .int .u64 send, .int .u64 ceil, .int .i64 sec, .int .i64 nano] 27 (w.heap.size + 1 + 1) (by simp only [alloc_size])).allocAt #[.int .i64 g, .int .i64 b, .int .u64 c, .int .u64 at1, .int .i64 ss, .int .i64 sn] 37 (w.heap.size + 1 + 1 + 1) (by simp only [alloc_size])).allocAt #[.slice none 0 0, .int .i64 0, .int .i64 0, .int .i64 0, .int .u64 0, .int .u64 0, .int .i64 0, .int .i64 0] 27 (w.heap.size + 1 + 1 + 1 + 1) (by simp only [alloc_size])
  rw [hU] at h0
  have HB := Lib.hid h0
  clear h0 hU
  obtain ⟨qr_0, qr_1, qr_2, qr_3, qr_4, qr_5, qr_6, qr_7, qr_f⟩ := cells8 (HB.out.box 2 rfl)
  have qr_l := HB.out.boxLt 2 rfl
  refine bodyPost_ret (v := .tuple #[.agg #[.slice ao key.length cap, .int .i64 side, .int .i64 cur, .int .i64 next, .int .u64 send, .int .u64 ceil, .int .i64 sec, .int .i64 nano], .int .i64 (-1), .int .u64 0]) (by simp [results, Try.results37, go_sem, qr_0, qr_1, qr_2, qr_3, qr_4, qr_5, qr_6, qr_7]) rfl ?_
  exact stepR_mk HZ.out rfl (hr.on HB.out.below) (fun _ h => Or.inl h.symm) HB.out.below
theorem lawNext (L : Ln) (ao : Option Addr) (cap : Nat) (o : Ask) (w : World) (hf : L.fits) (ho : o.fits) (hr : Rd w ao L.key) :
    Calls Try.prog 37 #[L.val ao cap, o.val] w (StepR w ao (stepL L o) [.int .i64 (givenL L o), .int .u64 (atL L o)]) := by
  obtain ⟨kind, g, b, c, at1, ss, sn⟩ := o
  obtain ⟨hc0, hc1, ha0, ha1, hss⟩ := ho
  by_cases h1 : kind = 1
  · subst h1; exact lawNext_1 L ao cap g b c at1 ss sn w hf hr hc0 hc1 ha0 ha1 hss
  by_cases h2 : kind = 2
  · subst h2; exact lawNext_2 L ao cap g b c at1 ss sn w hf hr hc0 hc1 ha0 ha1 hss
  by_cases h3 : kind = 3
  · subst h3; exact lawNext_3 L ao cap g b c at1 ss sn w hf hr hc0 hc1 ha0 ha1 hss
  by_cases h4 : kind = 4
  · subst h4; exact lawNext_4 L ao cap g b c at1 ss sn w hf hr hc0 hc1 ha0 ha1 hss
  by_cases h5 : kind = 5
  · subst h5; exact lawNext_5 L ao cap g b c at1 ss sn w hf hr hc0 hc1 ha0 ha1 hss
  by_cases h6 : kind = 6
  · subst h6; exact lawNext_6 L ao cap g b c at1 ss sn w hf hr hc0 hc1 ha0 ha1 hss
  exact lawNext_0 L ao cap kind g b c at1 ss sn w hf hr hc0 hc1 ha0 ha1 hss h1 h2 h3 h4 h5 h6
end Go.Proofs.Ytihndipgdogebaa
