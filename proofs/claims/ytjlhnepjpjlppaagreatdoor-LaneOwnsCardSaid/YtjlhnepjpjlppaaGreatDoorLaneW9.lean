/- The walk of LaneOwns. -/
import Derived.Test.YtjlhnepjpjlppaaGreatDoorZLc
import Derived.Test.YtjlhnepjpjlppaaGreatDoorBookU
import Derived.Laws.Tables
namespace Go.Proofs.YtjlhnepjpjlppaaGreatDoor
open Go.RowKit
set_option maxRecDepth 20000
theorem wp_build {P : Program} {o : Oper} {a : Act} {w : World} {K : Act → World → Prop} {Q : Exit → Act → World → Prop} (t : TypeId) (cells : Array Value) (ho : o.op = .build t #[]) (h : P.built t [] = some cells) (hk : K (a.put o.dst (.agg cells)) w) : Oper.wp P o a w K Q := by
  unfold Oper.wp
  simp [execOp, ho, run_build w t #[] cells h, Result.andThen]
  exact hk
theorem Rd.fore {w : World} {ao : Option Addr} {l t : List (BitVec 8)} (h : Rd w ao (l ++ t)) : Rd w ao l := by
  have := h.take l.length
  simpa using this
theorem perm_pick {α : Type} : ∀ (l : List α) (i : Nat) (x : α), l[i]? = some x → l.Perm (x :: l.eraseIdx i)
  | [], i, x, h => by simp at h
  | a :: r, 0, x, h => by simp at h; subst h; exact List.Perm.refl _
  | a :: r, i + 1, x, h => ((perm_pick r i x (by simpa using h)).cons a).trans (List.Perm.swap x a _)
theorem Booked.pick {w W : World} {p n : Nat} {rest : List It} (h : Booked w W p n rest) (i : Nat) (x : It) (hi : rest[i]? = some x) : Booked w W p n (x :: rest.eraseIdx i) := by
  exact h.perm (perm_pick rest i x hi)
theorem keys_len {L : Ln} {cur next send ceil sec nano : Int} {p : Prop} [Decidable p] {n : Nat} (h : L.key.length ≤ n) : (if p then L.keep cur next send ceil sec nano else Ln.zero).key.length ≤ n := by
  split
  · exact h
  · simp [Ln.zero]
set_option maxRecDepth 100000 in
theorem lawOwns_long (L : Ln) (ao : Option Addr) (cap : Nat) (g b c at1 ss sn : Int) (w : World) (hl : 4096 < L.key.length) : Calls Tryz.prog 3 #[L.val ao cap, .agg #[.int .i64 g, .int .i64 b, .int .u64 c, .int .u64 at1, .int .i64 ss, .int .i64 sn]] w fun e w' => e = .returned (.bool true) ∧ Below w.heap.size w w' := by
  have hl2 : (4096 : Int) < (L.key.length : Int) := by omega
  obtain ⟨key, side, cur, next, send, ceil, sec, nano⟩ := L
  unfold Ln.val
  simp only at hl hl2 ⊢
  go_enter Tryz.func3, Tryz.ntmps3
  go_wp2_with fail
  generalize hU : ((w.alloc (.cells #[.slice ao key.length cap, .int .i64 side, .int .i64 cur, .int .i64 next, .int .u64 send, .int .u64 ceil, .int .i64 sec, .int .i64 nano] 27 (0, 0))).alloc (.cells #[.int .i64 g, .int .i64 b, .int .u64 c, .int .u64 at1, .int .i64 ss, .int .i64 sn] 29 (0, 0))) = U1
  have HB := Lib.hid (show Below w.heap.size w U1 by rw [← hU]; exact (((Below.refl _ w).alloc (Nat.le_refl _) _).alloc (by simp only [alloc_size]; omega) _))
  have XL := Lib.hid (show U1.heap[w.heap.size]? = some (.cells #[.slice ao key.length cap, .int .i64 side, .int .i64 cur, .int .i64 next, .int .u64 send, .int .u64 ceil, .int .i64 sec, .int .i64 nano] 27 (0, 0)) by rw [← hU]; exact (by simp only [alloc_get, alloc_size]; repeat first | rw [if_pos trivial] | rw [if_neg (by omega)] | rw [if_pos (by omega)]))
  have lL : w.heap.size < U1.heap.size := by rw [← hU]; exact (by simp only [alloc_size]; omega)
  have XN := Lib.hid (show U1.heap[w.heap.size + 1]? = some (.cells #[.int .i64 g, .int .i64 b, .int .u64 c, .int .u64 at1, .int .i64 ss, .int .i64 sn] 29 (0, 0)) by rw [← hU]; exact (by simp only [alloc_get, alloc_size]; repeat first | rw [if_pos trivial] | rw [if_neg (by omega)] | rw [if_pos (by omega)]))
  have lN : w.heap.size + 1 < U1.heap.size := by rw [← hU]; exact (by simp only [alloc_size]; omega)
  have pL_N : w.heap.size < w.heap.size + 1 := by omega
  clear hU
  refine (laneKnown _).mono ?_
  rintro e W2 ⟨rfl, hb⟩
  have hz := hb.size
  have HB2 := Lib.hid (HB.out.trans (hb.mono HB.out.size))
  clear HB
  have HB := HB2
  clear HB2
  have YL := Lib.hid (show W2.heap[w.heap.size]? = some (.cells #[.slice ao key.length cap, .int .i64 side, .int .i64 cur, .int .i64 next, .int .u64 send, .int .u64 ceil, .int .i64 sec, .int .i64 nano] 27 (0, 0)) from (hb.block (w.heap.size) lL).trans XL.out)
  have lL2 : w.heap.size < W2.heap.size := by omega
  clear XL lL
  have XL := YL
  have lL := lL2
  clear YL lL2
  have YN := Lib.hid (show W2.heap[w.heap.size + 1]? = some (.cells #[.int .i64 g, .int .i64 b, .int .u64 c, .int .u64 at1, .int .i64 ss, .int .i64 sn] 29 (0, 0)) from (hb.block (w.heap.size + 1) lN).trans XN.out)
  have lN2 : w.heap.size + 1 < W2.heap.size := by omega
  clear XN lN
  have XN := YN
  have lN := lN2
  clear YN lN2
  clear hb hz
  have xL := XL.out
  have qL_0 : W2.cell? ⟨w.heap.size, 0, none⟩ = some (.slice ao key.length cap) := cell_of_row W2 (w.heap.size) 0 _ _ _ xL
  have qL_1 : W2.cell? ⟨w.heap.size, 1, none⟩ = some (.int .i64 side) := cell_of_row W2 (w.heap.size) 1 _ _ _ xL
  have qL_2 : W2.cell? ⟨w.heap.size, 2, none⟩ = some (.int .i64 cur) := cell_of_row W2 (w.heap.size) 2 _ _ _ xL
  have qL_3 : W2.cell? ⟨w.heap.size, 3, none⟩ = some (.int .i64 next) := cell_of_row W2 (w.heap.size) 3 _ _ _ xL
  have qL_4 : W2.cell? ⟨w.heap.size, 4, none⟩ = some (.int .u64 send) := cell_of_row W2 (w.heap.size) 4 _ _ _ xL
  have qL_5 : W2.cell? ⟨w.heap.size, 5, none⟩ = some (.int .u64 ceil) := cell_of_row W2 (w.heap.size) 5 _ _ _ xL
  have qL_6 : W2.cell? ⟨w.heap.size, 6, none⟩ = some (.int .i64 sec) := cell_of_row W2 (w.heap.size) 6 _ _ _ xL
  have qL_7 : W2.cell? ⟨w.heap.size, 7, none⟩ = some (.int .i64 nano) := cell_of_row W2 (w.heap.size) 7 _ _ _ xL
  have qL_f (i : Nat) : W2.frozen? ⟨w.heap.size, i, none⟩ = false := frozen_of_row W2 (w.heap.size) i _ _ xL
  clear xL
  go_wp2_with fail
  clear qL_0 qL_1 qL_2 qL_3 qL_4 qL_5 qL_6 qL_7 qL_f
  go_ret
  exact ⟨rfl, HB.out⟩
set_option maxRecDepth 100000 in
set_option maxHeartbeats 8000000 in
theorem lawOwns_short (L : Ln) (ao : Option Addr) (cap : Nat) (g b c at1 ss sn : Int) (w : World) (hl : L.key.length ≤ 4096) (hf : L.fits) (hr : Rd w ao L.key) (hc0 : 0 ≤ c) (hc1 : c ≤ 18446744073709551615) (ha0 : 0 ≤ at1) (ha1 : at1 ≤ 18446744073709551615) (hss : ss ≤ 9223372036854775807) : Calls Tryz.prog 3 #[L.val ao cap, .agg #[.int .i64 g, .int .i64 b, .int .u64 c, .int .u64 at1, .int .i64 ss, .int .i64 sn]] w fun e w' => e = .returned (.bool true) ∧ Below w.heap.size w w' := by
  obtain ⟨N0, hN0⟩ : ∃ N, againL L = N := ⟨_, rfl⟩
  have hk0 : N0.key.length ≤ 4096 := by rw [← hN0]; exact keys_len hl
  obtain ⟨k0, s0, c0, n0, e0, f0, x0, y0⟩ := N0
  have HL0 := Lib.hid hk0
  have HN0 := Lib.hid hN0
  clear hk0 hN0
  obtain ⟨N1, hN1⟩ : ∃ N, proposeL L = N := ⟨_, rfl⟩
  have hk1 : N1.key.length ≤ 4096 := by rw [← hN1]; exact keys_len hl
  obtain ⟨k1, s1, c1, n1, e1, f1, x1, y1⟩ := N1
  have HL1 := Lib.hid hk1
  have HN1 := Lib.hid hN1
  clear hk1 hN1
  obtain ⟨N2, hN2⟩ : ∃ N, answeredL L g c ss sn b = N := ⟨_, rfl⟩
  have hk2 : N2.key.length ≤ 4096 := by rw [← hN2]; exact keys_len hl
  obtain ⟨k2, s2, c2, n2, e2, f2, x2, y2⟩ := N2
  have HL2 := Lib.hid hk2
  have HN2 := Lib.hid hN2
  clear hk2 hN2
  obtain ⟨N3, hN3⟩ : ∃ N, newL L.key L.side = N := ⟨_, rfl⟩
  have hk3 : N3.key.length ≤ 4096 := by rw [← hN3]; exact (by unfold newL; split; exact hl; simp [Ln.zero])
  obtain ⟨k3, s3, c3, n3, e3, f3, x3, y3⟩ := N3
  have HL3 := Lib.hid hk3
  have HN3 := Lib.hid hN3
  clear hk3 hN3
  obtain ⟨N4, hN4⟩ : ∃ N, reserveL L at1 b = N := ⟨_, rfl⟩
  have hk4 : N4.key.length ≤ 4096 := by rw [← hN4]; exact keys_len hl
  obtain ⟨k4, s4, c4, n4, e4, f4, x4, y4⟩ := N4
  have HL4 := Lib.hid hk4
  have HN4 := Lib.hid hN4
  clear hk4 hN4
  obtain ⟨N5, hN5⟩ : ∃ N, openedL L g c b = N := ⟨_, rfl⟩
  have hk5 : N5.key.length ≤ 4096 := by rw [← hN5]; exact keys_len hl
  obtain ⟨k5, s5, c5, n5, e5, f5, x5, y5⟩ := N5
  have HL5 := Lib.hid hk5
  have HN5 := Lib.hid hN5
  clear hk5 hN5
  obtain ⟨N6, hN6⟩ : ∃ N, raiseL L c b = N := ⟨_, rfl⟩
  have hk6 : N6.key.length ≤ 4096 := by rw [← hN6]; exact keys_len hl
  obtain ⟨k6, s6, c6, n6, e6, f6, x6, y6⟩ := N6
  have HL6 := Lib.hid hk6
  have HN6 := Lib.hid hN6
  clear hk6 hN6
  obtain ⟨ng, hng⟩ : ∃ x, nextG L = x := ⟨_, rfl⟩
  obtain ⟨ne, hne⟩ : ∃ x, nextE L = x := ⟨_, rfl⟩
  obtain ⟨aa, haa⟩ : ∃ x, atA L g c ss sn b = x := ⟨_, rfl⟩
  have HG := Lib.hid hng
  have HE := Lib.hid hne
  have HA := Lib.hid haa
  clear hng hne haa
  have HF := Lib.hid hf
  have HR := Lib.hid (fun (u : World) (hb : Below w.heap.size w u) => hr.on hb)
  have HLL := Lib.hid hl
  have HC := Lib.hid (And.intro hc0 (And.intro hc1 (And.intro ha0 (And.intro ha1 hss))))
  have HL0 := Lib.hid (show k0.length ≤ 4096 from HL0.out)
  have HL1 := Lib.hid (show k1.length ≤ 4096 from HL1.out)
  have HL2 := Lib.hid (show k2.length ≤ 4096 from HL2.out)
  have HL3 := Lib.hid (show k3.length ≤ 4096 from HL3.out)
  have HL4 := Lib.hid (show k4.length ≤ 4096 from HL4.out)
  have HL5 := Lib.hid (show k5.length ≤ 4096 from HL5.out)
  have HL6 := Lib.hid (show k6.length ≤ 4096 from HL6.out)
  clear hc0 hc1 ha0 ha1 hss hf hr
  obtain ⟨key, side, cur, next, send, ceil, sec, nano⟩ := L
  unfold Ln.val
  simp only at hl ⊢
  go_enter Tryz.func3, Tryz.ntmps3
  go_wp2_with fail
  generalize hU : ((w.alloc (.cells #[.slice ao key.length cap, .int .i64 side, .int .i64 cur, .int .i64 next, .int .u64 send, .int .u64 ceil, .int .i64 sec, .int .i64 nano] 27 (0, 0))).alloc (.cells #[.int .i64 g, .int .i64 b, .int .u64 c, .int .u64 at1, .int .i64 ss, .int .i64 sn] 29 (0, 0))) = U1
  have h0 := ((Bag.start w).allocAt #[.slice ao key.length cap, .int .i64 side, .int .i64 cur, .int .i64 next, .int .u64 send, .int .u64 ceil, .int .i64 sec, .int .i64 nano] 27 (w.heap.size) rfl).allocAt #[.int .i64 g, .int .i64 b, .int .u64 c, .int .u64 at1, .int .i64 ss, .int .i64 sn] 29 (w.heap.size + 1) (by simp only [alloc_size])
  rw [hU] at h0
  have HB := Lib.hid h0
  clear h0 hU
  refine (laneKnown _).mono ?_
  rintro e W2 ⟨rfl, hb⟩
  have h0 := HB.out.call hb
  clear HB
  have HB := Lib.hid h0
  clear h0
  clear hb
  obtain ⟨qL_0, qL_1, qL_2, qL_3, qL_4, qL_5, qL_6, qL_7, qL_f⟩ := cells8 (HB.out.box 1 rfl)
  have qL_l := HB.out.boxLt 1 rfl
  obtain ⟨qN_0, qN_1, qN_2, qN_3, qN_4, qN_5, qN_f⟩ := cells6 (HB.out.box 0 rfl)
  have qN_l := HB.out.boxLt 0 rfl
  have nN_L := HB.out.boxNe 0 1 rfl rfl (by decide)
  go_wp2_with fail
  clear qL_0 qL_1 qL_2 qL_3 qL_4 qL_5 qL_6 qL_7 qL_f qL_l qN_0 qN_1 qN_2 qN_3 qN_4 qN_5 qN_f qN_l nN_L
  refine wp_build _ (bookCells 0 0 (.slice none 0 0) (.slice none 0 0) (.slice none 0 0)) rfl (by kernel_rfl) ?_
  generalize hbc : bookCells 0 0 (.slice none 0 0) (.slice none 0 0) (.slice none 0 0) = BC
  obtain ⟨qL_0, qL_1, qL_2, qL_3, qL_4, qL_5, qL_6, qL_7, qL_f⟩ := cells8 (HB.out.box 1 rfl)
  have qL_l := HB.out.boxLt 1 rfl
  obtain ⟨qN_0, qN_1, qN_2, qN_3, qN_4, qN_5, qN_f⟩ := cells6 (HB.out.box 0 rfl)
  have qN_l := HB.out.boxLt 0 rfl
  have nN_L := HB.out.boxNe 0 1 rfl rfl (by decide)
  go_wp2_with fail
  clear qL_0 qL_1 qL_2 qL_3 qL_4 qL_5 qL_6 qL_7 qL_f qL_l qN_0 qN_1 qN_2 qN_3 qN_4 qN_5 qN_f qN_l nN_L
  have h0 := HB.out.alloc BC 50
  rw [← hbc] at h0
  have HK := Lib.hid h0.booked
  rw [hbc] at HK
  generalize hU : W2.alloc (.cells BC 50 (0, 0)) = U at HK ⊢
  generalize hp : W2.heap.size = p at HK ⊢
  clear h0 hU hp hbc HB
  refine (laneRoomy ⟨key, side, cur, next, send, ceil, sec, nano⟩ ao cap _ hl (HR.out _ HK.out.below)).mono ?_
  rintro e W3 ⟨gw, cw, he, hg, hcw, Ow, hb⟩
  obtain rfl : e = .returned (.agg #[.slice (some ⟨gw, 0, none⟩) key.length cw, .int .i64 side, .int .i64 cur, .int .i64 next, .int .u64 send, .int .u64 ceil, .int .i64 sec, .int .i64 nano]) := he
  have h0 := HK.out.mine hb (Or.inr ⟨gw, rfl, hg, Ow⟩)
  clear HK
  have HK := Lib.hid h0
  clear h0 hg Ow hb
  go_wp2_with fail
  generalize hU : W3.alloc (.cells #[.slice (some ⟨gw, 0, none⟩) key.length cw, .int .i64 side, .int .i64 cur, .int .i64 next, .int .u64 send, .int .u64 ceil, .int .i64 sec, .int .i64 nano] 27 (0, 0)) = U4
  generalize hpW : W3.heap.size = pW
  have h0 := HK.out.alloc #[.slice (some ⟨gw, 0, none⟩) key.length cw, .int .i64 side, .int .i64 cur, .int .i64 next, .int .u64 send, .int .u64 ceil, .int .i64 sec, .int .i64 nano] 27
  rw [hU, hpW] at h0
  clear HK
  have HK := Lib.hid h0
  clear h0 hU hpW
  go_loopw [7] (fun t wr => ∃ k : Nat, k ≤ 2 ∧ t = .int .i64 k ∧ Booked w wr p (7 * k) [.box pW #[.slice (some ⟨gw, 0, none⟩) key.length cw, .int .i64 side, .int .i64 cur, .int .i64 next, .int .u64 send, .int .u64 ceil, .int .i64 sec, .int .i64 nano] 27, .mine 5 (some ⟨gw, 0, none⟩) cw (key ++ [201#8, 202#8, 203#8]), .box (w.heap.size + 1) #[.int .i64 g, .int .i64 b, .int .u64 c, .int .u64 at1, .int .i64 ss, .int .i64 sn] 29, .box (w.heap.size) #[.slice ao key.length cap, .int .i64 side, .int .i64 cur, .int .i64 next, .int .u64 send, .int .u64 ceil, .int .i64 sec, .int .i64 nano] 27]) (fun t _ => 2 - (intOf t).toNat)
  case atStart => exact ⟨0, by omega, rfl, HK.out⟩
  case round =>
    obtain ⟨k, hk, rfl, hK⟩ := hrel
    clear HK
    have HK := Lib.hid hK
    clear hK
    by_cases hlt : k < 2
    ·
      obtain ⟨qW_0, qW_1, qW_2, qW_3, qW_4, qW_5, qW_6, qW_7, qW_f⟩ := cells8 (HK.out.bag.box 0 rfl)
      have qW_l := HK.out.bag.boxLt 0 rfl
      obtain ⟨qN_0, qN_1, qN_2, qN_3, qN_4, qN_5, qN_f⟩ := cells6 (HK.out.bag.box 2 rfl)
      have qN_l := HK.out.bag.boxLt 2 rfl
      go_wp2_with fail
      clear qW_0 qW_1 qW_2 qW_3 qW_4 qW_5 qW_6 qW_7 qW_f qW_l qN_0 qN_1 qN_2 qN_3 qN_4 qN_5 qN_f qN_l
      refine (laneAgain ⟨key, side, cur, next, send, ceil, sec, nano⟩ (some ⟨gw, 0, none⟩) cw _ HF.out (HK.out.bag.mineRd 1 rfl).fore).mono ?_
      rintro e W11 ⟨A0, cA0, he, Mx, hb⟩
      rw [HN0.out] at he Mx
      obtain rfl : e = .returned (.tuple #[.agg #[.slice A0 k0.length cA0, .int .i64 s0, .int .i64 c0, .int .i64 n0, .int .u64 e0, .int .u64 f0, .int .i64 x0, .int .i64 y0], .int .i64 ne]) := by rw [HE.out] at he; exact he
      have h0 := HK.out.mine hb Mx
      clear HK
      have HK := Lib.hid h0
      clear h0
      clear Mx hb
      obtain ⟨qW_0, qW_1, qW_2, qW_3, qW_4, qW_5, qW_6, qW_7, qW_f⟩ := cells8 (HK.out.bag.box 1 rfl)
      have qW_l := HK.out.bag.boxLt 1 rfl
      obtain ⟨qN_0, qN_1, qN_2, qN_3, qN_4, qN_5, qN_f⟩ := cells6 (HK.out.bag.box 3 rfl)
      have qN_l := HK.out.bag.boxLt 3 rfl
      go_wp2_with fail
      generalize hU : W11.alloc (.cells #[.slice A0 k0.length cA0, .int .i64 s0, .int .i64 c0, .int .i64 n0, .int .u64 e0, .int .u64 f0, .int .i64 x0, .int .i64 y0] 27 (0, 0)) = U12
      generalize hpa : W11.heap.size = pa
      have h0 := HK.out.alloc #[.slice A0 k0.length cA0, .int .i64 s0, .int .i64 c0, .int .i64 n0, .int .u64 e0, .int .u64 f0, .int .i64 x0, .int .i64 y0] 27
      rw [hU, hpa] at h0
      clear HK
      have HK := Lib.hid h0
      clear h0 hU hpa
      clear qW_0 qW_1 qW_2 qW_3 qW_4 qW_5 qW_6 qW_7 qW_f qW_l qN_0 qN_1 qN_2 qN_3 qN_4 qN_5 qN_f qN_l
      refine (lanePropose ⟨key, side, cur, next, send, ceil, sec, nano⟩ (some ⟨gw, 0, none⟩) cw _ HF.out (HK.out.bag.mineRd 3 rfl).fore).mono ?_
      rintro e W13 ⟨A1, cA1, he, Mx, hb⟩
      rw [HN1.out] at he Mx
      obtain rfl : e = .returned (.tuple #[.agg #[.slice A1 k1.length cA1, .int .i64 s1, .int .i64 c1, .int .i64 n1, .int .u64 e1, .int .u64 f1, .int .i64 x1, .int .i64 y1], .int .i64 ng, .int .i64 ne]) := by rw [HG.out, HE.out] at he; exact he
      have h0 := HK.out.mine hb Mx
      clear HK
      have HK := Lib.hid h0
      clear h0
      clear Mx hb
      obtain ⟨qW_0, qW_1, qW_2, qW_3, qW_4, qW_5, qW_6, qW_7, qW_f⟩ := cells8 (HK.out.bag.box 3 rfl)
      have qW_l := HK.out.bag.boxLt 3 rfl
      obtain ⟨qN_0, qN_1, qN_2, qN_3, qN_4, qN_5, qN_f⟩ := cells6 (HK.out.bag.box 5 rfl)
      have qN_l := HK.out.bag.boxLt 5 rfl
      go_wp2_with fail
      generalize hU : W13.alloc (.cells #[.slice A1 k1.length cA1, .int .i64 s1, .int .i64 c1, .int .i64 n1, .int .u64 e1, .int .u64 f1, .int .i64 x1, .int .i64 y1] 27 (0, 0)) = U14
      generalize hpb : W13.heap.size = pb
      have h0 := HK.out.alloc #[.slice A1 k1.length cA1, .int .i64 s1, .int .i64 c1, .int .i64 n1, .int .u64 e1, .int .u64 f1, .int .i64 x1, .int .i64 y1] 27
      rw [hU, hpb] at h0
      clear HK
      have HK := Lib.hid h0
      clear h0 hU hpb
      clear qW_0 qW_1 qW_2 qW_3 qW_4 qW_5 qW_6 qW_7 qW_f qW_l qN_0 qN_1 qN_2 qN_3 qN_4 qN_5 qN_f qN_l
      refine (laneAnswered ⟨key, side, cur, next, send, ceil, sec, nano⟩ (some ⟨gw, 0, none⟩) cw g c ss sn b HC.out.1 HC.out.2.1 HC.out.2.2.2.2 _ HF.out (HK.out.bag.mineRd 5 rfl).fore).mono ?_
      rintro e W15 ⟨A2, cA2, he, Mx, hb⟩
      rw [HN2.out] at he Mx
      obtain rfl : e = .returned (.tuple #[.agg #[.slice A2 k2.length cA2, .int .i64 s2, .int .i64 c2, .int .i64 n2, .int .u64 e2, .int .u64 f2, .int .i64 x2, .int .i64 y2], .int .u64 aa]) := by rw [HA.out] at he; exact he
      have h0 := HK.out.mine hb Mx
      clear HK
      have HK := Lib.hid h0
      clear h0
      clear Mx hb
      obtain ⟨qa_0, qa_1, qa_2, qa_3, qa_4, qa_5, qa_6, qa_7, qa_f⟩ := cells8 (HK.out.bag.box 3 rfl)
      have qa_l := HK.out.bag.boxLt 3 rfl
      go_wp2_with fail
      generalize hU : W15.alloc (.cells #[.slice A2 k2.length cA2, .int .i64 s2, .int .i64 c2, .int .i64 n2, .int .u64 e2, .int .u64 f2, .int .i64 x2, .int .i64 y2] 27 (0, 0)) = U16
      generalize hpc : W15.heap.size = pc
      have h0 := HK.out.alloc #[.slice A2 k2.length cA2, .int .i64 s2, .int .i64 c2, .int .i64 n2, .int .u64 e2, .int .u64 f2, .int .i64 x2, .int .i64 y2] 27
      rw [hU, hpc] at h0
      clear HK
      have HK := Lib.hid h0
      clear h0 hU hpc
      clear qa_0 qa_1 qa_2 qa_3 qa_4 qa_5 qa_6 qa_7 qa_f qa_l
      have h0 := HK.out.pick 5 (.mine 5 A0 cA0 k0) rfl
      simp only [List.eraseIdx_cons_zero, List.eraseIdx_cons_succ] at h0
      clear HK
      have HK := Lib.hid h0
      clear h0
      refine (bookBytes w _ p (7 * k) _ A0 cA0 k0 (by have := HL0.out; omega) (by omega) HK.out).mono ?_
      rintro e W17 ⟨⟨v, rfl⟩, h0⟩
      clear HK
      have HK := Lib.hid h0
      clear h0
      obtain ⟨qb_0, qb_1, qb_2, qb_3, qb_4, qb_5, qb_6, qb_7, qb_f⟩ := cells8 (HK.out.bag.box 2 rfl)
      have qb_l := HK.out.bag.boxLt 2 rfl
      go_wp2_with fail
      clear qb_0 qb_1 qb_2 qb_3 qb_4 qb_5 qb_6 qb_7 qb_f qb_l
      have h0 := HK.out.pick 3 (.mine 5 A1 cA1 k1) rfl
      simp only [List.eraseIdx_cons_zero, List.eraseIdx_cons_succ] at h0
      clear HK
      have HK := Lib.hid h0
      clear h0
      refine (bookBytes w _ p (7 * k + 1) _ A1 cA1 k1 (by have := HL1.out; omega) (by omega) HK.out).mono ?_
      rintro e W18 ⟨⟨v, rfl⟩, h0⟩
      clear HK
      have HK := Lib.hid h0
      clear h0
      obtain ⟨qc_0, qc_1, qc_2, qc_3, qc_4, qc_5, qc_6, qc_7, qc_f⟩ := cells8 (HK.out.bag.box 0 rfl)
      have qc_l := HK.out.bag.boxLt 0 rfl
      go_wp2_with fail
      clear qc_0 qc_1 qc_2 qc_3 qc_4 qc_5 qc_6 qc_7 qc_f qc_l
      have h0 := HK.out.pick 1 (.mine 5 A2 cA2 k2) rfl
      simp only [List.eraseIdx_cons_zero, List.eraseIdx_cons_succ] at h0
      clear HK
      have HK := Lib.hid h0
      clear h0
      refine (bookBytes w _ p (7 * k + 1 + 1) _ A2 cA2 k2 (by have := HL2.out; omega) (by omega) HK.out).mono ?_
      rintro e W19 ⟨⟨v, rfl⟩, h0⟩
      clear HK
      have HK := Lib.hid h0
      clear h0
      obtain ⟨qW_0, qW_1, qW_2, qW_3, qW_4, qW_5, qW_6, qW_7, qW_f⟩ := cells8 (HK.out.bag.box 3 rfl)
      have qW_l := HK.out.bag.boxLt 3 rfl
      obtain ⟨qL_0, qL_1, qL_2, qL_3, qL_4, qL_5, qL_6, qL_7, qL_f⟩ := cells8 (HK.out.bag.box 6 rfl)
      have qL_l := HK.out.bag.boxLt 6 rfl
      go_wp2_with fail
      clear qW_0 qW_1 qW_2 qW_3 qW_4 qW_5 qW_6 qW_7 qW_f qW_l qL_0 qL_1 qL_2 qL_3 qL_4 qL_5 qL_6 qL_7 qL_f qL_l
      refine (laneNew key side (some ⟨gw, 0, none⟩) cw _ (HK.out.bag.mineRd 4 rfl).fore).mono ?_
      rintro e W20 ⟨A3, cA3, he, Mx, hb⟩
      rw [HN3.out] at he Mx
      obtain rfl : e = .returned (.agg #[.slice A3 k3.length cA3, .int .i64 s3, .int .i64 c3, .int .i64 n3, .int .u64 e3, .int .u64 f3, .int .i64 x3, .int .i64 y3]) := he
      have h0 := HK.out.mine hb Mx
      clear HK
      have HK := Lib.hid h0
      clear h0
      clear Mx hb
      have hfd : ∀ (u : World), (Instr.field 27 (.agg #[.slice A3 k3.length cA3, .int .i64 s3, .int .i64 c3, .int .i64 n3, .int .u64 e3, .int .u64 f3, .int .i64 x3, .int .i64 y3]) 0).run Tryz.prog u = .ok (.slice A3 k3.length cA3) u := by intro u; rfl
      go_wp2_with fail
      clear hfd
      have h0 := HK.out.pick 0 (.mine 5 A3 cA3 k3) rfl
      simp only [List.eraseIdx_cons_zero] at h0
      clear HK
      have HK := Lib.hid h0
      clear h0
      refine (bookBytes w _ p (7 * k + 1 + 1 + 1) _ A3 cA3 k3 (by have := HL3.out; omega) (by omega) HK.out).mono ?_
      rintro e W21 ⟨⟨v, rfl⟩, h0⟩
      clear HK
      have HK := Lib.hid h0
      clear h0
      obtain ⟨qW_0, qW_1, qW_2, qW_3, qW_4, qW_5, qW_6, qW_7, qW_f⟩ := cells8 (HK.out.bag.box 3 rfl)
      have qW_l := HK.out.bag.boxLt 3 rfl
      obtain ⟨qN_0, qN_1, qN_2, qN_3, qN_4, qN_5, qN_f⟩ := cells6 (HK.out.bag.box 5 rfl)
      have qN_l := HK.out.bag.boxLt 5 rfl
      go_wp2_with fail
      clear qW_0 qW_1 qW_2 qW_3 qW_4 qW_5 qW_6 qW_7 qW_f qW_l qN_0 qN_1 qN_2 qN_3 qN_4 qN_5 qN_f qN_l
      refine (laneReserve ⟨key, side, cur, next, send, ceil, sec, nano⟩ (some ⟨gw, 0, none⟩) cw at1 b HC.out.2.2.1 HC.out.2.2.2.1 _ HF.out (HK.out.bag.mineRd 4 rfl).fore).mono ?_
      rintro e W22 ⟨A4, cA4, he, Mx, hb⟩
      rw [HN4.out] at he Mx
      obtain rfl : e = .returned (.agg #[.slice A4 k4.length cA4, .int .i64 s4, .int .i64 c4, .int .i64 n4, .int .u64 e4, .int .u64 f4, .int .i64 x4, .int .i64 y4]) := he
      have h0 := HK.out.mine hb Mx
      clear HK
      have HK := Lib.hid h0
      clear h0
      clear Mx hb
      have hfd : ∀ (u : World), (Instr.field 27 (.agg #[.slice A4 k4.length cA4, .int .i64 s4, .int .i64 c4, .int .i64 n4, .int .u64 e4, .int .u64 f4, .int .i64 x4, .int .i64 y4]) 0).run Tryz.prog u = .ok (.slice A4 k4.length cA4) u := by intro u; rfl
      go_wp2_with fail
      clear hfd
      have h0 := HK.out.pick 0 (.mine 5 A4 cA4 k4) rfl
      simp only [List.eraseIdx_cons_zero] at h0
      clear HK
      have HK := Lib.hid h0
      clear h0
      refine (bookBytes w _ p (7 * k + 1 + 1 + 1 + 1) _ A4 cA4 k4 (by have := HL4.out; omega) (by omega) HK.out).mono ?_
      rintro e W23 ⟨⟨v, rfl⟩, h0⟩
      clear HK
      have HK := Lib.hid h0
      clear h0
      obtain ⟨qW_0, qW_1, qW_2, qW_3, qW_4, qW_5, qW_6, qW_7, qW_f⟩ := cells8 (HK.out.bag.box 3 rfl)
      have qW_l := HK.out.bag.boxLt 3 rfl
      obtain ⟨qN_0, qN_1, qN_2, qN_3, qN_4, qN_5, qN_f⟩ := cells6 (HK.out.bag.box 5 rfl)
      have qN_l := HK.out.bag.boxLt 5 rfl
      go_wp2_with fail
      clear qW_0 qW_1 qW_2 qW_3 qW_4 qW_5 qW_6 qW_7 qW_f qW_l qN_0 qN_1 qN_2 qN_3 qN_4 qN_5 qN_f qN_l
      refine (laneOpened ⟨key, side, cur, next, send, ceil, sec, nano⟩ (some ⟨gw, 0, none⟩) cw g c b HC.out.1 HC.out.2.1 _ HF.out (HK.out.bag.mineRd 4 rfl).fore).mono ?_
      rintro e W24 ⟨A5, cA5, he, Mx, hb⟩
      rw [HN5.out] at he Mx
      obtain rfl : e = .returned (.agg #[.slice A5 k5.length cA5, .int .i64 s5, .int .i64 c5, .int .i64 n5, .int .u64 e5, .int .u64 f5, .int .i64 x5, .int .i64 y5]) := he
      have h0 := HK.out.mine hb Mx
      clear HK
      have HK := Lib.hid h0
      clear h0
      clear Mx hb
      have hfd : ∀ (u : World), (Instr.field 27 (.agg #[.slice A5 k5.length cA5, .int .i64 s5, .int .i64 c5, .int .i64 n5, .int .u64 e5, .int .u64 f5, .int .i64 x5, .int .i64 y5]) 0).run Tryz.prog u = .ok (.slice A5 k5.length cA5) u := by intro u; rfl
      go_wp2_with fail
      clear hfd
      have h0 := HK.out.pick 0 (.mine 5 A5 cA5 k5) rfl
      simp only [List.eraseIdx_cons_zero] at h0
      clear HK
      have HK := Lib.hid h0
      clear h0
      refine (bookBytes w _ p (7 * k + 1 + 1 + 1 + 1 + 1) _ A5 cA5 k5 (by have := HL5.out; omega) (by omega) HK.out).mono ?_
      rintro e W25 ⟨⟨v, rfl⟩, h0⟩
      clear HK
      have HK := Lib.hid h0
      clear h0
      obtain ⟨qW_0, qW_1, qW_2, qW_3, qW_4, qW_5, qW_6, qW_7, qW_f⟩ := cells8 (HK.out.bag.box 3 rfl)
      have qW_l := HK.out.bag.boxLt 3 rfl
      obtain ⟨qN_0, qN_1, qN_2, qN_3, qN_4, qN_5, qN_f⟩ := cells6 (HK.out.bag.box 5 rfl)
      have qN_l := HK.out.bag.boxLt 5 rfl
      go_wp2_with fail
      clear qW_0 qW_1 qW_2 qW_3 qW_4 qW_5 qW_6 qW_7 qW_f qW_l qN_0 qN_1 qN_2 qN_3 qN_4 qN_5 qN_f qN_l
      refine (laneRaise ⟨key, side, cur, next, send, ceil, sec, nano⟩ (some ⟨gw, 0, none⟩) cw c b HC.out.1 HC.out.2.1 _ HF.out (HK.out.bag.mineRd 4 rfl).fore).mono ?_
      rintro e W26 ⟨A6, cA6, he, Mx, hb⟩
      rw [HN6.out] at he Mx
      obtain rfl : e = .returned (.agg #[.slice A6 k6.length cA6, .int .i64 s6, .int .i64 c6, .int .i64 n6, .int .u64 e6, .int .u64 f6, .int .i64 x6, .int .i64 y6]) := he
      have h0 := HK.out.mine hb Mx
      clear HK
      have HK := Lib.hid h0
      clear h0
      clear Mx hb
      have hfd : ∀ (u : World), (Instr.field 27 (.agg #[.slice A6 k6.length cA6, .int .i64 s6, .int .i64 c6, .int .i64 n6, .int .u64 e6, .int .u64 f6, .int .i64 x6, .int .i64 y6]) 0).run Tryz.prog u = .ok (.slice A6 k6.length cA6) u := by intro u; rfl
      go_wp2_with fail
      clear hfd
      have h0 := HK.out.pick 0 (.mine 5 A6 cA6 k6) rfl
      simp only [List.eraseIdx_cons_zero] at h0
      clear HK
      have HK := Lib.hid h0
      clear h0
      refine (bookBytes w _ p (7 * k + 1 + 1 + 1 + 1 + 1 + 1) _ A6 cA6 k6 (by have := HL6.out; omega) (by omega) HK.out).mono ?_
      rintro e W27 ⟨⟨v, rfl⟩, h0⟩
      clear HK
      have HK := Lib.hid h0
      clear h0
      have h0 := HK.out.tail.tail.tail.le (m := 7 * (k + 1)) (by omega)
      clear HK
      have HK := Lib.hid h0
      clear h0
      go_wp2_with fail
      go_roundw
      case rel => exact ⟨k + 1, by omega, by go_num, HK.out⟩
      case measure => simp [intOf]; omega
    · obtain rfl : k = 2 := by omega
      go_wp2_with fail
      refine (bookDoneB w wr p (7 * 2) _ (by omega) HK.out).mono ?_
      rintro e W40 ⟨rfl, hB⟩
      clear HK
      have HB := Lib.hid hB
      clear hB
      obtain ⟨qW_0, qW_1, qW_2, qW_3, qW_4, qW_5, qW_6, qW_7, qW_f⟩ := cells8 (HB.out.box 0 rfl)
      have qW_l := HB.out.boxLt 0 rfl
      obtain ⟨qL_0, qL_1, qL_2, qL_3, qL_4, qL_5, qL_6, qL_7, qL_f⟩ := cells8 (HB.out.box 3 rfl)
      have qL_l := HB.out.boxLt 3 rfl
      go_wp2_with fail
      refine (laneStays ⟨key, side, cur, next, send, ceil, sec, nano⟩ ⟨key, side, cur, next, send, ceil, sec, nano⟩ gw cw ao cap _ hl (HB.out.mineOwn 1 rfl) rfl (HR.out _ HB.out.below)).mono ?_
      rintro e W41 ⟨rfl, hb⟩
      have HB2 := Lib.hid (HB.out.call hb)
      go_wp2_with fail
      refine (laneKnown _).mono ?_
      rintro e W42 ⟨rfl, hb2⟩
      go_wp2_with fail
      go_ret
      exact ⟨rfl, (HB2.out.call hb2).below⟩
theorem lawOwns (L : Ln) (ao : Option Addr) (cap : Nat) (g b c at1 ss sn : Int) (w : World) (hf : L.key.length ≤ 140737488351232 → L.fits) (hr : Rd w ao L.key) (hc : 0 ≤ c ∧ c ≤ 18446744073709551615) (ha : 0 ≤ at1 ∧ at1 ≤ 18446744073709551615) (hss : ss ≤ 9223372036854775807) : Calls Tryz.prog 3 #[L.val ao cap, .agg #[.int .i64 g, .int .i64 b, .int .u64 c, .int .u64 at1, .int .i64 ss, .int .i64 sn]] w fun e w' => e = .returned (.bool true) ∧ Below w.heap.size w w' := by
  by_cases hl : L.key.length ≤ 4096
  · exact lawOwns_short L ao cap g b c at1 ss sn w hl (hf (by omega)) hr hc.1 hc.2 ha.1 ha.2 hss
  · exact lawOwns_long L ao cap g b c at1 ss sn w (by omega)
end Go.Proofs.YtjlhnepjpjlppaaGreatDoor
