/- The walk of LaneRises. -/
import Derived.Test.YtihndipgdogebaaLaneOps
import Derived.Test.YtihndipgdogebaaLaneNext
import Derived.Test.YtihndipgdogebaaLaneRg
import Derived.Deep.CutRange
import Derived.Test.YtihndipgdogebaaLaneProf
import Derived.Test.YtihndipgdogebaaLaneLoop
namespace Go.Proofs.Ytihndipgdogebaa
open Go.RowKit
theorem lawAfter (a b c d : Int) (w : World) : Calls Try.prog 39 #[.agg #[.int .i64 a, .int .i64 b], .agg #[.int .i64 c, .int .i64 d]] w fun e w' => e = .returned (.bool (aftB a b c d)) ∧ Below w.heap.size w w' := by
  by_cases h1 : c < a
  · have hb : aftB a b c d = true := by simp [aftB, h1]
    rw [hb]
    go_enter Try.func39, Try.ntmps39
    go_wp2
    go_ret
    exact ⟨rfl, fresh2 _ _ _⟩
  · by_cases h2 : a = c
    · subst h2
      have hb : aftB a b a d = decide (d < b) := by simp [aftB]
      have h3 : (a == a) = true := by simp
      rw [hb]
      go_enter Try.func39, Try.ntmps39
      go_wp2
      go_ret
      exact ⟨rfl, fresh2 _ _ _⟩
    · have hb : aftB a b c d = false := by simp [aftB, h1, h2]
      have h3 : (a == c) = false := by simp [h2]
      rw [hb]
      go_enter Try.func39, Try.ntmps39
      go_wp2
      go_ret
      exact ⟨rfl, fresh2 _ _ _⟩
/-- The loop of LaneRises. -/
structure RiseInv (w wr : World) (b : Nat) (key : List (BitVec 8)) (side : Int) (M : Ln) (ar : Option Addr) (cr : Nat) (last : Int) : Prop where
  box : LaneBox w wr b M ar cr
  ok : M.ok = true
  key : M.key = key
  side : M.side = side
  last : last ≤ M.next
def RiseRel (w : World) (b : Nat) (n : Nat) (key : List (BitVec 8)) (side : Int) (s8 i : Value) (wr : World) : Prop := ∃ (k : Nat) (M : Ln) (ar : Option Addr) (cr : Nat) (last : Int), k ≤ n ∧ k ≤ 2000 ∧ i = .int .i64 k ∧ s8 = .int .i64 last ∧ RiseInv w wr b key side M ar cr last
set_option maxRecDepth 100000 in
theorem lawRises_n0 (key : List (BitVec 8)) (ao : Option Addr) (cap : Nat) (side : Int) (ops : List Ask) (op : Option Addr) (cop : Nat) (w : World) (hr : Rd w ao key) (h : ¬ key.length = 32) : Calls Try.prog 8 #[.slice ao key.length cap, .int .i64 side, .slice op ops.length cop] w fun e w' => e = .returned (.bool true) ∧ Below w.heap.size w w' := by
  have hz : newL key side = Ln.zero := by
    unfold newL
    rw [if_neg]
    intro hok
    have := (ok_iff.1 hok).1
    simp only at this
    omega
  have e1 : ((key.length : Int) != 32) = true := by rw [bne_iff_ne]; omega
  have HZ := Lib.hid hz
  clear h hz
  go_enter Try.func8, Try.ntmps8
  go_wp2_with fail
  refine (laneKnown _).mono ?_
  rintro e w1 ⟨rfl, hb1⟩
  go_wp2_with fail
  refine (laneNew key side ao cap _ (hr.on hb1)).mono ?_
  rintro e w2 ⟨A0, cA0, he, hm, hb2⟩
  rw [HZ.out] at he
  obtain rfl : e = .returned (.agg #[.slice A0 0 cA0, .int .i64 0, .int .i64 0, .int .i64 0, .int .u64 0, .int .u64 0, .int .i64 0, .int .i64 0]) := he
  have HB := Lib.hid (hb1.trans (hb2.mono hb1.size))
  clear hb1 hb2 hm
  go_wp2_with fail
  go_ret
  exact ⟨rfl, HB.out.alloc HB.out.size _⟩
set_option maxRecDepth 100000 in
theorem lawRises_n1 (key : List (BitVec 8)) (ao : Option Addr) (cap : Nat) (side : Int) (ops : List Ask) (op : Option Addr) (cop : Nat) (w : World) (hr : Rd w ao key) (h : key.length = 32) (h1 : ¬ 0 ≤ side) : Calls Try.prog 8 #[.slice ao key.length cap, .int .i64 side, .slice op ops.length cop] w fun e w' => e = .returned (.bool true) ∧ Below w.heap.size w w' := by
  have hz : newL key side = Ln.zero := by
    unfold newL
    rw [if_neg]
    intro hok
    have := (ok_iff.1 hok).1
    simp only at this
    omega
  have e1 : ((key.length : Int) != 32) = false := by rw [bne_eq_false_iff_eq]; omega
  have h2 : side < 0 := by omega
  have HZ := Lib.hid hz
  clear h hz h1
  go_enter Try.func8, Try.ntmps8
  go_wp2_with fail
  refine (laneKnown _).mono ?_
  rintro e w1 ⟨rfl, hb1⟩
  go_wp2_with fail
  refine (laneNew key side ao cap _ (hr.on hb1)).mono ?_
  rintro e w2 ⟨A0, cA0, he, hm, hb2⟩
  rw [HZ.out] at he
  obtain rfl : e = .returned (.agg #[.slice A0 0 cA0, .int .i64 0, .int .i64 0, .int .i64 0, .int .u64 0, .int .u64 0, .int .i64 0, .int .i64 0]) := he
  have HB := Lib.hid (hb1.trans (hb2.mono hb1.size))
  clear hb1 hb2 hm
  go_wp2_with fail
  go_ret
  exact ⟨rfl, HB.out.alloc HB.out.size _⟩
set_option maxRecDepth 100000 in
theorem lawRises_n2 (key : List (BitVec 8)) (ao : Option Addr) (cap : Nat) (side : Int) (ops : List Ask) (op : Option Addr) (cop : Nat) (w : World) (hr : Rd w ao key) (h : key.length = 32) (h1 : 0 ≤ side) (h2 : ¬ side ≤ 1) : Calls Try.prog 8 #[.slice ao key.length cap, .int .i64 side, .slice op ops.length cop] w fun e w' => e = .returned (.bool true) ∧ Below w.heap.size w w' := by
  have hz : newL key side = Ln.zero := by
    unfold newL
    rw [if_neg]
    intro hok
    have := (ok_iff.1 hok).1
    simp only at this
    omega
  have e1 : ((key.length : Int) != 32) = false := by rw [bne_eq_false_iff_eq]; omega
  have h3 : 1 < side := by omega
  have HZ := Lib.hid hz
  clear h hz h2
  go_enter Try.func8, Try.ntmps8
  go_wp2_with fail
  refine (laneKnown _).mono ?_
  rintro e w1 ⟨rfl, hb1⟩
  go_wp2_with fail
  refine (laneNew key side ao cap _ (hr.on hb1)).mono ?_
  rintro e w2 ⟨A0, cA0, he, hm, hb2⟩
  rw [HZ.out] at he
  obtain rfl : e = .returned (.agg #[.slice A0 0 cA0, .int .i64 0, .int .i64 0, .int .i64 0, .int .u64 0, .int .u64 0, .int .i64 0, .int .i64 0]) := he
  have HB := Lib.hid (hb1.trans (hb2.mono hb1.size))
  clear hb1 hb2 hm
  go_wp2_with fail
  go_ret
  exact ⟨rfl, HB.out.alloc HB.out.size _⟩
set_option maxRecDepth 100000 in
set_option maxHeartbeats 30000000 in
theorem lawRises_y (key : List (BitVec 8)) (ao : Option Addr) (cap : Nat) (side : Int) (ops : List Ask) (op : Option Addr) (cop : Nat) (w : World) (hr : Rd w ao key) (hlo : ops.length ≤ maxLen) (hro : Ro w op ops) (hof : ∀ i, i < ops.length → (ops.getD i Ask.none).fits) (hk : key.length = 32) (hs0 : 0 ≤ side) (hs1 : side ≤ 1) : Calls Try.prog 8 #[.slice ao key.length cap, .int .i64 side, .slice op ops.length cop] w fun e w' => e = .returned (.bool true) ∧ Below w.heap.size w w' := by
  unfold maxLen at hlo
  have HR := Lib.hid hro
  have HOF := Lib.hid hof
  have hok : Ln.ok ⟨key, side, 1, 0, 0, 0, 0, 0⟩ = true := ok_iff.2 ⟨⟨hk, hs0, hs1⟩, ⟨by simp, by simp, by simp, by simp⟩, rfl⟩
  have HN := Lib.hid (show newL key side = ⟨key, side, 1, 0, 0, 0, 0, 0⟩ by unfold newL; rw [if_pos hok])
  have HF := Lib.hid (show Ln.fits ⟨key, side, 1, 0, 0, 0, 0, 0⟩ by have h := newL_fits key side (by omega); rw [HN.out] at h; exact h)
  have HOK := Lib.hid hok
  have HKL := Lib.hid hk
  have hkl : key.length ≤ 281474976710656 := by omega
  clear hro hof hok hk
  go_enter Try.func8, Try.ntmps8
  go_wp2_with fail
  have HB := Lib.hid (Bag.start w)
  refine (laneKnown _).mono ?_
  rintro e W1 ⟨rfl, hb⟩
  have h0 := HB.out.call hb
  clear HB
  have HB := Lib.hid h0
  clear h0
  clear hb
  go_wp2_with fail
  refine (laneNew key side ao cap _ (hr.on HB.out.below)).mono ?_
  rintro e W2 ⟨A0, cA0, he, Mx, hb⟩
  rw [HN.out] at he Mx
  obtain rfl : e = .returned (.agg #[.slice A0 key.length cA0, .int .i64 side, .int .i64 1, .int .i64 0, .int .u64 0, .int .u64 0, .int .i64 0, .int .i64 0]) := he
  have h0 := HB.out.mine hb Mx
  clear HB
  have HB := Lib.hid h0
  clear h0
  clear Mx
  clear hb
  go_wp2_with fail
  generalize hU : W2.alloc (.cells #[.slice A0 key.length cA0, .int .i64 side, .int .i64 1, .int .i64 0, .int .u64 0, .int .u64 0, .int .i64 0, .int .i64 0] 27 (0, 0)) = U3
  have h0 := HB.out.alloc #[.slice A0 key.length cA0, .int .i64 side, .int .i64 1, .int .i64 0, .int .u64 0, .int .u64 0, .int .i64 0, .int .i64 0] 27
  rw [hU] at h0
  clear HB
  have HB := Lib.hid h0
  clear h0
  clear hU
  have hA := (HB.out.mineRd 1 rfl)
  have hAl := fun a h => And.intro (HB.out.mineFar 1 rfl a h).2 (HB.out.mineNe 1 0 rfl rfl (by decide) a h)
  have h0 := HB.out.erase 1
  simp only [List.eraseIdx_cons_zero, List.eraseIdx_cons_succ] at h0
  clear HB
  have HB := Lib.hid h0
  clear h0
  have HLB := Lib.hid (RiseInv.mk (last := 0) (LaneBox.mk (M := ⟨key, side, 1, 0, 0, 0, 0, 0⟩) HB.out hA HF.out hAl) HOK.out rfl rfl (Int.le_refl _))
  clear hA hAl HF HOK HB
  go_loopw [8, 9] (RiseRel w W2.heap.size ops.length key side) (fun _ i _ => 2000 - (intOf i).toNat)
  case atStart => exact ⟨0, ⟨key, side, 1, 0, 0, 0, 0, 0⟩, A0, cA0, 0, Nat.zero_le _, by omega, rfl, rfl, HLB.out⟩
  case round =>
    obtain ⟨k, M, ar, cr, last, hk1, hk2, rfl, rfl, hB, hMok, hMk, hMs, hMl⟩ := hrel
    clear HLB HN
    have hMF := Lib.hid hB.fits
    have HMO := Lib.hid hMok
    obtain ⟨k1, s1, c1, n1, e1, f1, x1, y1⟩ := M
    obtain rfl : k1 = key := hMk
    obtain rfl : s1 = side := hMs
    simp only at hMl
    clear hMok
    by_cases h1 : k < ops.length
    · by_cases h2 : k < 2000
      ·
        obtain ⟨ob, oo, rfl, hcell⟩ : ∃ b o, op = some ⟨b, o, none⟩ ∧ _ := (HR.out.on hB.bag.below).resolve_left (by intro h; rw [h] at h1; simp at h1)
        have HO := Lib.hid (HOF.out k h1)
        obtain ⟨g0, g1, g2, g3, g4, g5, g6⟩ := hcell k h1
        clear hcell
        have hob := lt_of_cell g0
        obtain ⟨O, hOk⟩ : ∃ O, ops.getD k Ask.none = O := ⟨_, rfl⟩
        rw [hOk] at HO g0 g1 g2 g3 g4 g5 g6
        obtain ⟨kd, og, ob', oc, oa, os, on⟩ := O
        have HKD := Lib.hid (show (ops.getD k Ask.none).kind = kd by rw [hOk])
        clear hOk
        simp only at g0 g1 g2 g3 g4 g5 g6
        have hx : wr.heap[W2.heap.size]? = some (.cells #[.slice ar k1.length cr, .int .i64 s1, .int .i64 c1, .int .i64 n1, .int .u64 e1, .int .u64 f1, .int .i64 x1, .int .i64 y1] 27 (0, 0)) := hB.bag.box 0 rfl
        obtain ⟨q0, q1, q2, q3, q4, q5, q6, q7, qf⟩ := cells8 hx
        have HX := Lib.hid hx
        clear hx
        have ql := hB.bag.boxLt 0 rfl
        have HLT := Lib.hid (fun a h => (hB.lt a h).1)
        have hB' := Lib.hid hB
        have hrd : Rd wr ar k1 := hB.rd
        have HRD := Lib.hid hrd
        clear hB hrd
        have hst : ∀ (W' : World), Rd W' ar k1 → Calls Try.prog 37 #[.agg #[.slice ar k1.length cr, .int .i64 s1, .int .i64 c1, .int .i64 n1, .int .u64 e1, .int .u64 f1, .int .i64 x1, .int .i64 y1], .agg #[.int .i64 kd, .int .i64 og, .int .i64 ob', .int .u64 oc, .int .u64 oa, .int .i64 os, .int .i64 on]] W' (StepR W' ar (stepL ⟨k1, s1, c1, n1, e1, f1, x1, y1⟩ ⟨kd, og, ob', oc, oa, os, on⟩) [.int .i64 (givenL ⟨k1, s1, c1, n1, e1, f1, x1, y1⟩ ⟨kd, og, ob', oc, oa, os, on⟩), .int .u64 (atL ⟨k1, s1, c1, n1, e1, f1, x1, y1⟩ ⟨kd, og, ob', oc, oa, os, on⟩)]) :=
          fun W' h => lawNext ⟨k1, s1, c1, n1, e1, f1, x1, y1⟩ ar cr ⟨kd, og, ob', oc, oa, os, on⟩ W' hMF.out HO.out h
        have hzf := (turn_of ⟨k1, s1, c1, n1, e1, f1, x1, y1⟩ ⟨kd, og, ob', oc, oa, os, on⟩).rise.fits hMF.out HO.out
        have htn := turn_of ⟨k1, s1, c1, n1, e1, f1, x1, y1⟩ ⟨kd, og, ob', oc, oa, os, on⟩
        generalize stepL ⟨k1, s1, c1, n1, e1, f1, x1, y1⟩ ⟨kd, og, ob', oc, oa, os, on⟩ = Z at hst hzf htn
        generalize givenL ⟨k1, s1, c1, n1, e1, f1, x1, y1⟩ ⟨kd, og, ob', oc, oa, os, on⟩ = gv at hst htn
        generalize atL ⟨k1, s1, c1, n1, e1, f1, x1, y1⟩ ⟨kd, og, ob', oc, oa, os, on⟩ = av at hst htn
        obtain ⟨k2, s2, c2, n2, e2, f2, x2, y2⟩ := Z
        have HST := Lib.hid hst
        have HZF := Lib.hid hzf
        have HT := Lib.hid htn
        clear hst hzf htn
        go_upto_region 10 with fail
        go_cut [10, 11, 12] from 47 to 56 (fun p o1 o2 wc => StepBox wr ar ⟨k2, s2, c2, n2, e2, f2, x2, y2⟩ p wc ∧ o1 = .int .i64 gv ∧ o2 = .int .u64 av)
        case first =>
          refine wp_calm (regionRises HX.out HRD.out HLT.out h1 (by omega) HST.out g0 g1 g2 g3 g4 g5 g6 ?_)
          intro p o1 o2 v47 v48 v49 v50 v51 v52 v53 v54 v55 v56 wc hs1 hs2 hs3
          dsimp only
          go_wp2_with fail
          go_meet
          case rel => exact ⟨hs1, (by first | exact hs2 | rfl), (by first | exact hs3 | rfl)⟩
        case rest =>
          obtain ⟨⟨g, ar2, cr2, rfl, hg, hx2, hrd2, hlt2, hbc⟩, rfl, rfl⟩ := hcut
          obtain ⟨q0, q1, q2, q3, q4, q5, q6, q7, qf⟩ := cells8 (show wc.heap[W2.heap.size]? = some (.cells #[.slice ar k1.length cr, .int .i64 s1, .int .i64 c1, .int .i64 n1, .int .u64 e1, .int .u64 f1, .int .i64 x1, .int .i64 y1] 27 (0, 0)) from (hB'.out.bag.call hbc).box 0 rfl)
          have hx2' : wc.heap[g]? = some (.cells #[.slice ar2 k2.length cr2, .int .i64 s2, .int .i64 c2, .int .i64 n2, .int .u64 e2, .int .u64 f2, .int .i64 x2, .int .i64 y2] 27 (0, 0)) := hx2
          have hgl := Nat.lt_of_lt_of_le ql hg
          have hrd2 : Rd wc ar2 k2 := hrd2
          have HRZ := Lib.hid (hB'.out.keyAt hrd2 hlt2)
          have HB := Lib.hid (hB'.out.bag.cons hbc (x := .box g #[.slice ar2 k2.length cr2, .int .i64 s2, .int .i64 c2, .int .i64 n2, .int .u64 e2, .int .u64 f2, .int .i64 x2, .int .i64 y2] 27) hx2 (fun k hk => by rw [show k = g from hk]; exact hg))
          have hTr := HT.out.rise
          have HZO := Lib.hid (hTr.ok HMO.out)
          have hzk : k2 = k1 := hTr.key
          have hzs : s2 = s1 := hTr.side
          have hpr := HT.out.prof last hMl
          have HRM := Lib.hid (HRD.out.on hbc)
          clear q0 q1 q2 q3 q4 q5 q6 q7 qf g0 g1 g2 g3 g4 g5 g6 hx2 hx2' hrd2 hlt2 hbc hB' hTr
          subst hzk hzs
          have HPR := Lib.hid hpr
          clear hpr
          obtain ⟨qz_0, qz_1, qz_2, qz_3, qz_4, qz_5, qz_6, qz_7, qz_f⟩ := cells8 (HB.out.box 0 rfl)
          have qz_l := HB.out.boxLt 0 rfl
          go_wp2_with fail
          clear qz_0 qz_1 qz_2 qz_3 qz_4 qz_5 qz_6 qz_7 qz_f qz_l
          refine (laneValid ⟨k2, s2, c2, n2, e2, f2, x2, y2⟩ ar2 cr2 HZF.out.sec1 _).mono ?_
          rintro e W11 ⟨he, hb⟩
          rw [HZO.out] at he
          subst he
          have HRZ2 := Lib.hid (HRZ.out.on hb)
          clear HRZ
          have HRZ := HRZ2
          clear HRZ2
          have HRM2 := Lib.hid (HRM.out.on hb)
          clear HRM
          have HRM := HRM2
          clear HRM2
          have h0 := HB.out.call hb
          clear HB
          have HB := Lib.hid h0
          clear h0
          clear hb
          obtain ⟨qz_0, qz_1, qz_2, qz_3, qz_4, qz_5, qz_6, qz_7, qz_f⟩ := cells8 (HB.out.box 0 rfl)
          have qz_l := HB.out.boxLt 0 rfl
          go_wp2_with fail
          clear qz_0 qz_1 qz_2 qz_3 qz_4 qz_5 qz_6 qz_7 qz_f qz_l
          have hkk : (k2 == k2) = true := by simp
          refine (sameBytes ar2 ao k2 k2 cr2 cap _ hkl hkl HRZ.out.rd (hr.on HB.out.below)).mono ?_
          rintro e W12 ⟨he, hst⟩
          rw [hkk] at he
          subst he
          have hb := hst.below W11.heap.size
          clear hst
          have HRZ2 := Lib.hid (HRZ.out.on hb)
          clear HRZ
          have HRZ := HRZ2
          clear HRZ2
          have HRM2 := Lib.hid (HRM.out.on hb)
          clear HRM
          have HRM := HRM2
          clear HRM2
          have h0 := HB.out.call hb
          clear HB
          have HB := Lib.hid h0
          clear h0
          clear hb
          clear hkk
          obtain ⟨qz_0, qz_1, qz_2, qz_3, qz_4, qz_5, qz_6, qz_7, qz_f⟩ := cells8 (HB.out.box 0 rfl)
          have qz_l := HB.out.boxLt 0 rfl
          obtain ⟨ql_0, ql_1, ql_2, ql_3, ql_4, ql_5, ql_6, ql_7, ql_f⟩ := cells8 (HB.out.box 1 rfl)
          have ql_l := HB.out.boxLt 1 rfl
          have nl_z := HB.out.boxNe 1 0 rfl rfl (by decide)
          go_wp2_with fail
          clear qz_0 qz_1 qz_2 qz_3 qz_4 qz_5 qz_6 qz_7 qz_f qz_l ql_0 ql_1 ql_2 ql_3 ql_4 ql_5 ql_6 ql_7 ql_f ql_l nl_z
          refine (sameLane ⟨k2, s2, c2, n2, e2, f2, x2, y2⟩ ⟨k2, s2, c1, n1, e1, f1, x1, y1⟩ ar2 ar cr2 cr _ hkl hkl HRZ.out.rd HRM.out).mono ?_
          rintro e W13 ⟨he, hb⟩
          obtain ⟨sb, hsb⟩ : ∃ b, sameL ⟨k2, s2, c2, n2, e2, f2, x2, y2⟩ ⟨k2, s2, c1, n1, e1, f1, x1, y1⟩ = b := ⟨_, rfl⟩
          rw [hsb] at he
          subst he
          have HSB := Lib.hid hsb
          clear hsb HRM
          have HRZ2 := Lib.hid (HRZ.out.on hb)
          clear HRZ
          have HRZ := HRZ2
          clear HRZ2
          have h0 := HB.out.call hb
          clear HB
          have HB := Lib.hid h0
          clear h0
          clear hb
          have hkd : W13.cell? ⟨ob, oo + k * 7, none⟩ = some (.int .i64 kd) := (HR.out.on HB.out.below).kind h1 HKD.out
          have hrs := HT.out.rises
          have pgec : c1 ≤ c2 := hrs.cur
          have pgen : n1 ≤ n2 := hrs.next
          have HA0 := Lib.hid (show aftB x1 y1 x2 y2 = false from hrs.seen)
          have HSEND := Lib.hid (show c2 = c1 → e1 ≤ e2 ∧ f1 ≤ f2 from fun h => ⟨hrs.send h, hrs.ceil h⟩)
          have HGIV := Lib.hid (show 0 ≤ gv → c1 < gv ∧ n1 < gv ∧ gv = n2 from hrs.given)
          clear hrs
          obtain ⟨qz_0, qz_1, qz_2, qz_3, qz_4, qz_5, qz_6, qz_7, qz_f⟩ := cells8 (HB.out.box 0 rfl)
          have qz_l := HB.out.boxLt 0 rfl
          obtain ⟨ql_0, ql_1, ql_2, ql_3, ql_4, ql_5, ql_6, ql_7, ql_f⟩ := cells8 (HB.out.box 1 rfl)
          have ql_l := HB.out.boxLt 1 rfl
          have nl_z := HB.out.boxNe 1 0 rfl rfl (by decide)
          go_wp2_with fail
          clear qz_0 qz_1 qz_2 qz_3 qz_4 qz_5 qz_6 qz_7 qz_f qz_l ql_0 ql_1 ql_2 ql_3 ql_4 ql_5 ql_6 ql_7 ql_f ql_l nl_z
          refine (lawAfter x1 y1 x2 y2 _).mono ?_
          rintro e W14 ⟨he, hb⟩
          rw [HA0.out] at he
          subst he
          have HRZ2 := Lib.hid (HRZ.out.on hb)
          clear HRZ
          have HRZ := HRZ2
          clear HRZ2
          have h0 := HB.out.call hb
          clear HB
          have HB := Lib.hid h0
          clear h0
          clear hb
          obtain ⟨qz_0, qz_1, qz_2, qz_3, qz_4, qz_5, qz_6, qz_7, qz_f⟩ := cells8 (HB.out.box 0 rfl)
          have qz_l := HB.out.boxLt 0 rfl
          obtain ⟨ql_0, ql_1, ql_2, ql_3, ql_4, ql_5, ql_6, ql_7, ql_f⟩ := cells8 (HB.out.box 1 rfl)
          have ql_l := HB.out.boxLt 1 rfl
          have nl_z := HB.out.boxNe 1 0 rfl rfl (by decide)
          go_upto_region 17 with fail
          go_cut [123] from 105 to 123 (fun t wx => t = .bool false ∧ W14 = wx)
          case first =>
            by_cases hc : c2 = c1
            · obtain ⟨pe, pf⟩ := HSEND.out hc
              have i1 : (c2 == c1) = true := by simp [hc]
              clear hc
              go_wp2_with fail
              go_meet
              case rel => exact ⟨(by first | rfl | (simp; omega)), rfl⟩
            · have i1 : (c2 == c1) = false := by simp [hc]
              clear hc
              go_wp2_with fail
              go_meet
              case rel => exact ⟨rfl, rfl⟩
          case rest =>
            obtain ⟨rfl, rfl⟩ := hcut
            obtain ⟨tb, htb⟩ : ∃ b, ((kd == 1) || ((kd == 4) || (kd == 5))) = b := ⟨_, rfl⟩
            have HTB := Lib.hid htb
            clear htb
            go_upto_region 19 with fail
            go_cut [17] from 124 to 133 (fun t wx => t = .bool tb ∧ W14 = wx)
            case first =>
              cases hk1 : (kd == 1) with
              | true =>
                obtain rfl : true = tb := by rw [← HTB.out, hk1]; rfl
                go_wp2_with fail
                go_meet
                case rel => exact ⟨rfl, rfl⟩
              | false =>
                cases hk4 : (kd == 4) with
                | true =>
                  obtain rfl : true = tb := by rw [← HTB.out, hk1, hk4]; rfl
                  go_wp2_with fail
                  go_meet
                  case rel => exact ⟨rfl, rfl⟩
                | false =>
                  obtain rfl : (kd == 5) = tb := by rw [← HTB.out, hk1, hk4]; rfl
                  go_wp2_with fail
                  go_meet
                  case rel => exact ⟨rfl, rfl⟩
            case rest =>
              obtain ⟨rfl, rfl⟩ := hcut
              go_upto_region 20 with fail
              go_cut [169] from 134 to 169 (fun t wx => t = .bool false ∧ Bag w wx [.box g #[.slice ar2 k2.length cr2, .int .i64 s2, .int .i64 c2, .int .i64 n2, .int .u64 e2, .int .u64 f2, .int .i64 x2, .int .i64 y2] 27, .box (W2.heap.size) #[.slice ar k2.length cr, .int .i64 s2, .int .i64 c1, .int .i64 n1, .int .u64 e1, .int .u64 f1, .int .i64 x1, .int .i64 y1] 27] ∧ KeyAt wx ar2 k2 (W2.heap.size))
              case first =>
                rcases HPR.out with ⟨b1, b3, b4, b5, hp⟩ | hp | hp | hp | hp | hp | hp
                · obtain ⟨psb, pk1, pk3, pk4, pk5, peqc, _, _, pltc, pltn, pges, _, pa1, pgp, pgv⟩ := hp
                  obtain rfl := HSB.out.symm.trans psb
                  obtain rfl := HTB.out.symm.trans (show ((kd == 1) || ((kd == 4) || (kd == 5))) = _ by rw [show (kd == 1) = _ from pk1, show (kd == 4) = _ from pk4, show (kd == 5) = _ from pk5])
                  simp only at pk1 pk3 pk4 pk5 pltc pltn pa1
                  have HA1 := Lib.hid pa1
                  clear psb pa1 pges pgp pgv peqc pk1 pk5
                  clear pk3 pk4 pltc pltn
                  go_wp2_with fail
                  go_meet
                  case rel => exact ⟨(by first | rfl | (simp [*]; done)), HB.out, HRZ.out⟩
                · obtain ⟨psb, pk1, pk3, pk4, pk5, peqc, _, _, pltc, pltn, pges, _, pa1, pgp, pgv⟩ := hp
                  obtain rfl := HSB.out.symm.trans psb
                  obtain rfl := HTB.out.symm.trans (show ((kd == 1) || ((kd == 4) || (kd == 5))) = _ by rw [show (kd == 1) = _ from pk1, show (kd == 4) = _ from pk4, show (kd == 5) = _ from pk5])
                  simp only at pk1 pk3 pk4 pk5 pltc pltn pa1
                  have HA1 := Lib.hid pa1
                  clear psb pa1 pges pgp pgv peqc pk1 pk5
                  go_wp2_with fail
                  refine (lawAfter x2 y2 x1 y1 _).mono ?_
                  rintro e W15 ⟨he, hb⟩
                  rw [HA1.out] at he
                  subst he
                  have HRZ2 := Lib.hid (HRZ.out.on hb)
                  clear HRZ
                  have HRZ := HRZ2
                  clear HRZ2
                  have h0 := HB.out.call hb
                  clear HB
                  have HB := Lib.hid h0
                  clear h0
                  clear hb
                  clear qz_0 qz_1 qz_2 qz_3 qz_4 qz_5 qz_6 qz_7 qz_f qz_l ql_0 ql_1 ql_2 ql_3 ql_4 ql_5 ql_6 ql_7 ql_f ql_l nl_z
                  obtain ⟨qz_0, qz_1, qz_2, qz_3, qz_4, qz_5, qz_6, qz_7, qz_f⟩ := cells8 (HB.out.box 0 rfl)
                  have qz_l := HB.out.boxLt 0 rfl
                  obtain ⟨ql_0, ql_1, ql_2, ql_3, ql_4, ql_5, ql_6, ql_7, ql_f⟩ := cells8 (HB.out.box 1 rfl)
                  have ql_l := HB.out.boxLt 1 rfl
                  have nl_z := HB.out.boxNe 1 0 rfl rfl (by decide)
                  go_wp2_with fail
                  go_meet
                  case rel => exact ⟨(by first | rfl | (simp [*]; done)), HB.out, HRZ.out⟩
                · obtain ⟨psb, pk1, pk3, pk4, pk5, peqc, _, _, pltc, pltn, pges, _, pa1, pgp, pgv⟩ := hp
                  obtain rfl := HSB.out.symm.trans psb
                  obtain rfl := HTB.out.symm.trans (show ((kd == 1) || ((kd == 4) || (kd == 5))) = _ by rw [show (kd == 1) = _ from pk1, show (kd == 4) = _ from pk4, show (kd == 5) = _ from pk5])
                  simp only at pk1 pk3 pk4 pk5 pltc pltn pa1
                  have HA1 := Lib.hid pa1
                  clear psb pa1 pges pgp pgv peqc pk1 pk5
                  go_wp2_with fail
                  refine (lawAfter x2 y2 x1 y1 _).mono ?_
                  rintro e W15 ⟨he, hb⟩
                  rw [HA1.out] at he
                  subst he
                  have HRZ2 := Lib.hid (HRZ.out.on hb)
                  clear HRZ
                  have HRZ := HRZ2
                  clear HRZ2
                  have h0 := HB.out.call hb
                  clear HB
                  have HB := Lib.hid h0
                  clear h0
                  clear hb
                  clear qz_0 qz_1 qz_2 qz_3 qz_4 qz_5 qz_6 qz_7 qz_f qz_l ql_0 ql_1 ql_2 ql_3 ql_4 ql_5 ql_6 ql_7 ql_f ql_l nl_z
                  obtain ⟨qz_0, qz_1, qz_2, qz_3, qz_4, qz_5, qz_6, qz_7, qz_f⟩ := cells8 (HB.out.box 0 rfl)
                  have qz_l := HB.out.boxLt 0 rfl
                  obtain ⟨ql_0, ql_1, ql_2, ql_3, ql_4, ql_5, ql_6, ql_7, ql_f⟩ := cells8 (HB.out.box 1 rfl)
                  have ql_l := HB.out.boxLt 1 rfl
                  have nl_z := HB.out.boxNe 1 0 rfl rfl (by decide)
                  go_wp2_with fail
                  go_meet
                  case rel => exact ⟨(by first | rfl | (simp [*]; done)), HB.out, HRZ.out⟩
                · obtain ⟨psb, pk1, pk3, pk4, pk5, peqc, _, _, pltc, pltn, pges, _, pa1, pgp, pgv⟩ := hp
                  obtain rfl := HSB.out.symm.trans psb
                  obtain rfl := HTB.out.symm.trans (show ((kd == 1) || ((kd == 4) || (kd == 5))) = _ by rw [show (kd == 1) = _ from pk1, show (kd == 4) = _ from pk4, show (kd == 5) = _ from pk5])
                  simp only at pk1 pk3 pk4 pk5 pltc pltn pa1
                  have HA1 := Lib.hid pa1
                  clear psb pa1 pges pgp pgv peqc pk1 pk5
                  go_wp2_with fail
                  refine (lawAfter x2 y2 x1 y1 _).mono ?_
                  rintro e W15 ⟨he, hb⟩
                  rw [HA1.out] at he
                  subst he
                  have HRZ2 := Lib.hid (HRZ.out.on hb)
                  clear HRZ
                  have HRZ := HRZ2
                  clear HRZ2
                  have h0 := HB.out.call hb
                  clear HB
                  have HB := Lib.hid h0
                  clear h0
                  clear hb
                  clear qz_0 qz_1 qz_2 qz_3 qz_4 qz_5 qz_6 qz_7 qz_f qz_l ql_0 ql_1 ql_2 ql_3 ql_4 ql_5 ql_6 ql_7 ql_f ql_l nl_z
                  obtain ⟨qz_0, qz_1, qz_2, qz_3, qz_4, qz_5, qz_6, qz_7, qz_f⟩ := cells8 (HB.out.box 0 rfl)
                  have qz_l := HB.out.boxLt 0 rfl
                  obtain ⟨ql_0, ql_1, ql_2, ql_3, ql_4, ql_5, ql_6, ql_7, ql_f⟩ := cells8 (HB.out.box 1 rfl)
                  have ql_l := HB.out.boxLt 1 rfl
                  have nl_z := HB.out.boxNe 1 0 rfl rfl (by decide)
                  go_wp2_with fail
                  go_meet
                  case rel => exact ⟨(by first | rfl | (simp [*]; done)), HB.out, HRZ.out⟩
                · obtain ⟨psb, pk1, pk3, pk4, pk5, peqc, _, _, pltc, pltn, pges, _, pa1, pgp, pgv⟩ := hp
                  obtain rfl := HSB.out.symm.trans psb
                  obtain rfl := HTB.out.symm.trans (show ((kd == 1) || ((kd == 4) || (kd == 5))) = _ by rw [show (kd == 1) = _ from pk1, show (kd == 4) = _ from pk4, show (kd == 5) = _ from pk5])
                  simp only at pk1 pk3 pk4 pk5 pltc pltn pa1
                  have HA1 := Lib.hid pa1
                  clear psb pa1 pges pgp pgv peqc pk1 pk5
                  go_wp2_with fail
                  refine (lawAfter x2 y2 x1 y1 _).mono ?_
                  rintro e W15 ⟨he, hb⟩
                  rw [HA1.out] at he
                  subst he
                  have HRZ2 := Lib.hid (HRZ.out.on hb)
                  clear HRZ
                  have HRZ := HRZ2
                  clear HRZ2
                  have h0 := HB.out.call hb
                  clear HB
                  have HB := Lib.hid h0
                  clear h0
                  clear hb
                  clear qz_0 qz_1 qz_2 qz_3 qz_4 qz_5 qz_6 qz_7 qz_f qz_l ql_0 ql_1 ql_2 ql_3 ql_4 ql_5 ql_6 ql_7 ql_f ql_l nl_z
                  obtain ⟨qz_0, qz_1, qz_2, qz_3, qz_4, qz_5, qz_6, qz_7, qz_f⟩ := cells8 (HB.out.box 0 rfl)
                  have qz_l := HB.out.boxLt 0 rfl
                  obtain ⟨ql_0, ql_1, ql_2, ql_3, ql_4, ql_5, ql_6, ql_7, ql_f⟩ := cells8 (HB.out.box 1 rfl)
                  have ql_l := HB.out.boxLt 1 rfl
                  have nl_z := HB.out.boxNe 1 0 rfl rfl (by decide)
                  go_wp2_with fail
                  go_meet
                  case rel => exact ⟨(by first | rfl | (simp [*]; done)), HB.out, HRZ.out⟩
                · obtain ⟨psb, pk1, pk3, pk4, pk5, peqc, _, _, pltc, pltn, pges, _, pa1, pgp, pgv⟩ := hp
                  obtain rfl := HSB.out.symm.trans psb
                  obtain rfl := HTB.out.symm.trans (show ((kd == 1) || ((kd == 4) || (kd == 5))) = _ by rw [show (kd == 1) = _ from pk1, show (kd == 4) = _ from pk4, show (kd == 5) = _ from pk5])
                  simp only at pk1 pk3 pk4 pk5 pltc pltn pa1
                  have HA1 := Lib.hid pa1
                  clear psb pa1 pges pgp pgv peqc pk1 pk5
                  clear pk3 pk4 pltc pltn
                  go_wp2_with fail
                  go_meet
                  case rel => exact ⟨(by first | rfl | (simp [*]; done)), HB.out, HRZ.out⟩
                · obtain ⟨psb, pk1, pk3, pk4, pk5, peqc, _, _, pltc, pltn, pges, _, pa1, pgp, pgv⟩ := hp
                  obtain rfl := HSB.out.symm.trans psb
                  obtain rfl := HTB.out.symm.trans (show ((kd == 1) || ((kd == 4) || (kd == 5))) = _ by rw [show (kd == 1) = _ from pk1, show (kd == 4) = _ from pk4, show (kd == 5) = _ from pk5])
                  simp only at pk1 pk3 pk4 pk5 pltc pltn pa1
                  have HA1 := Lib.hid pa1
                  clear psb pa1 pges pgp pgv peqc pk1 pk5
                  go_wp2_with fail
                  refine (lawAfter x2 y2 x1 y1 _).mono ?_
                  rintro e W15 ⟨he, hb⟩
                  rw [HA1.out] at he
                  subst he
                  have HRZ2 := Lib.hid (HRZ.out.on hb)
                  clear HRZ
                  have HRZ := HRZ2
                  clear HRZ2
                  have h0 := HB.out.call hb
                  clear HB
                  have HB := Lib.hid h0
                  clear h0
                  clear hb
                  clear qz_0 qz_1 qz_2 qz_3 qz_4 qz_5 qz_6 qz_7 qz_f qz_l ql_0 ql_1 ql_2 ql_3 ql_4 ql_5 ql_6 ql_7 ql_f ql_l nl_z
                  obtain ⟨qz_0, qz_1, qz_2, qz_3, qz_4, qz_5, qz_6, qz_7, qz_f⟩ := cells8 (HB.out.box 0 rfl)
                  have qz_l := HB.out.boxLt 0 rfl
                  obtain ⟨ql_0, ql_1, ql_2, ql_3, ql_4, ql_5, ql_6, ql_7, ql_f⟩ := cells8 (HB.out.box 1 rfl)
                  have ql_l := HB.out.boxLt 1 rfl
                  have nl_z := HB.out.boxNe 1 0 rfl rfl (by decide)
                  go_wp2_with fail
                  go_meet
                  case rel => exact ⟨(by first | rfl | (simp [*]; done)), HB.out, HRZ.out⟩
              case rest =>
                obtain ⟨rfl, hbag, hkey⟩ := hcut
                obtain ⟨wd, rfl⟩ : ∃ wd : World, wd = wc := ⟨_, rfl⟩
                clear qz_0 qz_1 qz_2 qz_3 qz_4 qz_5 qz_6 qz_7 qz_f qz_l ql_0 ql_1 ql_2 ql_3 ql_4 ql_5 ql_6 ql_7 ql_f ql_l nl_z HB HRZ
                have HB := Lib.hid hbag
                have HRZ := Lib.hid hkey
                clear hbag hkey HPR HTB
                obtain ⟨qz_0, qz_1, qz_2, qz_3, qz_4, qz_5, qz_6, qz_7, qz_f⟩ := cells8 (HB.out.box 0 rfl)
                have qz_l := HB.out.boxLt 0 rfl
                obtain ⟨ql_0, ql_1, ql_2, ql_3, ql_4, ql_5, ql_6, ql_7, ql_f⟩ := cells8 (HB.out.box 1 rfl)
                have ql_l := HB.out.boxLt 1 rfl
                have nl_z := HB.out.boxNe 1 0 rfl rfl (by decide)
                go_upto_region 22 with fail
                go_cut [188] from 170 to 188 (fun t wx => t = .bool false ∧ wd = wx)
                case first =>
                  by_cases hg0 : 0 ≤ gv
                  · obtain ⟨pv1, pv2, pv3⟩ := HGIV.out hg0
                    obtain rfl : n2 = gv := pv3.symm
                    have pv4 : (n2 != n2) = false := by simp
                    have pv5 : last < n2 := by omega
                    clear pv3
                    go_wp2_with fail
                    go_meet
                    case rel => exact ⟨(by first | rfl | (simp; omega)), rfl⟩
                  · go_wp2_with fail
                    go_meet
                    case rel => exact ⟨rfl, rfl⟩
                case rest =>
                  obtain ⟨rfl, rfl⟩ := hcut
                  go_upto_if 190 with fail
                  go_cut [8] from 191 to 191 (fun t wx => (∃ l' : Int, t = .int .i64 l' ∧ l' ≤ n2) ∧ wd = wx)
                  case first =>
                    by_cases hg0 : 0 ≤ gv
                    · have HG := Lib.hid (HGIV.out hg0).2.2
                      go_wp2_with fail
                      go_meet
                      case rel => exact ⟨⟨gv, rfl, by rw [HG.out]; exact Int.le_refl _⟩, rfl⟩
                    · go_wp2_with fail
                      go_meet
                      case rel => exact ⟨⟨last, rfl, by omega⟩, rfl⟩
                  case rest =>
                    obtain ⟨⟨l', rfl, hl'⟩, rfl⟩ := hcut
                    have HM := Lib.hid (HRZ.out.shut (Z := ⟨k2, s2, c2, n2, e2, f2, x2, y2⟩) cr2 HB.out 1 rfl rfl HZF.out)
                    go_wp2_with fail
                    go_roundw
                    case rel => exact ⟨k + 1, ⟨k2, s2, c2, n2, e2, f2, x2, y2⟩, ar2, cr2, l', by omega, by omega, by go_num, rfl, HM.out, HZO.out, rfl, rfl, hl'⟩
                    case measure => simp [intOf]; omega
      · clear HR HOF
        have HBB := Lib.hid hB.bag.below
        clear hB
        go_wp2_with fail
        go_ret
        exact ⟨rfl, HBB.out⟩
    · clear HR HOF
      have HBB := Lib.hid hB.bag.below
      clear hB
      go_wp2_with fail
      go_ret
      exact ⟨rfl, HBB.out⟩
theorem lawRises (key : List (BitVec 8)) (ao : Option Addr) (cap : Nat) (side : Int) (ops : List Ask) (op : Option Addr) (cop : Nat) (w : World) (hr : Rd w ao key) (hlo : ops.length ≤ maxLen) (hro : Ro w op ops) (hof : ∀ i, i < ops.length → (ops.getD i Ask.none).fits) :
   Calls Try.prog 8 #[.slice ao key.length cap, .int .i64 side, .slice op ops.length cop] w fun e w' => e = .returned (.bool true) ∧ Below w.heap.size w w' := by
  by_cases h : key.length = 32
  · by_cases h1 : 0 ≤ side
    · by_cases h2 : side ≤ 1
      · exact lawRises_y key ao cap side ops op cop w hr hlo hro hof h h1 h2
      · exact lawRises_n2 key ao cap side ops op cop w hr h h1 h2
    · exact lawRises_n1 key ao cap side ops op cop w hr h h1
  · exact lawRises_n0 key ao cap side ops op cop w hr h
end Go.Proofs.Ytihndipgdogebaa
