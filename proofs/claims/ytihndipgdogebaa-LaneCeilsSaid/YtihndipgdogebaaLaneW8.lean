/- The walk of LaneCeils. -/
import Derived.Test.YtihndipgdogebaaLaneOps
import Derived.Test.YtihndipgdogebaaLaneU64
import Derived.Test.YtihndipgdogebaaLaneNext
import Derived.Test.YtihndipgdogebaaLaneRg
import Derived.Test.YtihndipgdogebaaLaneNev
import Derived.Test.YtihndipgdogebaaLaneUse
import Derived.Deep.CutRange
import Derived.Deep.CutBlock
import Derived.Deep.QuietTactic
import Derived.BigQuiet
import Derived.StillTailTactics
namespace Go.Proofs.Ytihndipgdogebaa
open Go.RowKit
/-- How things stand in LaneCeils: the lane in its box, its key, what was accepted; at most m entries. -/
structure CeilSt (w wr : World) (b m : Nat) (M : Ln) (ar : Option Addr) (cr : Nat) (v : Value) (xs : List Int) : Prop where
  bag : Bag w wr [.box b (M.cells ar cr) 27, .key ar M.key, .lst 23 1 v xs.length (u64s xs)]
  fits : M.fits
  ok : M.ok = true
  inv : CeilInv M xs
  len : xs.length ≤ m
def CeilRel (w : World) (b n : Nat) (s10 i : Value) (wr : World) : Prop := ∃ (k : Nat) (M : Ln) (ar : Option Addr) (cr : Nat) (xs : List Int), k ≤ n ∧ k ≤ 2000 ∧ i = .int .i64 k ∧ CeilSt w wr b (k * 2) M ar cr s10 xs
/-- Behind the call: the answer stands beside. -/
structure CeilMid (w wr : World) (b g m : Nat) (cs0 : Array Value) (Z : Ln) (ar : Option Addr) (cr : Nat) (v : Value) (xs : List Int) : Prop where
  bag : Bag w wr [.box g (Z.cells ar cr) 27, .key ar Z.key, .box b cs0 27, .lst 23 1 v xs.length (u64s xs)]
  inv : CeilInv Z xs
  len : xs.length ≤ m
def CeilMidR (w : World) (b g m : Nat) (cs0 : Array Value) (Z : Ln) (ar : Option Addr) (cr : Nat) (s10 : Value) (wr : World) : Prop := ∃ (xs : List Int), CeilMid w wr b g m cs0 Z ar cr s10 xs
def CeilOne (w : World) (b m : Nat) (s10 : Value) (wr : World) : Prop := ∃ (M : Ln) (ar : Option Addr) (cr : Nat) (xs : List Int), CeilSt w wr b m M ar cr s10 xs
theorem ceil_move {w W : World} {b g m : Nat} {cs0 : Array Value} {Z : Ln} {ar : Option Addr} {cr : Nat} {v : Value} {xs : List Int} (h : CeilMid w W b g m cs0 Z ar cr v xs) (hf : Z.fits) (hok : Z.ok = true) (hc : cs0.size = 8) :
    CeilSt w (Bag.setAll W b 0 (Z.cells ar cr).toList) b m Z ar cr v xs := by
  have h1 := h.bag.store 2 rfl (Z.cells ar cr).toList hc
  have h2 := h1.erase 0
  simp only [List.set_cons_succ, List.set_cons_zero, List.eraseIdx_cons_zero] at h2
  exact ⟨h2.swap, hf, hok, h.inv, h.len⟩
theorem mem_getD (l : List Int) (k : Nat) (h : k < l.length) : l.getD k 0 ∈ l := by
  simp only [List.getD, List.getElem?_eq_getElem h, Option.getD_some]
  exact List.getElem_mem h
theorem raise_fits {L : Ln} {c b : Int} (h : L.fits) (h0 : 0 ≤ c) : (L.keep L.cur L.next L.send (upF c b) L.sec L.nano).fits := by
  have := upF_bd c b h0
  exact ⟨h.len, h.cur0, h.cur1, h.next0, h.next1, h.send0, h.send1, this.1, this.2, h.sec1⟩
theorem ceil_bag {w W : World} {x y : It} {v : Value} {xs : List Int} {c : Int} (h : Bag w W [x, y, .lst 23 1 v (xs.length + 1) (u64s xs ++ [.int .u64 c])]) : Bag w W [x, y, .lst 23 1 v (xs ++ [c]).length (u64s (xs ++ [c]))] := by
  rw [List.length_append, ← u64s_app]
  exact h
theorem Ro.cells {w : World} {b o : Nat} {l : List Ask} (h : Ro w (some ⟨b, o, none⟩) l) {k : Nat} (hk : k < l.length) : w.cell? ⟨b, o + k * 7, none⟩ = some (.int .i64 (l.getD k Ask.none).kind) ∧ w.cell? ⟨b, o + k * 7 + 1 + 1, none⟩ = some (.int .i64 (l.getD k Ask.none).b) ∧ w.cell? ⟨b, o + k * 7 + 1 + 2, none⟩ = some (.int .u64 (l.getD k Ask.none).c) := by
  rcases h with rfl | ⟨b', o', h1, hc⟩
  · simp at hk
  · cases h1
    have h := hc k hk
    exact ⟨h.1, h.2.2.1, h.2.2.2.1⟩
/-- Nothing is accepted as yet. -/
theorem ceil_nil {w W : World} {b g m : Nat} {cs0 : Array Value} {Z : Ln} {ar : Option Addr} {cr : Nat} {v : Value} {xs : List Int} (h : Bag w W [.box g (Z.cells ar cr) 27, .key ar Z.key, .box b cs0 27, .lst 23 1 v xs.length (u64s xs)]) :
    CeilMid w W b g m cs0 Z ar cr (.slice none 0 0) [] := by
  have h1 := (h.erase 3).nil 23 1
  simp only [List.eraseIdx_cons_succ, List.eraseIdx_cons_zero] at h1
  refine ⟨h1.sub (fun i => match i with | 0 => 1 | 1 => 2 | 2 => 3 | 3 => 0 | i + 4 => i + 4) ?_ ?_, fun x hx => by simp at hx, by simp⟩
  · rintro (_ | _ | _ | _ | i) y hy <;> first | exact hy | (simp at hy)
  · rintro (_ | _ | _ | _ | i) (_ | _ | _ | _ | j) ha hb h <;> first | rfl | (simp at h; try omega)
set_option maxRecDepth 100000 in
theorem lawCeils_n0 (key : List (BitVec 8)) (ao : Option Addr) (cap : Nat) (side : Int) (ops : List Ask) (op : Option Addr) (cop : Nat) (us : List Int) (up : Option Addr) (cup : Nat) (w : World) (hr : Rd w ao key) (h : ¬ key.length = 32) : Calls Try.prog 10 #[.slice ao key.length cap, .int .i64 side, .slice op ops.length cop, .slice up us.length cup] w fun e w' => e = .returned (.bool true) ∧ Below w.heap.size w w' := by
  have hz : newL key side = Ln.zero := by
    unfold newL
    rw [if_neg]
    intro hok
    have := (ok_iff.1 hok).1
    simp only at this
    omega
  have e1 : ((key.length : Int) != 32) = true := by rw [bne_iff_ne]; omega
  have HZ := Lib.hid hz
  clear h hz
  go_enter Try.func10, Try.ntmps10
  go_wp2_with fail
  refine (laneKnown _).mono ?_
  rintro e w1 ⟨rfl, hb1⟩
  go_wp2_with fail
  refine (laneNew key side ao cap _ (hr.on hb1)).mono ?_
  rintro e w2 ⟨A0, cA0, he, hm, hb2⟩
  rw [HZ.out] at he
  obtain rfl : e = .returned (.agg #[.slice A0 0 cA0, .int .i64 0, .int .i64 0, .int .i64 0, .int .u64 0, .int .u64 0, .int .i64 0, .int .i64 0]) := he
  have HB := Lib.hid (hb1.trans (hb2.mono hb1.size))
  clear hb1 hb2 hm
  go_wp2_with fail
  go_ret
  exact ⟨rfl, HB.out.alloc HB.out.size _⟩
set_option maxRecDepth 100000 in
theorem lawCeils_n1 (key : List (BitVec 8)) (ao : Option Addr) (cap : Nat) (side : Int) (ops : List Ask) (op : Option Addr) (cop : Nat) (us : List Int) (up : Option Addr) (cup : Nat) (w : World) (hr : Rd w ao key) (h : key.length = 32) (h1 : ¬ 0 ≤ side) : Calls Try.prog 10 #[.slice ao key.length cap, .int .i64 side, .slice op ops.length cop, .slice up us.length cup] w fun e w' => e = .returned (.bool true) ∧ Below w.heap.size w w' := by
  have hz : newL key side = Ln.zero := by
    unfold newL
    rw [if_neg]
    intro hok
    have := (ok_iff.1 hok).1
    simp only at this
    omega
  have e1 : ((key.length : Int) != 32) = false := by rw [bne_eq_false_iff_eq]; omega
  have h2 : side < 0 := by omega
  have HZ := Lib.hid hz
  clear h hz h1
  go_enter Try.func10, Try.ntmps10
  go_wp2_with fail
  refine (laneKnown _).mono ?_
  rintro e w1 ⟨rfl, hb1⟩
  go_wp2_with fail
  refine (laneNew key side ao cap _ (hr.on hb1)).mono ?_
  rintro e w2 ⟨A0, cA0, he, hm, hb2⟩
  rw [HZ.out] at he
  obtain rfl : e = .returned (.agg #[.slice A0 0 cA0, .int .i64 0, .int .i64 0, .int .i64 0, .int .u64 0, .int .u64 0, .int .i64 0, .int .i64 0]) := he
  have HB := Lib.hid (hb1.trans (hb2.mono hb1.size))
  clear hb1 hb2 hm
  go_wp2_with fail
  go_ret
  exact ⟨rfl, HB.out.alloc HB.out.size _⟩
set_option maxRecDepth 100000 in
theorem lawCeils_n2 (key : List (BitVec 8)) (ao : Option Addr) (cap : Nat) (side : Int) (ops : List Ask) (op : Option Addr) (cop : Nat) (us : List Int) (up : Option Addr) (cup : Nat) (w : World) (hr : Rd w ao key) (h : key.length = 32) (h1 : 0 ≤ side) (h2 : ¬ side ≤ 1) : Calls Try.prog 10 #[.slice ao key.length cap, .int .i64 side, .slice op ops.length cop, .slice up us.length cup] w fun e w' => e = .returned (.bool true) ∧ Below w.heap.size w w' := by
  have hz : newL key side = Ln.zero := by
    unfold newL
    rw [if_neg]
    intro hok
    have := (ok_iff.1 hok).1
    simp only at this
    omega
  have e1 : ((key.length : Int) != 32) = false := by rw [bne_eq_false_iff_eq]; omega
  have h3 : 1 < side := by omega
  have HZ := Lib.hid hz
  clear h hz h2
  go_enter Try.func10, Try.ntmps10
  go_wp2_with fail
  refine (laneKnown _).mono ?_
  rintro e w1 ⟨rfl, hb1⟩
  go_wp2_with fail
  refine (laneNew key side ao cap _ (hr.on hb1)).mono ?_
  rintro e w2 ⟨A0, cA0, he, hm, hb2⟩
  rw [HZ.out] at he
  obtain rfl : e = .returned (.agg #[.slice A0 0 cA0, .int .i64 0, .int .i64 0, .int .i64 0, .int .u64 0, .int .u64 0, .int .i64 0, .int .i64 0]) := he
  have HB := Lib.hid (hb1.trans (hb2.mono hb1.size))
  clear hb1 hb2 hm
  go_wp2_with fail
  go_ret
  exact ⟨rfl, HB.out.alloc HB.out.size _⟩
set_option maxRecDepth 100000 in
set_option maxHeartbeats 8000000 in
theorem lawCeils_y (key : List (BitVec 8)) (ao : Option Addr) (cap : Nat) (side : Int) (ops : List Ask) (op : Option Addr) (cop : Nat) (us : List Int) (up : Option Addr) (cup : Nat) (w : World) (hr : Rd w ao key) (hlo : ops.length ≤ maxLen) (hro : Ro w op ops) (hof : ∀ i, i < ops.length → (ops.getD i Ask.none).fits) (hk : key.length = 32) (hs0 : 0 ≤ side) (hs1 : side ≤ 1) (_hus : us.length ≤ maxLen) (hru : Ru w up us) (hub : ∀ x ∈ us, 0 ≤ x ∧ x ≤ 18446744073709551615) : Calls Try.prog 10 #[.slice ao key.length cap, .int .i64 side, .slice op ops.length cop, .slice up us.length cup] w fun e w' => e = .returned (.bool true) ∧ Below w.heap.size w w' := by
  unfold maxLen at hlo
  have HRU := Lib.hid hru
  have HUB := Lib.hid hub
  clear hru hub
  obtain ⟨i1, hj, hy0, hy1, hy2⟩ := info_parts info_u64
  have HJ := Lib.hid hj
  have HY0 := Lib.hid hy0
  have HY1 := Lib.hid hy1
  have HY2 := Lib.hid hy2
  clear hj hy0 hy1 hy2
  have HR := Lib.hid hro
  have HOF := Lib.hid hof
  have hok : Ln.ok ⟨key, side, 1, 0, 0, 0, 0, 0⟩ = true := ok_iff.2 ⟨⟨hk, hs0, hs1⟩, ⟨by simp, by simp, by simp, by simp⟩, rfl⟩
  have HN := Lib.hid (show newL key side = ⟨key, side, 1, 0, 0, 0, 0, 0⟩ by unfold newL; rw [if_pos hok])
  have HF := Lib.hid (show Ln.fits ⟨key, side, 1, 0, 0, 0, 0, 0⟩ by have h := newL_fits key side (by omega); rw [HN.out] at h; exact h)
  have HOK := Lib.hid hok
  have HKL := Lib.hid hk
  have hkl : key.length ≤ 281474976710656 := by omega
  clear hro hof hok hk
  go_enter Try.func10, Try.ntmps10
  go_wp2_with fail
  have HB := Lib.hid (Bag.start w)
  refine (laneKnown _).mono ?_
  rintro e W1 ⟨rfl, hb⟩
  have h0 := HB.out.call hb
  clear HB
  have HB := Lib.hid h0
  clear h0
  clear hb
  go_wp2_with fail
  refine (laneNew key side ao cap _ (hr.on HB.out.below)).mono ?_
  rintro e W2 ⟨A0, cA0, he, Mx, hb⟩
  rw [HN.out] at he Mx
  obtain rfl : e = .returned (.agg #[.slice A0 key.length cA0, .int .i64 side, .int .i64 1, .int .i64 0, .int .u64 0, .int .u64 0, .int .i64 0, .int .i64 0]) := he
  have h0 := HB.out.mine hb Mx
  clear HB
  have HB := Lib.hid h0
  clear h0
  clear Mx
  clear hb
  have hA := (HB.out.mineRd 0 rfl)
  have hAl := HB.out.mineFar 0 rfl
  go_wp2_with fail
  generalize hU : W2.alloc (.cells #[.slice A0 key.length cA0, .int .i64 side, .int .i64 1, .int .i64 0, .int .u64 0, .int .u64 0, .int .i64 0, .int .i64 0] 27 (0, 0)) = U3
  have h0 := (HB.out.erase 0).add (x := .key A0 key) ⟨hA, fun a h => (hAl a h).2⟩ (by rintro k ⟨a, ha, rfl⟩; exact (hAl a ha).1) (by intro j y hy; simp at hy)
  have h1 := h0.alloc #[.slice A0 key.length cA0, .int .i64 side, .int .i64 1, .int .i64 0, .int .u64 0, .int .u64 0, .int .i64 0, .int .i64 0] 27
  rw [hU] at h1
  have h3 := h1.nil 23 1
  have hst : CeilSt w U3 (W2.heap.size) (0 * 2) ⟨key, side, 1, 0, 0, 0, 0, 0⟩ A0 cA0 (.slice none 0 0) [] := by
    refine ⟨h3.sub (fun i => match i with | 0 => 1 | 1 => 2 | 2 => 0 | i + 3 => i + 3) ?_ ?_, HF.out, HOK.out, fun x hx => by simp at hx, by simp⟩
    · rintro (_ | _ | _ | i) y hy <;> first | exact hy | (simp at hy)
    · rintro (_ | _ | _ | i) (_ | _ | _ | j) ha hb h <;> first | rfl | (simp at h; try omega)
  have HST := Lib.hid hst
  clear h0 h1 h3 hst hU hA hAl HB HF HOK
  go_loopw [10, 11] (CeilRel w (W2.heap.size) ops.length) (fun _ i _ => 2000 - (intOf i).toNat)
  case atStart => exact ⟨0, ⟨key, side, 1, 0, 0, 0, 0, 0⟩, A0, cA0, [], Nat.zero_le _, by omega, rfl, HST.out⟩
  case round =>
    obtain ⟨k, M, ar, cr, xs, hk1, hk2, rfl, hB, hMF0, hok0, hinv, hgl⟩ := hrel
    clear HST HN
    have hMF := Lib.hid hMF0
    have HMO := Lib.hid hok0
    have HI := Lib.hid hinv
    have HGL := Lib.hid hgl
    clear hinv hgl hMF0 hok0
    obtain ⟨k1, s1, c1, n1, e1, f1, x1, y1⟩ := M
    by_cases h1 : k < ops.length
    · by_cases h2 : k < 2000
      ·
        have h2i : (k : Int) < 2000 := by omega
        have h1i : (k : Int) < (ops.length : Int) := by omega
        obtain ⟨ob, oo, rfl, hcell⟩ : ∃ b o, op = some ⟨b, o, none⟩ ∧ _ := (HR.out.on hB.below).resolve_left (by intro h; rw [h] at h1; simp at h1)
        have HO := Lib.hid (HOF.out k h1)
        obtain ⟨g0, g1, g2, g3, g4, g5, g6⟩ := hcell k h1
        clear hcell
        have hob := lt_of_cell g0
        obtain ⟨O, hOk⟩ : ∃ O, ops.getD k Ask.none = O := ⟨_, rfl⟩
        rw [hOk] at HO g0 g1 g2 g3 g4 g5 g6
        have HKD := Lib.hid (show (ops.getD k Ask.none).kind = O.kind by rw [hOk])
        have HKC := Lib.hid (show (ops.getD k Ask.none).c = O.c by rw [hOk])
        have HKB := Lib.hid (show (ops.getD k Ask.none).b = O.b by rw [hOk])
        clear hOk
        obtain ⟨kd, og, ob', oc, oa, os, on⟩ := O
        simp only at g0 g1 g2 g3 g4 g5 g6
        have hx : wr.heap[W2.heap.size]? = some (.cells #[.slice ar k1.length cr, .int .i64 s1, .int .i64 c1, .int .i64 n1, .int .u64 e1, .int .u64 f1, .int .i64 x1, .int .i64 y1] 27 (0, 0)) := hB.box 0 rfl
        obtain ⟨q0, q1, q2, q3, q4, q5, q6, q7, qf⟩ := cells8 hx
        have HX := Lib.hid hx
        clear hx
        have ql := hB.boxLt 0 rfl
        have HLT := Lib.hid (hB.keyLt 1 rfl)
        have hrd : Rd wr ar k1 := hB.keyRd 1 rfl
        have HRD := Lib.hid hrd
        have HB := Lib.hid hB
        clear hB hrd
        have hst : ∀ (W' : World), Rd W' ar k1 → Calls Try.prog 37 #[.agg #[.slice ar k1.length cr, .int .i64 s1, .int .i64 c1, .int .i64 n1, .int .u64 e1, .int .u64 f1, .int .i64 x1, .int .i64 y1], .agg #[.int .i64 kd, .int .i64 og, .int .i64 ob', .int .u64 oc, .int .u64 oa, .int .i64 os, .int .i64 on]] W' (StepR W' ar (stepL ⟨k1, s1, c1, n1, e1, f1, x1, y1⟩ ⟨kd, og, ob', oc, oa, os, on⟩) [.int .i64 (givenL ⟨k1, s1, c1, n1, e1, f1, x1, y1⟩ ⟨kd, og, ob', oc, oa, os, on⟩), .int .u64 (atL ⟨k1, s1, c1, n1, e1, f1, x1, y1⟩ ⟨kd, og, ob', oc, oa, os, on⟩)]) :=
          fun W' h => lawNext ⟨k1, s1, c1, n1, e1, f1, x1, y1⟩ ar cr ⟨kd, og, ob', oc, oa, os, on⟩ W' hMF.out HO.out h
        have hzf := (turn_of ⟨k1, s1, c1, n1, e1, f1, x1, y1⟩ ⟨kd, og, ob', oc, oa, os, on⟩).rise.fits hMF.out HO.out
        have htn := turn_of ⟨k1, s1, c1, n1, e1, f1, x1, y1⟩ ⟨kd, og, ob', oc, oa, os, on⟩
        generalize stepL ⟨k1, s1, c1, n1, e1, f1, x1, y1⟩ ⟨kd, og, ob', oc, oa, os, on⟩ = Z at hst hzf htn
        generalize givenL ⟨k1, s1, c1, n1, e1, f1, x1, y1⟩ ⟨kd, og, ob', oc, oa, os, on⟩ = gv at hst htn
        generalize atL ⟨k1, s1, c1, n1, e1, f1, x1, y1⟩ ⟨kd, og, ob', oc, oa, os, on⟩ = av at hst htn
        obtain ⟨k2, s2, c2, n2, e2, f2, x2, y2⟩ := Z
        have HST := Lib.hid hst
        have HZF := Lib.hid hzf
        have HT := Lib.hid htn
        clear hst hzf htn
        go_upto_region 10 with fail
        go_cut [12, 13, 14] from 45 to 54 (fun p o1 o2 wc => StepBox wr ar ⟨k2, s2, c2, n2, e2, f2, x2, y2⟩ p wc ∧ o1 = .int .i64 gv ∧ o2 = .int .u64 av)
        case first =>
          refine wp_calm (regionCeils HX.out HRD.out HLT.out h1 (by omega) HST.out g0 g1 g2 g3 g4 g5 g6 ?_)
          intro p o1 o2 v45 v46 v47 v48 v49 v50 v51 v52 v53 v54 wc hs1 hs2 hs3
          dsimp only
          go_wp2_with fail
          go_meet
          case rel => exact ⟨hs1, (by first | exact hs2 | rfl), (by first | exact hs3 | rfl)⟩
        case rest =>
          obtain ⟨hsb, rfl, rfl⟩ := hcut
          obtain ⟨g, ar2, cr2, hp, hbag⟩ := HB.out.step hsb
          subst hp
          have HB2 := Lib.hid hbag
          clear HB hsb hbag q0 q1 q2 q3 q4 q5 q6 q7 qf g0 g1 g2 g3 g4 g5 g6 HRD HLT HST HX
          have hTr := HT.out.rise
          have HZO := Lib.hid (hTr.ok HMO.out)
          have HCASE := Lib.hid (HT.out.ceil HO.out HI.out)
          have hoc := HO.out.c0
          have hoc1 := HO.out.c1
          simp only at hoc hoc1
          have HOC := Lib.hid hoc
          have HOC1 := Lib.hid hoc1
          clear hTr hoc hoc1
          have hop := (HR.out.on HB2.out.below).cells h1
          have go0 : _ = some (Value.int .i64 (ops.getD k Ask.none).kind) := hop.1
          have go2 := hop.2.1
          have go3 := hop.2.2
          rw [HKD.out] at go0
          rw [HKB.out] at go2
          rw [HKC.out] at go3
          clear hop
          obtain ⟨z0, z1, z2, z3, z4, z5, z6, z7, zf⟩ := cells8 (show wc.heap[g]? = some (.cells #[.slice ar2 k2.length cr2, .int .i64 s2, .int .i64 c2, .int .i64 n2, .int .u64 e2, .int .u64 f2, .int .i64 x2, .int .i64 y2] 27 (0, 0)) from HB2.out.box 0 rfl)
          have zl := HB2.out.boxLt 0 rfl
          obtain ⟨l0, l1, l2, l3, l4, l5, l6, l7, lf⟩ := cells8 (show wc.heap[W2.heap.size]? = some (.cells #[.slice ar k1.length cr, .int .i64 s1, .int .i64 c1, .int .i64 n1, .int .u64 e1, .int .u64 f1, .int .i64 x1, .int .i64 y1] 27 (0, 0)) from HB2.out.box 2 rfl)
          have ll := HB2.out.boxLt 2 rfl
          have ne0 := HB2.out.boxNe 0 2 rfl rfl (by decide)
          go_upto_if 59 with fail
          go_cut [10] from 59 to 74 (fun a wx => CeilMidR w (W2.heap.size) g (k * 2 + 1) #[.slice ar k1.length cr, .int .i64 s1, .int .i64 c1, .int .i64 n1, .int .u64 e1, .int .u64 f1, .int .i64 x1, .int .i64 y1] ⟨k2, s2, c2, n2, e2, f2, x2, y2⟩ ar2 cr2 a wx)
          case first =>
            cases HCASE.out with
            | same ne inv =>
              have HI2 := Lib.hid inv
              simp only at ne
              clear inv
              go_wp2_with fail
              go_meet
              case rel => exact ⟨_, HB2.out, HI2.out, by have := HGL.out; omega⟩
            | none ne k1 inv =>
              simp only at ne
              clear inv
              go_wp2_with fail
              go_meet
              case rel => exact ⟨_, ceil_nil HB2.out⟩
            | one ne k1 inv =>
              have HI2 := Lib.hid inv
              have HN := Lib.hid (ceil_nil (m := 0) HB2.out)
              simp only at ne
              clear inv
              go_wp2_with (at_builtin; refine Bag.append rfl (.tmp 66) (.tmp 73) 65 rfl 23 i1 (.int .u64 0) 8 Try.underlying65 HJ.out HY0.out HY1.out HY2.out rfl 3 _ _ _ (HN.out.bag.call (fresh1 _ _)) rfl rfl ⟨wc.heap.size, 0, none⟩ rfl (.int .u64 oc) ?_ rfl ?_ ?_ ?_; exact cell_of_row _ _ 0 _ _ _ (heap_alloc_new _ _); (unfold maxLen; simp); simp; intro g2 q2 W9 hB9 hs9; have HB9 := Lib.hid hB9; clear hB9)
              go_meet
              case rel => exact ⟨[oc], ⟨HB9.out, HI2.out, by simp⟩⟩
          case rest =>
            obtain ⟨xs3, hmid⟩ := hcut
            obtain ⟨we, rfl⟩ : ∃ we : World, we = wc := ⟨_, rfl⟩
            have HMID := Lib.hid hmid
            clear hmid z0 z1 z2 z3 z4 z5 z6 z7 zf zl l0 l1 l2 l3 l4 l5 l6 l7 lf ll ne0 HB2 HCASE go0 go2 go3 HI HGL HMO HT
            obtain ⟨z0, z1, z2, z3, z4, z5, z6, z7, zf⟩ := cells8 (show we.heap[g]? = some (.cells #[.slice ar2 k2.length cr2, .int .i64 s2, .int .i64 c2, .int .i64 n2, .int .u64 e2, .int .u64 f2, .int .i64 x2, .int .i64 y2] 27 (0, 0)) from HMID.out.bag.box 0 rfl)
            have zl := HMID.out.bag.boxLt 0 rfl
            obtain ⟨l0, l1, l2, l3, l4, l5, l6, l7, lf⟩ := cells8 (show we.heap[W2.heap.size]? = some (.cells #[.slice ar k1.length cr, .int .i64 s1, .int .i64 c1, .int .i64 n1, .int .u64 e1, .int .u64 f1, .int .i64 x1, .int .i64 y1] 27 (0, 0)) from HMID.out.bag.box 2 rfl)
            have ll := HMID.out.bag.boxLt 2 rfl
            have ne0 := HMID.out.bag.boxNe 0 2 rfl rfl (by decide)
            have hms0 := ceil_move HMID.out HZF.out HZO.out rfl
            have hms : CeilSt w ((((((((we.setCell ⟨W2.heap.size, 0, none⟩ (.slice ar2 k2.length cr2)).setCell ⟨W2.heap.size, 1, none⟩ (.int .i64 s2)).setCell ⟨W2.heap.size, 2, none⟩ (.int .i64 c2)).setCell ⟨W2.heap.size, 3, none⟩ (.int .i64 n2)).setCell ⟨W2.heap.size, 4, none⟩ (.int .u64 e2)).setCell ⟨W2.heap.size, 5, none⟩ (.int .u64 f2)).setCell ⟨W2.heap.size, 6, none⟩ (.int .i64 x2)).setCell ⟨W2.heap.size, 7, none⟩ (.int .i64 y2)) (W2.heap.size) (k * 2 + 1) ⟨k2, s2, c2, n2, e2, f2, x2, y2⟩ ar2 cr2 u10 xs3 := hms0
            clear hms0
            go_upto_region 16 with fail
            generalize ((((((((we.setCell ⟨W2.heap.size, 0, none⟩ (.slice ar2 k2.length cr2)).setCell ⟨W2.heap.size, 1, none⟩ (.int .i64 s2)).setCell ⟨W2.heap.size, 2, none⟩ (.int .i64 c2)).setCell ⟨W2.heap.size, 3, none⟩ (.int .i64 n2)).setCell ⟨W2.heap.size, 4, none⟩ (.int .u64 e2)).setCell ⟨W2.heap.size, 5, none⟩ (.int .u64 f2)).setCell ⟨W2.heap.size, 6, none⟩ (.int .i64 x2)).setCell ⟨W2.heap.size, 7, none⟩ (.int .i64 y2)) = U at hms ⊢
            have HS := Lib.hid hms
            clear hms HMID z0 z1 z2 z3 z4 z5 z6 z7 zf zl l0 l1 l2 l3 l4 l5 l6 l7 lf ll ne0
            obtain ⟨ck, hck⟩ : ∃ x, us.getD k 0 = x := ⟨_, rfl⟩
            have HCK := Lib.hid hck
            clear hck
            have hopb : U.cell? ⟨ob, oo + k * 7 + 1 + 1, none⟩ = some (.int .i64 ob') := by have h := ((HR.out.on HS.out.bag.below).cells h1).2.1; rw [HKB.out] at h; exact h
            have hk0 : (0 : Int) ≤ (k : Int) := by omega
            go_cut [104] from 76 to 104 (fun t wx => U = wx ∧ ∃ tb, t = .bool tb ∧ (tb = true → k < us.length ∧ ck ≤ 18446744073709551614 ∧ 1 ≤ ob' ∧ ob' ≤ 1048576))
            case first =>
              by_cases a1 : k < us.length
              · obtain ⟨ub, uo, rfl, _⟩ : ∃ b o, up = some ⟨b, o, none⟩ ∧ _ := HRU.out.resolve_left (by intro h; rw [h] at a1; simp at a1)
                have hu0 := (HRU.out.on HS.out.bag.below).num a1 HCK.out
                have a1i : (k : Int) < (us.length : Int) := by omega
                by_cases a2 : ck ≤ 18446744073709551614
                · by_cases a3 : 1 ≤ ob'
                  · by_cases a4 : ob' ≤ 1048576
                    · go_wp2_with fail
                      go_meet
                      case rel => exact ⟨rfl, true, rfl, fun _ => ⟨a1, a2, a3, a4⟩⟩
                    · go_wp2_with fail
                      go_meet
                      case rel => exact ⟨rfl, false, rfl, fun h => by cases h⟩
                  · go_wp2_with fail
                    go_meet
                    case rel => exact ⟨rfl, false, rfl, fun h => by cases h⟩
                · have a5 := (HUB.out _ (mem_getD us k a1)).2
                  rw [HCK.out] at a5
                  obtain rfl : ck = 18446744073709551615 := by omega
                  clear a2 a5
                  go_wp2_with fail
                  go_meet
                  case rel => exact ⟨rfl, false, rfl, fun h => by cases h⟩
              · have a1i : ¬ (k : Int) < (us.length : Int) := by omega
                go_wp2_with fail
                go_meet
                case rel => exact ⟨rfl, false, rfl, fun h => by cases h⟩
            case rest =>
              obtain ⟨rfl, tb, rfl, hgood⟩ := hcut
              have HGOOD := Lib.hid hgood
              clear hgood
              go_upto_if 104 with fail
              go_cut [10] from 105 to 133 (fun a wx => CeilOne w (W2.heap.size) (k * 2 + 2) a wx)
              case first =>
                cases tb with
                | false =>
                  go_wp2_with fail
                  go_meet
                  case rel => exact ⟨⟨k2, s2, c2, n2, e2, f2, x2, y2⟩, ar2, cr2, xs3, ⟨HS.out.bag, HS.out.fits, HS.out.ok, HS.out.inv, by have := HS.out.len; omega⟩⟩
                | true =>
                  obtain ⟨a1, a2, a3, a4⟩ := HGOOD.out rfl
                  obtain ⟨ub, uo, rfl, _⟩ : ∃ b o, up = some ⟨b, o, none⟩ ∧ _ := HRU.out.resolve_left (by intro h; rw [h] at a1; simp at a1)
                  have hu0 := (HRU.out.on HS.out.bag.below).num a1 HCK.out
                  have a1i : (k : Int) < (us.length : Int) := by omega
                  have a0 : 0 ≤ ck := by have := (HUB.out _ (mem_getD us k a1)).1; rw [HCK.out] at this; exact this
                  obtain ⟨l0, l1, l2, l3, l4, l5, l6, l7, lf⟩ := cells8 (show U.heap[W2.heap.size]? = some (.cells #[.slice ar2 k2.length cr2, .int .i64 s2, .int .i64 c2, .int .i64 n2, .int .u64 e2, .int .u64 f2, .int .i64 x2, .int .i64 y2] 27 (0, 0)) from HS.out.bag.box 0 rfl)
                  have ll := HS.out.bag.boxLt 0 rfl
                  have hxl := HS.out.len
                  have hopb : U.cell? ⟨ob, oo + k * 7 + 1 + 1, none⟩ = some (.int .i64 ob') := by have h := ((HR.out.on HS.out.bag.below).cells h1).2.1; rw [HKB.out] at h; exact h
                  by_cases hce : f2 ≤ ck
                  · go_wp2_with fail
                    go_quiet (fail)
                    rename_i nq
                    have hb4 := HS.out.bag.drewN nq
                    generalize U.drewN nq = U4 at hb4 ⊢
                    have HB4 := Lib.hid hb4
                    clear hb4 l0 l1 l2 l3 l4 l5 l6 l7 lf ll hu0 hopb
                    have hu0 := (HRU.out.on HB4.out.below).num a1 HCK.out
                    have hopb : U4.cell? ⟨ob, oo + k * 7 + 1 + 1, none⟩ = some (.int .i64 ob') := by have h := ((HR.out.on HB4.out.below).cells h1).2.1; rw [HKB.out] at h; exact h
                    obtain ⟨l0, l1, l2, l3, l4, l5, l6, l7, lf⟩ := cells8 (show U4.heap[W2.heap.size]? = some (.cells #[.slice ar2 k2.length cr2, .int .i64 s2, .int .i64 c2, .int .i64 n2, .int .u64 e2, .int .u64 f2, .int .i64 x2, .int .i64 y2] 27 (0, 0)) from HB4.out.box 0 rfl)
                    have ll := HB4.out.boxLt 0 rfl
                    go_wp2_with fail
                    go_still_tail 11, (by kernel_rfl)
                    change wpList _ _ _ _ _ U4.drew
                    have hb5 := HB4.out.drew
                    generalize U4.drew = U5 at hb5 ⊢
                    have HB5 := Lib.hid hb5
                    clear hb5 l0 l1 l2 l3 l4 l5 l6 l7 lf ll hu0 hopb HB4
                    go_wp2_with fail
                    have hblk : blkB ob' = true := by simp [blkB]; omega
                    obtain ⟨rc, hrc⟩ : ∃ x, upF ck ob' = x := ⟨_, rfl⟩
                    have hgt := upF_gt ck ob' hblk a2
                    rw [hrc] at hgt
                    have HRS := Lib.hid (show raiseL ⟨k2, s2, c2, n2, e2, f2, x2, y2⟩ ck ob' = ⟨k2, s2, c2, n2, e2, rc, x2, y2⟩ by unfold raiseL; rw [if_pos (mayS_iff.2 ⟨hblk, hce, a2, HS.out.ok⟩), ← hrc]; rfl)
                    have HF3 := Lib.hid (show Ln.fits ⟨k2, s2, c2, n2, e2, rc, x2, y2⟩ by rw [← hrc]; exact raise_fits HS.out.fits a0)
                    have hc2 := (ok_iff.1 HS.out.ok).2.1.1
                    simp only at hc2
                    have i0 : (c2 == 0) = false := beq_eq_false_iff_ne.2 (by omega)
                    have HGT := Lib.hid hgt
                    clear hblk hrc hgt hc2
                    refine (laneRaise ⟨k2, s2, c2, n2, e2, f2, x2, y2⟩ ar2 cr2 ck ob' a0 (by omega) _ HS.out.fits (HB5.out.keyRd 1 rfl)).mono ?_
                    rintro e W10 ⟨ar3, cr3, he, hm, hb⟩
                    rw [HRS.out] at he hm
                    obtain rfl : e = .returned (.agg #[.slice ar3 k2.length cr3, .int .i64 s2, .int .i64 c2, .int .i64 n2, .int .u64 e2, .int .u64 rc, .int .i64 x2, .int .i64 y2]) := he
                    have h6 := (HB5.out.erase 1).cons hb (x := .key ar3 k2) ⟨hm.rd, hm.lt⟩ (by rintro b ⟨a, ha, rfl⟩; exact hm.at a ha)
                    simp only [List.eraseIdx_cons_succ, List.eraseIdx_cons_zero] at h6
                    have HB6 := Lib.hid h6.swap
                    clear h6 hm hb HB5
                    obtain ⟨l0, l1, l2, l3, l4, l5, l6, l7, lf⟩ := cells8 (show W10.heap[W2.heap.size]? = some (.cells #[.slice ar2 k2.length cr2, .int .i64 s2, .int .i64 c2, .int .i64 n2, .int .u64 e2, .int .u64 f2, .int .i64 x2, .int .i64 y2] 27 (0, 0)) from HB6.out.box 0 rfl)
                    have ll := HB6.out.boxLt 0 rfl
                    have h70 := HB6.out.store 0 rfl [.slice ar3 k2.length cr3, .int .i64 s2, .int .i64 c2, .int .i64 n2, .int .u64 e2, .int .u64 rc, .int .i64 x2, .int .i64 y2] rfl
                    simp only [List.set_cons_zero] at h70
                    have h7 : Bag w ((((((((W10.setCell ⟨W2.heap.size, 0, none⟩ (.slice ar3 k2.length cr3)).setCell ⟨W2.heap.size, 1, none⟩ (.int .i64 s2)).setCell ⟨W2.heap.size, 2, none⟩ (.int .i64 c2)).setCell ⟨W2.heap.size, 3, none⟩ (.int .i64 n2)).setCell ⟨W2.heap.size, 4, none⟩ (.int .u64 e2)).setCell ⟨W2.heap.size, 5, none⟩ (.int .u64 rc)).setCell ⟨W2.heap.size, 6, none⟩ (.int .i64 x2)).setCell ⟨W2.heap.size, 7, none⟩ (.int .i64 y2)) [.box (W2.heap.size) #[.slice ar3 k2.length cr3, .int .i64 s2, .int .i64 c2, .int .i64 n2, .int .u64 e2, .int .u64 rc, .int .i64 x2, .int .i64 y2] 27, .key ar3 k2, .lst 23 1 u10 xs3.length (u64s xs3)] := h70
                    clear h70
                    go_upto_region 19 with fail
                    generalize ((((((((W10.setCell ⟨W2.heap.size, 0, none⟩ (.slice ar3 k2.length cr3)).setCell ⟨W2.heap.size, 1, none⟩ (.int .i64 s2)).setCell ⟨W2.heap.size, 2, none⟩ (.int .i64 c2)).setCell ⟨W2.heap.size, 3, none⟩ (.int .i64 n2)).setCell ⟨W2.heap.size, 4, none⟩ (.int .u64 e2)).setCell ⟨W2.heap.size, 5, none⟩ (.int .u64 rc)).setCell ⟨W2.heap.size, 6, none⟩ (.int .i64 x2)).setCell ⟨W2.heap.size, 7, none⟩ (.int .i64 y2)) = U7 at h7 ⊢
                    have HB7 := Lib.hid h7
                    clear h7 l0 l1 l2 l3 l4 l5 l6 l7 lf ll HB6
                    have hu0 := (HRU.out.on HB7.out.below).num a1 HCK.out
                    obtain ⟨l0, l1, l2, l3, l4, l5, l6, l7, lf⟩ := cells8 (show U7.heap[W2.heap.size]? = some (.cells #[.slice ar3 k2.length cr3, .int .i64 s2, .int .i64 c2, .int .i64 n2, .int .u64 e2, .int .u64 rc, .int .i64 x2, .int .i64 y2] 27 (0, 0)) from HB7.out.box 0 rfl)
                    have ll := HB7.out.boxLt 0 rfl
                    go_wp2_with (at_builtin; refine Bag.append rfl (.tmp 127) (.tmp 132) 65 rfl 23 i1 (.int .u64 0) 8 Try.underlying65 HJ.out HY0.out HY1.out HY2.out rfl 2 _ _ _ (HB7.out.call (fresh1 _ _)) rfl rfl ⟨U7.heap.size, 0, none⟩ rfl (.int .u64 ck) ?_ rfl ?_ ?_ ?_; exact cell_of_row _ _ 0 _ _ _ (heap_alloc_new _ _); (unfold maxLen; omega); omega; intro g2 q2 W9 hB9 hs9; have HB9 := Lib.hid hB9; clear hB9)
                    go_meet
                    case rel => exact ⟨⟨k2, s2, c2, n2, e2, rc, x2, y2⟩, ar3, cr3, xs3 ++ [ck], ⟨ceil_bag HB9.out, HF3.out, HS.out.ok, (CeilInv.mono (Z := ⟨k2, s2, c2, n2, e2, rc, x2, y2⟩) HS.out.inv (by have := HGT.out; simp only; omega)).app a0 HGT.out, by simp; omega⟩⟩
                  · have hcb : decide (f2 ≤ ck) = false := decide_eq_false hce
                    have hcl : ck < f2 := by omega
                    clear hce
                    go_wp2_with fail
                    go_quiet (fail)
                    rename_i nq
                    have hb4 := HS.out.bag.drewN nq
                    generalize U.drewN nq = U4 at hb4 ⊢
                    have HB4 := Lib.hid hb4
                    clear hb4 l0 l1 l2 l3 l4 l5 l6 l7 lf ll hu0 hopb
                    have hu0 := (HRU.out.on HB4.out.below).num a1 HCK.out
                    obtain ⟨l0, l1, l2, l3, l4, l5, l6, l7, lf⟩ := cells8 (show U4.heap[W2.heap.size]? = some (.cells #[.slice ar2 k2.length cr2, .int .i64 s2, .int .i64 c2, .int .i64 n2, .int .u64 e2, .int .u64 f2, .int .i64 x2, .int .i64 y2] 27 (0, 0)) from HB4.out.box 0 rfl)
                    have ll := HB4.out.boxLt 0 rfl
                    go_wp2_with (at_builtin; refine Bag.append rfl (.tmp 127) (.tmp 132) 65 rfl 23 i1 (.int .u64 0) 8 Try.underlying65 HJ.out HY0.out HY1.out HY2.out rfl 2 _ _ _ (HB4.out.call (fresh1 _ _)) rfl rfl ⟨U4.heap.size, 0, none⟩ rfl (.int .u64 ck) ?_ rfl ?_ ?_ ?_; exact cell_of_row _ _ 0 _ _ _ (heap_alloc_new _ _); (unfold maxLen; omega); omega; intro g2 q2 W9 hB9 hs9; have HB9 := Lib.hid hB9; clear hB9)
                    go_meet
                    case rel => exact ⟨⟨k2, s2, c2, n2, e2, f2, x2, y2⟩, ar2, cr2, xs3 ++ [ck], ⟨ceil_bag HB9.out, HS.out.fits, HS.out.ok, HS.out.inv.app a0 (by simp only; omega), by simp; omega⟩⟩
              case rest =>
                obtain ⟨M6, ar6, cr6, xs6, hst6⟩ := hcut
                obtain ⟨wo, rfl⟩ : ∃ wo : World, wo = wc := ⟨_, rfl⟩
                obtain ⟨wr0, rfl⟩ : ∃ wr0 : World, wr0 = wr := ⟨_, rfl⟩
                have HS6 := Lib.hid hst6
                clear hst6 HS HGOOD hopb HCK
                obtain ⟨k6, s6, c6, n6, e6, f6, x6, y6⟩ := M6
                obtain ⟨av6, cv6, rfl, hcv6⟩ := HS6.out.bag.lstForm 2 rfl
                have hx6 := HS6.out.len
                go_wp2_with fail
                go_loopw [15] (fun n wq => ∃ j : Nat, j ≤ xs6.length ∧ n = .int .i64 j ∧ Still wo wq) (fun n _ => xs6.length - (intOf n).toNat)
                case atStart => exact ⟨0, Nat.zero_le _, rfl, Still.refl _⟩
                case round =>
                  obtain ⟨j, hj, rfl, nn, rfl⟩ := hrel
                  obtain ⟨l0, l1, l2, l3, l4, l5, l6, l7, lf⟩ := cells8 (show wo.heap[W2.heap.size]? = some (.cells #[.slice ar6 k6.length cr6, .int .i64 s6, .int .i64 c6, .int .i64 n6, .int .u64 e6, .int .u64 f6, .int .i64 x6, .int .i64 y6] 27 (0, 0)) from HS6.out.bag.box 0 rfl)
                  have ll := HS6.out.bag.boxLt 0 rfl
                  by_cases hjl : j < xs6.length
                  · obtain ⟨b1, q1, e1, h1', f1'⟩ := HS6.out.bag.elem 2 rfl j hjl
                    simp only [Value.slice.injEq] at e1
                    obtain ⟨rfl, _, rfl⟩ := e1
                    rw [u64s_get xs6 j hjl] at h1'
                    have hix := HS6.out.inv _ (mem_getD xs6 j hjl)
                    simp only at hix
                    generalize xs6.getD j 0 = xj at h1' hix
                    obtain ⟨hx0, hx1⟩ := hix
                    have hj0 : (0 : Int) ≤ (j : Int) := by omega
                    go_wp2_with fail
                    go_quiet (fail)
                    go_wp2_with fail
                    go_roundw
                    case rel => exact ⟨j + 1, by omega, by go_num, ⟨_, rfl⟩⟩
                    case measure => simp [intOf]; omega
                  · obtain rfl : j = xs6.length := by omega
                    go_wp2_with fail
                    go_roundw
                    case rel => exact ⟨k + 1, ⟨k6, s6, c6, n6, e6, f6, x6, y6⟩, ar6, cr6, xs6, by omega, by omega, by go_num, ⟨HS6.out.bag.drewN nn, HS6.out.fits, HS6.out.ok, HS6.out.inv, by omega⟩⟩
                    case measure => simp [intOf]; omega
      · clear HR HOF
        have HBB := Lib.hid hB.below
        clear hB
        go_wp2_with fail
        go_ret
        exact ⟨rfl, HBB.out⟩
    · clear HR HOF
      have HBB := Lib.hid hB.below
      clear hB
      go_wp2_with fail
      go_ret
      exact ⟨rfl, HBB.out⟩
theorem lawCeils (key : List (BitVec 8)) (ao : Option Addr) (cap : Nat) (side : Int) (ops : List Ask) (op : Option Addr) (cop : Nat) (us : List Int) (up : Option Addr) (cup : Nat) (w : World) (hr : Rd w ao key) (hlo : ops.length ≤ maxLen) (hro : Ro w op ops) (hof : ∀ i, i < ops.length → (ops.getD i Ask.none).fits) (hus : us.length ≤ maxLen) (hru : Ru w up us) (hub : ∀ x ∈ us, 0 ≤ x ∧ x ≤ 18446744073709551615) :
   Calls Try.prog 10 #[.slice ao key.length cap, .int .i64 side, .slice op ops.length cop, .slice up us.length cup] w fun e w' => e = .returned (.bool true) ∧ Below w.heap.size w w' := by
  by_cases h : key.length = 32
  · by_cases h1 : 0 ≤ side
    · by_cases h2 : side ≤ 1
      · exact lawCeils_y key ao cap side ops op cop us up cup w hr hlo hro hof h h1 h2 hus hru hub
      · exact lawCeils_n2 key ao cap side ops op cop us up cup w hr h h1 h2
    · exact lawCeils_n1 key ao cap side ops op cop us up cup w hr h h1
  · exact lawCeils_n0 key ao cap side ops op cop us up cup w hr h
end Go.Proofs.Ytihndipgdogebaa
