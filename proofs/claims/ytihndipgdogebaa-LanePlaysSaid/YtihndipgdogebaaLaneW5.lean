/- The walk of LanePlays. -/
import Derived.Test.YtihndipgdogebaaLaneOps
import Derived.Deep.DeepCutAuto
namespace Go.Proofs.Ytihndipgdogebaa
open Go.RowKit
theorem newL_fits (key : List (BitVec 8)) (side : Int) (hl : key.length ≤ 140737488351232) : (newL key side).fits := by
  unfold newL
  split
  · exact ⟨hl, by simp, by simp, by simp, by simp, by simp, by simp, by simp, by simp, by simp⟩
  · exact fits_zero
theorem newL_len (key : List (BitVec 8)) (side : Int) (hl : key.length ≤ 140737488351232) : (newL key side).key.length ≤ 281474976710656 := by
  have := (newL_fits key side hl).len
  omega
/-- A lane in a box. -/
structure LaneBox (w wr : World) (b : Nat) (M : Ln) (ar : Option Addr) (cr : Nat) : Prop where
  bag : Bag w wr [.box b (M.cells ar cr) 27]
  rd : Rd wr ar M.key
  fits : M.fits
  lt : ∀ a, ar = some a → a.block < wr.heap.size ∧ a.block ≠ b
theorem Rd.fresh {w : World} {ao : Option Addr} {l : List (BitVec 8)} (h : Rd w ao l) (o : Obj) : Rd (w.alloc o).drew ao l := h.on (fresh1 w o).drew
theorem zbox {wr w' : World} {t : TypeId} {v0 v1 v2 v3 v4 v5 v6 v7 : Value} (hb : Below (wr.alloc (.cells #[v0, v1, v2, v3, v4, v5, v6, v7] t (0, 0))).drew.heap.size (wr.alloc (.cells #[v0, v1, v2, v3, v4, v5, v6, v7] t (0, 0))).drew w') :
    w'.cell? ⟨wr.heap.size, 0, none⟩ = some v0 ∧ w'.cell? ⟨wr.heap.size, 1, none⟩ = some v1 ∧ w'.cell? ⟨wr.heap.size, 2, none⟩ = some v2 ∧ w'.cell? ⟨wr.heap.size, 3, none⟩ = some v3 ∧ w'.cell? ⟨wr.heap.size, 4, none⟩ = some v4 ∧ w'.cell? ⟨wr.heap.size, 5, none⟩ = some v5 ∧ w'.cell? ⟨wr.heap.size, 6, none⟩ = some v6 ∧ w'.cell? ⟨wr.heap.size, 7, none⟩ = some v7 ∧ ∀ i, w'.frozen? ⟨wr.heap.size, i, none⟩ = false :=
  cells8 ((hb.block _ (by show _ < (wr.heap.push _).size; simp)).trans (heap_alloc_new wr _))
/-- The answer of a call, laid in a new box. -/
def StepBox (wr : World) (ao : Option Addr) (z : Ln) (p : Value) (wc : World) : Prop := ∃ (g : Nat) (ar : Option Addr) (cr : Nat), p = .pointer (some ⟨g, 0, none⟩) ∧ wr.heap.size ≤ g ∧ wc.heap[g]? = some (.cells (z.cells ar cr) 27 (0, 0)) ∧ Rd wc ar z.key ∧ (∀ a, ar = some a → (some a = ao ∨ wr.heap.size ≤ a.block) ∧ a.block < wc.heap.size) ∧ Below wr.heap.size wr wc
theorem LaneBox.move {w wr wc : World} {b : Nat} {M Z : Ln} {ar ar2 : Option Addr} {cr cr2 : Nat} (h : LaneBox w wr b M ar cr) (hrd : Rd wc ar2 Z.key) (hat : ∀ a, ar2 = some a → (some a = ar ∨ wr.heap.size ≤ a.block) ∧ a.block < wc.heap.size) (hb : Below wr.heap.size wr wc) (hf : Z.fits) : LaneBox w (Bag.setAll wc b 0 (Z.cells ar2 cr2).toList) b Z ar2 cr2 := by
  have hl := h.bag.boxLt 0 rfl
  have ho := Bag.setAll_only b (Z.cells ar2 cr2).toList 0 wc
  have hne : ∀ a, ar2 = some a → a.block ≠ b := by
    intro a ha
    rcases (hat a ha).1 with h1 | h1
    · exact (h.lt a h1.symm).2
    · omega
  exact ⟨(h.bag.call hb).store 0 rfl (Z.cells ar2 cr2).toList rfl, hrd.only ho hne, hf, fun a ha => ⟨Nat.lt_of_lt_of_le (hat a ha).2 ho.size, hne a ha⟩⟩
theorem step_late {wr w' : World} {ao ar : Option Addr} {cr : Nat} {Z : Ln} (hrd : Rd w' ar Z.key) (hfar : ∀ a, ar = some a → some a = ao ∨ wr.drew.heap.size ≤ a.block ∧ a.block < w'.heap.size) (hlt : ∀ a, ao = some a → a.block < wr.heap.size) (hb : Below wr.drew.heap.size wr.drew w') :
    StepBox wr ao Z (.pointer (some ⟨w'.heap.size, 0, none⟩)) (w'.alloc (.cells (Z.cells ar cr) 27 (0, 0))) := by
  have hb' : Below wr.heap.size wr w' := (Below.refl _ wr).drew.trans hb
  have hs := hb'.size
  refine ⟨_, ar, cr, rfl, hs, heap_alloc_new _ _, hrd.on (fresh1 w' _), ?_, hb'.alloc hs _⟩
  intro a ha
  rw [alloc_size]
  have h0 : wr.drew.heap.size = wr.heap.size := rfl
  rcases hfar a ha with h | h
  · have := hlt a h.symm; exact ⟨Or.inl h, by omega⟩
  · exact ⟨Or.inr (by omega), by omega⟩
theorem step_early {wr w' : World} {ao ar : Option Addr} {cr : Nat} {Z : Ln} {cs : Array Value} (hrd : Rd w' ar Z.key) (hcs : cs.size = 8) (hfar : ∀ a, ar = some a → some a = ao ∨ (wr.alloc (.cells cs 27 (0, 0))).drew.heap.size ≤ a.block ∧ a.block < w'.heap.size) (hlt : ∀ a, ao = some a → a.block < wr.heap.size)
    (hb : Below (wr.alloc (.cells cs 27 (0, 0))).drew.heap.size (wr.alloc (.cells cs 27 (0, 0))).drew w') :
    StepBox wr ao Z (.pointer (some ⟨wr.heap.size, 0, none⟩)) (Bag.setAll w' wr.heap.size 0 (Z.cells ar cr).toList) := by
  have hz : (wr.alloc (.cells cs 27 (0, 0))).drew.heap.size = wr.heap.size + 1 := alloc_size _ _
  have hb' : Below wr.heap.size wr w' := (fresh1 wr _).drew.trans (hb.mono (by rw [hz]; omega))
  have hs := hb.size
  rw [hz] at hs
  have hx : w'.heap[wr.heap.size]? = some (.cells cs 27 (0, 0)) := (hb.block _ (by rw [hz]; omega)).trans (heap_alloc_new wr _)
  have ho := Bag.setAll_only wr.heap.size (Z.cells ar cr).toList 0 w'
  have hsz := ho.size
  have hal : ∀ a, ar = some a → a.block ≠ wr.heap.size ∧ a.block < w'.heap.size := by
    intro a ha
    rcases hfar a ha with h | h
    · have := hlt a h.symm; omega
    · rw [hz] at h; omega
  refine ⟨_, ar, cr, rfl, Nat.le_refl _, ?_, hrd.only ho fun a ha => (hal a ha).1, fun a ha => ⟨(hfar a ha).imp id fun h => by rw [hz] at h; omega, Nat.lt_of_lt_of_le (hal a ha).2 hsz⟩, hb'.trans (ho.below (B := wr.heap.size) (fun k hk => by rw [hk]; exact Nat.le_refl _) (by omega))⟩
  have hx' : w'.heap[wr.heap.size]? = some (.cells ⟨[] ++ cs.toList⟩ 27 (0, 0)) := by rw [hx]; simp
  have := Bag.setAll_heap wr.heap.size 27 (Z.cells ar cr).toList [] cs.toList w' hx' (by simp [hcs, Ln.cells])
  rw [List.nil_append] at this
  exact this
theorem step_late8 {wr w' : World} {ao ar : Option Addr} {cr : Nat} {k : List (BitVec 8)} {s c n e f x y : Int} (hrd : Rd w' ar k) (hfar : ∀ a, ar = some a → some a = ao ∨ wr.drew.heap.size ≤ a.block ∧ a.block < w'.heap.size) (hlt : ∀ a, ao = some a → a.block < wr.heap.size) (hb : Below wr.drew.heap.size wr.drew w') :
    StepBox wr ao ⟨k, s, c, n, e, f, x, y⟩ (.pointer (some ⟨w'.heap.size, 0, none⟩)) (w'.alloc (.cells #[.slice ar k.length cr, .int .i64 s, .int .i64 c, .int .i64 n, .int .u64 e, .int .u64 f, .int .i64 x, .int .i64 y] 27 (0, 0))) := step_late (Z := ⟨k, s, c, n, e, f, x, y⟩) hrd hfar hlt hb
theorem step_early8 {wr w' : World} {ao ar : Option Addr} {cr : Nat} {k : List (BitVec 8)} {s c n e f x y : Int} (hrd : Rd w' ar k) {cs : List Value} (hfar : ∀ a, ar = some a → some a = ao ∨ (wr.alloc (.cells cs.toArray 27 (0, 0))).drew.heap.size ≤ a.block ∧ a.block < w'.heap.size) (hlt : ∀ a, ao = some a → a.block < wr.heap.size)
    (hb : Below (wr.alloc (.cells cs.toArray 27 (0, 0))).drew.heap.size (wr.alloc (.cells cs.toArray 27 (0, 0))).drew w') (hcs : cs.length = 8) :
    StepBox wr ao ⟨k, s, c, n, e, f, x, y⟩ (.pointer (some ⟨wr.heap.size, 0, none⟩)) ((((((((w'.setCell ⟨wr.heap.size, 0, none⟩ (.slice ar k.length cr)).setCell ⟨wr.heap.size, 1, none⟩ (.int .i64 s)).setCell ⟨wr.heap.size, 2, none⟩ (.int .i64 c)).setCell ⟨wr.heap.size, 3, none⟩ (.int .i64 n)).setCell ⟨wr.heap.size, 4, none⟩ (.int .u64 e)).setCell ⟨wr.heap.size, 5, none⟩ (.int .u64 f)).setCell ⟨wr.heap.size, 6, none⟩ (.int .i64 x)).setCell ⟨wr.heap.size, 7, none⟩ (.int .i64 y)) := step_early (Z := ⟨k, s, c, n, e, f, x, y⟩) hrd (by simpa using hcs) hfar hlt hb
/-- The loop of LanePlays. -/
def PlayRel (w : World) (b : Nat) (n : Nat) (i : Value) (wr : World) : Prop := ∃ (k : Nat) (M : Ln) (ar : Option Addr) (cr : Nat), k ≤ n ∧ k ≤ 2000 ∧ i = .int .i64 k ∧ LaneBox w wr b M ar cr
set_option maxRecDepth 100000 in
set_option maxHeartbeats 4000000 in
theorem lawPlays (key : List (BitVec 8)) (ao : Option Addr) (cap : Nat) (side : Int) (ops : List Ask) (op : Option Addr) (cop : Nat) (w : World) (hl : key.length ≤ 140737488351232) (hr : Rd w ao key) (_hlo : ops.length ≤ maxLen) (hro : Ro w op ops) (hof : ∀ i, i < ops.length → (ops.getD i Ask.none).fits) :
   Calls Try.prog 7 #[.slice ao key.length cap, .int .i64 side, .slice op ops.length cop] w fun e w' => e = .returned (.bool true) ∧ Below w.heap.size w w' := by
  have HR := Lib.hid hro
  have HOF := Lib.hid hof
  have HF := newL_fits key side hl
  have HL := newL_len key side hl
  clear hro hof
  obtain ⟨N, hN⟩ : ∃ N, newL key side = N := ⟨_, rfl⟩
  rw [hN] at HF HL
  have HF := Lib.hid HF
  have HN := Lib.hid hN
  clear hN
  obtain ⟨k0, s0, c0, n0, e0, f0, x0, y0⟩ := N
  simp only at HL
  go_enter Try.func7, Try.ntmps7
  go_wp2_with fail
  have HB := Lib.hid (Bag.start w)
  refine (laneKnown _).mono ?_
  rintro e W1 ⟨rfl, hb⟩
  have h0 := HB.out.call hb
  clear HB
  have HB := Lib.hid h0
  clear h0
  clear hb
  go_wp2_with fail
  refine (laneNew key side ao cap _ (hr.on HB.out.below)).mono ?_
  rintro e W2 ⟨A0, cA0, he, Mx, hb⟩
  rw [HN.out] at he Mx
  obtain rfl : e = .returned (.agg #[.slice A0 k0.length cA0, .int .i64 s0, .int .i64 c0, .int .i64 n0, .int .u64 e0, .int .u64 f0, .int .i64 x0, .int .i64 y0]) := he
  have h0 := HB.out.mine hb Mx
  clear HB
  have HB := Lib.hid h0
  clear h0
  clear Mx
  clear hb
  go_wp2_with fail
  generalize hU : W2.alloc (.cells #[.slice A0 k0.length cA0, .int .i64 s0, .int .i64 c0, .int .i64 n0, .int .u64 e0, .int .u64 f0, .int .i64 x0, .int .i64 y0] 27 (0, 0)) = U3
  have h0 := HB.out.alloc #[.slice A0 k0.length cA0, .int .i64 s0, .int .i64 c0, .int .i64 n0, .int .u64 e0, .int .u64 f0, .int .i64 x0, .int .i64 y0] 27
  rw [hU] at h0
  clear HB
  have HB := Lib.hid h0
  clear h0
  clear hU
  refine (refNew key side ao cap _ hl (hr.on HB.out.below)).mono ?_
  rintro e W4 ⟨B0, cB0, he, Mx, hb⟩
  rw [HN.out] at he Mx
  obtain rfl : e = .returned (.agg #[.slice B0 k0.length cB0, .int .i64 s0, .int .i64 c0, .int .i64 n0, .int .u64 e0, .int .u64 f0, .int .i64 x0, .int .i64 y0]) := he
  have h0 := HB.out.mine hb Mx
  clear HB
  have HB := Lib.hid h0
  clear h0
  clear Mx
  clear hb
  obtain ⟨ql_0, ql_1, ql_2, ql_3, ql_4, ql_5, ql_6, ql_7, ql_f⟩ := cells8 (HB.out.box 1 rfl)
  have ql_l := HB.out.boxLt 1 rfl
  go_wp2_with fail
  generalize hU : W4.alloc (.cells #[.slice B0 k0.length cB0, .int .i64 s0, .int .i64 c0, .int .i64 n0, .int .u64 e0, .int .u64 f0, .int .i64 x0, .int .i64 y0] 27 (0, 0)) = U5
  clear ql_0 ql_1 ql_2 ql_3 ql_4 ql_5 ql_6 ql_7 ql_f ql_l
  have h0 := HB.out.alloc #[.slice B0 k0.length cB0, .int .i64 s0, .int .i64 c0, .int .i64 n0, .int .u64 e0, .int .u64 f0, .int .i64 x0, .int .i64 y0] 27
  rw [hU] at h0
  clear HB
  have HB := Lib.hid h0
  clear h0
  clear hU
  refine (sameLane ⟨k0, s0, c0, n0, e0, f0, x0, y0⟩ ⟨k0, s0, c0, n0, e0, f0, x0, y0⟩ A0 B0 cA0 cB0 _ HL HL (HB.out.mineRd 3 rfl) (HB.out.mineRd 1 rfl)).mono ?_
  rintro e W6 ⟨he, hb⟩
  rw [sameL_refl] at he
  subst he
  have h0 := HB.out.call hb
  clear HB
  have HB := Lib.hid h0
  clear h0
  clear hb
  go_wp2_with fail
  have hA := (HB.out.mineRd 3 rfl)
  have hAl := fun a h => And.intro (HB.out.mineFar 3 rfl a h).2 (HB.out.mineNe 3 2 rfl rfl (by decide) a h)
  have h0 := HB.out.erase 0
  simp only [List.eraseIdx_cons_zero] at h0
  clear HB
  have HB := Lib.hid h0
  clear h0
  have h0 := HB.out.erase 0
  simp only [List.eraseIdx_cons_zero] at h0
  clear HB
  have HB := Lib.hid h0
  clear h0
  have h0 := HB.out.erase 1
  simp only [List.eraseIdx_cons_zero, List.eraseIdx_cons_succ] at h0
  clear HB
  have HB := Lib.hid h0
  clear h0
  have HLB := Lib.hid (LaneBox.mk (M := ⟨k0, s0, c0, n0, e0, f0, x0, y0⟩) HB.out hA HF.out hAl)
  clear hA hAl
  go_loopw [10] (PlayRel w W2.heap.size ops.length) (fun i _ => 2000 - (intOf i).toNat)
  case atStart => exact ⟨0, ⟨k0, s0, c0, n0, e0, f0, x0, y0⟩, A0, cA0, Nat.zero_le _, by omega, rfl, HLB.out⟩
  case round =>
    obtain ⟨k, M, ar, cr, hk1, hk2, rfl, hB⟩ := hrel
    clear HB HLB HN HF HL
    have hMF := Lib.hid hB.fits
    obtain ⟨k1, s1, c1, n1, e1, f1, x1, y1⟩ := M
    by_cases h1 : k < ops.length
    · by_cases h2 : k < 2000
      · obtain ⟨ob, oo, rfl, hcell⟩ : ∃ b o, op = some ⟨b, o, none⟩ ∧ _ := (HR.out.on hB.bag.below).resolve_left (by intro h; rw [h] at h1; simp at h1)
        have HO := Lib.hid (HOF.out k h1)
        obtain ⟨g0, g1, g2, g3, g4, g5, g6⟩ := hcell k h1
        clear hcell
        have hob := lt_of_cell g0
        obtain ⟨O, hOk⟩ : ∃ O, ops.getD k Ask.none = O := ⟨_, rfl⟩
        rw [hOk] at HO g0 g1 g2 g3 g4 g5 g6
        clear hOk
        obtain ⟨kd, og, ob', oc, oa, os, on⟩ := O
        simp only at g0 g1 g2 g3 g4 g5 g6
        have hx : wr.heap[W2.heap.size]? = some (.cells #[.slice ar k1.length cr, .int .i64 s1, .int .i64 c1, .int .i64 n1, .int .u64 e1, .int .u64 f1, .int .i64 x1, .int .i64 y1] 27 (0, 0)) := hB.bag.box 0 rfl
        obtain ⟨q0, q1, q2, q3, q4, q5, q6, q7, qf⟩ := cells8 hx
        clear hx
        have ql := hB.bag.boxLt 0 rfl
        have hB' := Lib.hid hB
        have hrd : Rd wr ar k1 := hB.rd
        have HRD := Lib.hid hrd
        have HLT := Lib.hid (fun a h => (hB.lt a h).1)
        clear hB hrd
        have hst : ∀ (W' : World), Rd W' ar k1 → Calls Try.prog 36 #[.agg #[.slice ar k1.length cr, .int .i64 s1, .int .i64 c1, .int .i64 n1, .int .u64 e1, .int .u64 f1, .int .i64 x1, .int .i64 y1], .agg #[.int .i64 kd, .int .i64 og, .int .i64 ob', .int .u64 oc, .int .u64 oa, .int .i64 os, .int .i64 on]] W' (StepR W' ar (stepL ⟨k1, s1, c1, n1, e1, f1, x1, y1⟩ ⟨kd, og, ob', oc, oa, os, on⟩) [.bool true]) :=
          fun W' h => lawStep ⟨k1, s1, c1, n1, e1, f1, x1, y1⟩ ar cr ⟨kd, og, ob', oc, oa, os, on⟩ W' hMF.out HO.out h
        have hzf := (turn_of ⟨k1, s1, c1, n1, e1, f1, x1, y1⟩ ⟨kd, og, ob', oc, oa, os, on⟩).rise.fits hMF.out HO.out
        generalize stepL ⟨k1, s1, c1, n1, e1, f1, x1, y1⟩ ⟨kd, og, ob', oc, oa, os, on⟩ = Z at hst hzf
        obtain ⟨k2, s2, c2, n2, e2, f2, x2, y2⟩ := Z
        have HST := Lib.hid hst
        have HZF := Lib.hid hzf
        clear hst hzf
        go_upto_region 11 with fail
        go_cut [11, 12] (fun p ok wc => StepBox wr ar ⟨k2, s2, c2, n2, e2, f2, x2, y2⟩ p wc ∧ ok = .bool true)
        case first =>
          go_region_with (go_at_call 36; refine (HST.out _ ?_).mono ?_; (first | exact HRD.out | exact HRD.out.fresh _); rintro e w' ⟨ar', cr', he, hr', hfar, hb⟩; obtain rfl : e = .returned (.tuple #[.agg #[.slice ar' k2.length cr', .int .i64 s2, .int .i64 c2, .int .i64 n2, .int .u64 e2, .int .u64 f2, .int .i64 x2, .int .i64 y2], .bool true]) := he; (first | (have hz := zbox hb; obtain ⟨z0, z1, z2, z3, z4, z5, z6, z7, zf⟩ := hz) | skip))
          all_goals
            go_wp2_with fail
            go_meet
            case rel =>
              refine ⟨?_, rfl⟩
              first | (with_reducible exact step_late8 hr' hfar HLT.out hb) | (with_reducible exact step_early8 hr' hfar HLT.out hb rfl)
        case rest =>
          obtain ⟨⟨g, ar2, cr2, rfl, hg, hx2, hrd2, hlt2, hbc⟩, rfl⟩ := hcut
          obtain ⟨q0, q1, q2, q3, q4, q5, q6, q7, qf⟩ := cells8 (show wc.heap[W2.heap.size]? = some (.cells #[.slice ar k1.length cr, .int .i64 s1, .int .i64 c1, .int .i64 n1, .int .u64 e1, .int .u64 f1, .int .i64 x1, .int .i64 y1] 27 (0, 0)) from (hB'.out.bag.call hbc).box 0 rfl)
          have hx2' : wc.heap[g]? = some (.cells #[.slice ar2 k2.length cr2, .int .i64 s2, .int .i64 c2, .int .i64 n2, .int .u64 e2, .int .u64 f2, .int .i64 x2, .int .i64 y2] 27 (0, 0)) := hx2
          obtain ⟨r0, r1, r2, r3, r4, r5, r6, r7, rf⟩ := cells8 hx2'
          have hgl := Nat.lt_of_lt_of_le ql hg
          have HM := Lib.hid (hB'.out.move (cr2 := cr2) hrd2 hlt2 hbc HZF.out)
          clear hx2 hx2' hrd2 hlt2 hbc hB'
          go_wp2_with fail
          go_roundw
          case rel => exact ⟨k + 1, ⟨k2, s2, c2, n2, e2, f2, x2, y2⟩, ar2, cr2, by omega, by omega, by go_num, HM.out⟩
          case measure => simp [intOf]; omega
      · clear HR HOF
        have hx : wr.heap[W2.heap.size]? = some (.cells #[.slice ar k1.length cr, .int .i64 s1, .int .i64 c1, .int .i64 n1, .int .u64 e1, .int .u64 f1, .int .i64 x1, .int .i64 y1] 27 (0, 0)) := hB.bag.box 0 rfl
        obtain ⟨q0, q1, q2, q3, q4, q5, q6, q7, qf⟩ := cells8 hx
        have hB' := Lib.hid hB.bag
        clear hx hB
        go_wp2_with fail
        refine (laneValid ⟨k1, s1, c1, n1, e1, f1, x1, y1⟩ ar cr hMF.out.sec1 _).mono ?_
        rintro e W7 ⟨he, hb⟩
        obtain ⟨vb, hvb⟩ : ∃ vb, Ln.ok ⟨k1, s1, c1, n1, e1, f1, x1, y1⟩ = vb := ⟨_, rfl⟩
        rw [hvb] at he
        subst he
        have HV := Lib.hid hvb
        clear hvb
        have hx : W7.heap[W2.heap.size]? = some (.cells #[.slice ar k1.length cr, .int .i64 s1, .int .i64 c1, .int .i64 n1, .int .u64 e1, .int .u64 f1, .int .i64 x1, .int .i64 y1] 27 (0, 0)) := (hB'.out.call hb).box 0 rfl
        have hB2 := Lib.hid (hB'.out.call hb)
        clear q0 q1 q2 q3 q4 q5 q6 q7 qf hB' hb
        obtain ⟨q0, q1, q2, q3, q4, q5, q6, q7, qf⟩ := cells8 hx
        clear hx
        go_wp2_with fail
        refine (refLaneValid ⟨k1, s1, c1, n1, e1, f1, x1, y1⟩ ar cr _).mono ?_
        rintro e W8 ⟨he, hb⟩
        rw [HV.out] at he
        subst he
        have i1 : (vb == vb) = true := by simp
        clear q0 q1 q2 q3 q4 q5 q6 q7 qf
        go_wp2_with fail
        go_ret
        exact ⟨rfl, (hB2.out.call hb).below⟩
    · clear HR HOF
      have hx : wr.heap[W2.heap.size]? = some (.cells #[.slice ar k1.length cr, .int .i64 s1, .int .i64 c1, .int .i64 n1, .int .u64 e1, .int .u64 f1, .int .i64 x1, .int .i64 y1] 27 (0, 0)) := hB.bag.box 0 rfl
      obtain ⟨q0, q1, q2, q3, q4, q5, q6, q7, qf⟩ := cells8 hx
      have hB' := Lib.hid hB.bag
      clear hx hB
      go_wp2_with fail
      refine (laneValid ⟨k1, s1, c1, n1, e1, f1, x1, y1⟩ ar cr hMF.out.sec1 _).mono ?_
      rintro e W7 ⟨he, hb⟩
      obtain ⟨vb, hvb⟩ : ∃ vb, Ln.ok ⟨k1, s1, c1, n1, e1, f1, x1, y1⟩ = vb := ⟨_, rfl⟩
      rw [hvb] at he
      subst he
      have HV := Lib.hid hvb
      clear hvb
      have hx : W7.heap[W2.heap.size]? = some (.cells #[.slice ar k1.length cr, .int .i64 s1, .int .i64 c1, .int .i64 n1, .int .u64 e1, .int .u64 f1, .int .i64 x1, .int .i64 y1] 27 (0, 0)) := (hB'.out.call hb).box 0 rfl
      have hB2 := Lib.hid (hB'.out.call hb)
      clear q0 q1 q2 q3 q4 q5 q6 q7 qf hB' hb
      obtain ⟨q0, q1, q2, q3, q4, q5, q6, q7, qf⟩ := cells8 hx
      clear hx
      go_wp2_with fail
      refine (refLaneValid ⟨k1, s1, c1, n1, e1, f1, x1, y1⟩ ar cr _).mono ?_
      rintro e W8 ⟨he, hb⟩
      rw [HV.out] at he
      subst he
      have i1 : (vb == vb) = true := by simp
      clear q0 q1 q2 q3 q4 q5 q6 q7 qf
      go_wp2_with fail
      go_ret
      exact ⟨rfl, (hB2.out.call hb).below⟩
end Go.Proofs.Ytihndipgdogebaa
