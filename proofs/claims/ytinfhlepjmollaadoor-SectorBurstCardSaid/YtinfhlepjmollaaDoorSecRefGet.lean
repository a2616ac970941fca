/- The reference's Get. -/
import Derived.Test.YtinfhlepjmollaaDoorSecGet
import Derived.Test.YtinfhlepjmollaaDoorSecRefPut
namespace Go.Proofs.YtinfhlepjmollaaDoor
open Go.RowKit
theorem Mine.nilCap {w : World} {B : Nat} {e : TypeId} {ao : Option Addr} {cap : Nat} {l : List (BitVec 8)} (h : Mine w B e ao cap l) : ao = none → cap = 0 := by
  rcases h with ⟨_, _, h⟩ | ⟨g, rfl, _⟩
  · intro _; exact h
  · intro h; cases h
theorem refMay' (T : List (BitVec 8)) (E Q P : Int) (B : List (BitVec 8)) (ao : Option Addr) (N cap : Nat) (w : World) (hN : B.length = N) (hf : Sec.fits ⟨T, E, Q, P, B⟩) :
   Calls Tryd.prog 31 #[.agg #[.string (str T), .int .i64 E, .int .i64 Q, .int .i64 P, .slice ao N cap]] w fun e w' => e = .returned (.bool (Sec.may ⟨T, E, Q, P, B⟩)) ∧ Below w.heap.size w w' := by
  subst hN
  exact refMay ⟨T, E, Q, P, B⟩ ao cap w hf
theorem refPut' (T : List (BitVec 8)) (E Q P : Int) (B : List (BitVec 8)) (ao : Option Addr) (N cap : Nat) (w : World) (hN : B.length = N) (hf : Sec.fits ⟨T, E, Q, P, B⟩) (hr : Rd w ao B) (hc : ao = none → cap = 0) :
   Calls Tryd.prog 14 #[.agg #[.string (str T), .int .i64 E, .int .i64 Q, .int .i64 P, .slice ao N cap]] w fun e w' => ∃ ar cr, e = .returned (.tuple #[.slice ar (putS ⟨T, E, Q, P, B⟩).length cr, .int .i64 (putE ⟨T, E, Q, P, B⟩)]) ∧ Mine w' w.heap.size 5 ar cr (putS ⟨T, E, Q, P, B⟩) ∧ Below w.heap.size w w' := by
  subst hN
  exact refPut ⟨T, E, Q, P, B⟩ ao cap w hf hr hc
theorem Bag.swap {w W : World} {a b : It} {l : List It} (h : Bag w W (a :: b :: l)) : Bag w W (b :: a :: l) := by
  refine h.sub (fun i => if i = 0 then 1 else if i = 1 then 0 else i) ?_ ?_
  · rintro (_ | _ | i) x hx
    · simpa using hx
    · simpa using hx
    · simpa using hx
  · intro i j _ _ hij
    split at hij <;> split at hij <;> (try split at hij) <;> (try split at hij) <;> omega
set_option maxRecDepth 100000 in
set_option maxHeartbeats 4000000 in
theorem refGet (b : List (BitVec 8)) (ao : Option Addr) (n cap : Nat) (w : World) (hn : b.length = n) (hcap : n ≤ cap) (hr : Rd w ao b) :
   Calls Tryd.prog 21 #[.slice ao n cap] w fun e w' => ∃ ar cr, e = .returned (.tuple #[(getV b).val ar cr, .int .i64 (getE b)]) ∧ Mine w' w.heap.size 5 ar cr (getV b).body ∧ Below w.heap.size w w' := by
  obtain ⟨i0, hi, hz0, hz1, hz2⟩ := info_parts info_u8
  by_cases h512 : n = 512
  · subst h512
    obtain ⟨l24, T, E, Q, P, N, B, hR⟩ := read_of b hn
    have HR := Lib.hid hR
    have he0 := hR.e0
    have he1 := hR.e1
    have hq0 := hR.q0
    have hq1 := hR.q1
    have hp0 := hR.p0
    have hp1 := hR.p1
    have hn1 := hR.n1
    obtain ⟨blk, off, rfl, hcell⟩ := hr.at (by omega)
    have hrE := (hr.drop 4).take 8
    have hrQ := (hr.drop 12).take 8
    have hrP := (hr.drop 20).take 4
    have hrN := (hr.drop 24).take 2
    have hrT := hr.take 4
    rw [hR.tag] at hrT
    have hrB := (hr.drop 28).take N
    rw [hR.body] at hrB
    have HRB := Lib.hid (fun (w' : World) (hb : Below w.heap.size w w') => hr.on hb)
    have HRE := Lib.hid (fun (w' : World) (hb : Below w.heap.size w w') => hrE.on hb)
    have HRQ := Lib.hid (fun (w' : World) (hb : Below w.heap.size w w') => hrQ.on hb)
    have HRP := Lib.hid (fun (w' : World) (hb : Below w.heap.size w w') => hrP.on hb)
    have HRN := Lib.hid (fun (w' : World) (hb : Below w.heap.size w w') => hrN.on hb)
    have HRT := Lib.hid (fun (w' : World) (hb : Below w.heap.size w w') => hrT.on hb)
    have HRBd := Lib.hid (fun (w' : World) (hb : Below w.heap.size w w') => hrB.on hb)
    have HBl := Lib.hid hn
    have hx4 : ¬ cap = 4 := by omega
    have hx12 : ¬ cap = 12 := by omega
    have hx20 : ¬ cap = 20 := by omega
    have hx24 : ¬ cap = 24 := by omega
    have hx28 : ¬ cap = 28 := by omega
    have l1 : ((b.drop 4).take 8).length = 8 := by simp; omega
    have l2 : ((b.drop 12).take 8).length = 8 := by simp; omega
    have l3 : ((b.drop 20).take 4).length = 4 := by simp; omega
    have l4 : ((b.drop 24).take 2).length = 2 := by simp; omega
    have L1 := Lib.hid l1
    have L2 := Lib.hid l2
    have L3 := Lib.hid l3
    have L4 := Lib.hid l4
    clear hr hrE hrQ hrP hrN hrT hrB hcell hn hR l1 l2 l3 l4
    go_enter Tryd.func21, Tryd.ntmps21
    go_wp2_with fail
    generalize hU : (w.alloc (.cells #[.string { data := #[] }, .int .i64 0, .int .i64 0, .int .i64 0, .slice none 0 0] 24 (0, 0))) = U1
    have h0 := (Bag.start w).allocAt #[.string { data := #[] }, .int .i64 0, .int .i64 0, .int .i64 0, .slice none 0 0] 24 (w.heap.size) rfl
    rw [hU] at h0
    have HB := Lib.hid h0
    clear h0 hU
    have h := refValue (some ⟨blk, off + 4, none⟩) ((b.drop 4).take 8) 8 (cap - 4) U1 L1.out (by decide) (HRE.out _ HB.out.below)
    rw [HR.out.e'] at h
    refine h.mono ?_
    clear h
    rintro e w' ⟨rfl, hw⟩
    obtain rfl := hw
    go_wp2_with fail
    have h := refValue (some ⟨blk, off + 12, none⟩) ((b.drop 12).take 8) 8 (cap - 12) U1 L2.out (by decide) (HRQ.out _ HB.out.below)
    rw [HR.out.q'] at h
    refine h.mono ?_
    clear h
    rintro e w' ⟨rfl, hw⟩
    obtain rfl := hw
    go_wp2_with fail
    have h := refValue (some ⟨blk, off + 20, none⟩) ((b.drop 20).take 4) 4 (cap - 20) U1 L3.out (by decide) (HRP.out _ HB.out.below)
    rw [HR.out.p'] at h
    refine h.mono ?_
    clear h
    rintro e w' ⟨rfl, hw⟩
    obtain rfl := hw
    go_wp2_with fail
    have h := refValue (some ⟨blk, off + 24, none⟩) ((b.drop 24).take 2) 2 (cap - 24) U1 L4.out (by decide) (HRN.out _ HB.out.below)
    rw [HR.out.n'] at h
    refine h.mono ?_
    clear h
    rintro e w' ⟨rfl, hw⟩
    obtain rfl := hw
    by_cases c1 : E ≤ 4611686018427387904
    · by_cases c2 : Q ≤ 4611686018427387904
      · by_cases c4 : N ≤ 480
        · have HBL := Lib.hid (HR.out.blen (by omega))
          have hwN := wrapI64 (N : Int) (by omega) (by omega)
          have hwE := wrapI64 E (by omega) (by omega)
          have hwQ := wrapI64 Q (by omega) (by omega)
          have hwP := wrapI64 P (by omega) (by omega)
          have hc4 : (4 : Int) ≤ (cap : Int) := by omega
          have hw1 := wrapI64 (28 + (N : Int)) (by omega) (by omega)
          have hw0 : (0 : Int) ≤ 28 + (N : Int) := by omega
          have hw3 : (28 + (N : Int)).toNat = 28 + N := by omega
          have hw2 : (28 : Int) + (N : Int) ≤ (cap : Int) := by omega
          have hw4 : (28 : Int) ≤ 28 + (N : Int) := by omega
          go_upto_region 9 with fail
          go_cut [8] (fun v wx => ∃ p ar cr, v = .pointer (some ⟨p, 0, none⟩) ∧ Bag w wx [.box p #[.string (str T), .int .i64 E, .int .i64 Q, .int .i64 P, .slice ar N cr] 24, .mine 5 ar cr B, .box w.heap.size #[.string { data := #[] }, .int .i64 0, .int .i64 0, .int .i64 0, .slice none 0 0] 24] ∧ (ar = none → cr = 0))
          case first =>
            have hB1 : Bag w U1.drew [.box w.heap.size #[.string { data := #[] }, .int .i64 0, .int .i64 0, .int .i64 0, .slice none 0 0] 24] := HB.out.drew
            have hB2 := hB1.allocAt #[.string { data := #[] }, .int .i64 0, .int .i64 0, .int .i64 0, .slice none 0 0] 24 (U1.heap.size) rfl
            have hc1 := cvRun U1.drew (some ⟨blk, off, none⟩) T 4 cap HR.out.tlen (HRT.out _ hB1.below)
            have hc2 := cvRun (U1.alloc (.cells #[.string { data := #[] }, .int .i64 0, .int .i64 0, .int .i64 0, .slice none 0 0] 24 (0, 0))).drew (some ⟨blk, off, none⟩) T 4 cap HR.out.tlen (HRT.out _ hB2.below)
            have HB1 := Lib.hid hB1
            have HB2 := Lib.hid hB2
            clear hB1 hB2
            go_region_with (go_at_call 17; refine (bytesOf' (some ⟨blk, off + 28, none⟩) B N (cap - 28) _ HBL.out (by rw [HBL.out]; omega) (HRBd.out _ ?_)).mono ?_; (first | exact HB1.out.below | exact HB2.out.below); rintro e w2 ⟨v2, rfl, ho, hb⟩; obtain ⟨ar, cr, rfl, hm⟩ := owns_mine' ho HBL.out; clear ho; have hb0 : Below w.heap.size w w2 := (by first | exact HB1.out.below.trans (hb.mono HB1.out.size) | exact HB2.out.below.trans (hb.mono HB2.out.size)); have hc3 := cvRun w2 (some ⟨blk, off, none⟩) T 4 cap HR.out.tlen (HRT.out _ hb0); have hc4 := cvRun (w2.alloc (.cells #[.string { data := #[] }, .int .i64 0, .int .i64 0, .int .i64 0, .slice none 0 0] 24 (0, 0))) (some ⟨blk, off, none⟩) T 4 cap HR.out.tlen (HRT.out _ (hb0.alloc hb0.size _)); (try (obtain ⟨z0, z1, z2, z3, z4, zf⟩ := cells5 ((HB2.out.call hb).box 0 rfl); have zl := (HB2.out.call hb).boxLt 0 rfl)))
            all_goals
              go_wp2_with fail
              go_meet
              case rel =>
                first
                  | exact ⟨w2.heap.size, ar, cr, rfl, (HB1.out.mine hb hm).alloc #[.string (str T), .int .i64 E, .int .i64 Q, .int .i64 P, .slice ar N cr] 24, hm.nilCap⟩
                  | exact ⟨U1.heap.size, ar, cr, rfl, (HB2.out.mine hb hm |>.store 1 rfl [.string (str T), .int .i64 E, .int .i64 Q, .int .i64 P, .slice ar N cr] rfl).swap, hm.nilCap⟩
          case rest =>
            obtain ⟨p, ar, cr, rfl, hB, hnc⟩ := hcut
            clear HB
            have HB := Lib.hid hB
            clear hB hwN hwE hwQ hwP hc4 hw0 hw1 hw2 hw3 hw4
            obtain ⟨qs_0, qs_1, qs_2, qs_3, qs_4, qs_f⟩ := cells5 (HB.out.box 0 rfl)
            have qs_l := HB.out.boxLt 0 rfl
            go_wp2_with fail
            clear qs_0 qs_1 qs_2 qs_3 qs_4 qs_f qs_l
            refine (refMay' T E Q P B ar N cr _ HBL.out (fits_read HR.out c1 c2 c4)).mono ?_
            rintro e W2 ⟨rfl, hb⟩
            have h0 := HB.out.call hb
            clear HB
            have HB := Lib.hid h0
            clear h0
            clear hb
            cases hmay : Sec.may ⟨T, E, Q, P, B⟩ with
            | false =>
              obtain ⟨hg1, hg2⟩ := get_not HR.out (Or.inl hmay)
              have HG2 := Lib.hid hg2
              have HG1 := Lib.hid hg1
              clear hg1 hg2
              obtain ⟨qr_0, qr_1, qr_2, qr_3, qr_4, qr_f⟩ := cells5 (HB.out.box 2 rfl)
              have qr_l := HB.out.boxLt 2 rfl
              go_wp2_with fail
              generalize hU : (((((W2.setCell ⟨w.heap.size, 0, none⟩ (.string { data := #[] })).setCell ⟨w.heap.size, 1, none⟩ (.int .i64 0)).setCell ⟨w.heap.size, 2, none⟩ (.int .i64 0)).setCell ⟨w.heap.size, 3, none⟩ (.int .i64 0)).setCell ⟨w.heap.size, 4, none⟩ (.slice none 0 0)) = U3
              clear qr_0 qr_1 qr_2 qr_3 qr_4 qr_f qr_l
              have h0 := HB.out.store 2 rfl [.string { data := #[] }, .int .i64 0, .int .i64 0, .int .i64 0, .slice none 0 0] rfl
              rw [show Bag.setAll W2 (w.heap.size) 0 [.string { data := #[] }, .int .i64 0, .int .i64 0, .int .i64 0, .slice none 0 0] = U3 from hU] at h0
              simp only [List.set_cons_zero, List.set_cons_succ] at h0
              clear HB
              have HB := Lib.hid h0
              clear h0
              clear hU
              obtain ⟨qr_0, qr_1, qr_2, qr_3, qr_4, qr_f⟩ := cells5 (HB.out.box 2 rfl)
              have qr_l := HB.out.boxLt 2 rfl
              refine bodyPost_ret (v := .tuple #[.agg #[.string { data := #[] }, .int .i64 0, .int .i64 0, .int .i64 0, .slice none 0 0], .int .i64 117]) (by simp [results, Tryd.results21, go_sem, qr_0, qr_1, qr_2, qr_3, qr_4]) rfl ?_
              rw [HG1.out, HG2.out]
              unfold Sec.val Sec.zero
              rw [← str_nil]
              exact ⟨none, 0, rfl, Or.inl ⟨rfl, rfl, rfl⟩, HB.out.below⟩
            | true =>
              obtain ⟨qs_0, qs_1, qs_2, qs_3, qs_4, qs_f⟩ := cells5 (HB.out.box 0 rfl)
              have qs_l := HB.out.boxLt 0 rfl
              go_wp2_with fail
              clear qs_0 qs_1 qs_2 qs_3 qs_4 qs_f qs_l
              refine (refPut' T E Q P B ar N cr _ HBL.out (fits_read HR.out c1 c2 c4) (HB.out.mineRd 1 rfl) hnc).mono ?_
              rintro e W3 ⟨ap, cp, rfl, Mx, hb⟩
              have h0 := HB.out.mine hb Mx
              clear HB
              have HB := Lib.hid h0
              clear h0
              clear Mx
              clear hb
              obtain ⟨pl, hpl⟩ : ∃ pl, putS ⟨T, E, Q, P, B⟩ = pl := ⟨_, rfl⟩
              obtain ⟨pe, hpe⟩ : ∃ pe, putE ⟨T, E, Q, P, B⟩ = pe := ⟨_, rfl⟩
              have hx : Bag w W3 _ := HB.out
              rw [hpl] at hx
              clear HB
              have HB := Lib.hid hx
              clear hx
              rw [hpl, hpe]
              obtain rfl : pe = 0 := by rw [← hpe]; simp [putE, hmay]
              obtain rfl : pl = Sec.bytes ⟨T, E, Q, P, B⟩ := by rw [← hpl]; simp [putS, hmay]
              have hbl := bytes_len hmay
              obtain ⟨ob, hob⟩ : ∃ ob, Sec.bytes ⟨T, E, Q, P, B⟩ = ob := ⟨_, rfl⟩
              have hx : Bag w W3 _ := HB.out
              rw [hob] at hx hbl ⊢
              clear HB
              have HB := Lib.hid hx
              clear hx
              have HPl := Lib.hid hpl
              have HPe := Lib.hid hpe
              have HOb := Lib.hid hob
              have HM := Lib.hid hmay
              have HOl := Lib.hid hbl
              clear hpl hpe hob hbl hmay
              go_wp2_with fail
              refine (sameAs (some ⟨blk, off, none⟩) ap b ob 512 ob.length cap cp _ HBl.out rfl (by decide) (by rw [HOl.out]; decide) (HRB.out _ HB.out.below) (HB.out.mineRd 0 rfl)).mono ?_
              rintro e W4 ⟨rfl, hst⟩
              have hb := hst.below W3.heap.size
              clear hst
              have h0 := HB.out.call hb
              clear HB
              have HB := Lib.hid h0
              clear h0
              clear hb
              by_cases hbb : b = ob
              · obtain ⟨hg1, hg2⟩ := getV_some (getS_yes (by rw [HR.out.sec]; exact HM.out) (by rw [HR.out.sec, HOb.out]; exact hbb.symm))
                rw [HR.out.sec] at hg1
                have HG2 := Lib.hid hg2
                have HG1 := Lib.hid hg1
                have hbx : (b == ob) = true := by rw [beq_iff_eq]; exact hbb
                clear hg1 hg2 hbb
                obtain ⟨qs_0, qs_1, qs_2, qs_3, qs_4, qs_f⟩ := cells5 (HB.out.box 1 rfl)
                have qs_l := HB.out.boxLt 1 rfl
                obtain ⟨qr_0, qr_1, qr_2, qr_3, qr_4, qr_f⟩ := cells5 (HB.out.box 3 rfl)
                have qr_l := HB.out.boxLt 3 rfl
                have nr_s := HB.out.boxNe 3 1 rfl rfl (by decide)
                go_wp2_with fail
                generalize hU : (((((W4.setCell ⟨w.heap.size, 0, none⟩ (.string (str T))).setCell ⟨w.heap.size, 1, none⟩ (.int .i64 E)).setCell ⟨w.heap.size, 2, none⟩ (.int .i64 Q)).setCell ⟨w.heap.size, 3, none⟩ (.int .i64 P)).setCell ⟨w.heap.size, 4, none⟩ (.slice ar N cr)) = U5
                clear qs_0 qs_1 qs_2 qs_3 qs_4 qs_f qs_l qr_0 qr_1 qr_2 qr_3 qr_4 qr_f qr_l nr_s
                have h0 := HB.out.store 3 rfl [.string (str T), .int .i64 E, .int .i64 Q, .int .i64 P, .slice ar N cr] rfl
                rw [show Bag.setAll W4 (w.heap.size) 0 [.string (str T), .int .i64 E, .int .i64 Q, .int .i64 P, .slice ar N cr] = U5 from hU] at h0
                simp only [List.set_cons_zero, List.set_cons_succ] at h0
                clear HB
                have HB := Lib.hid h0
                clear h0
                clear hU
                obtain ⟨qr_0, qr_1, qr_2, qr_3, qr_4, qr_f⟩ := cells5 (HB.out.box 3 rfl)
                have qr_l := HB.out.boxLt 3 rfl
                refine bodyPost_ret (v := .tuple #[.agg #[.string (str T), .int .i64 E, .int .i64 Q, .int .i64 P, .slice ar N cr], .int .i64 0]) (by simp [results, Tryd.results21, go_sem, qr_0, qr_1, qr_2, qr_3, qr_4]) rfl ?_
                rw [HG1.out, HG2.out]
                refine ⟨ar, cr, ?_, HB.out.mineMine 2 rfl, HB.out.below⟩
                unfold Sec.val
                simp only [HBL.out]
              · obtain ⟨hg1, hg2⟩ := get_not HR.out (Or.inr (by rw [HOb.out]; exact fun h => hbb h.symm))
                have HG2 := Lib.hid hg2
                have HG1 := Lib.hid hg1
                have hbx : (b == ob) = false := by rw [beq_eq_false_iff_ne]; exact hbb
                clear hg1 hg2 hbb
                obtain ⟨qr_0, qr_1, qr_2, qr_3, qr_4, qr_f⟩ := cells5 (HB.out.box 3 rfl)
                have qr_l := HB.out.boxLt 3 rfl
                go_wp2_with fail
                generalize hU : (((((W4.setCell ⟨w.heap.size, 0, none⟩ (.string { data := #[] })).setCell ⟨w.heap.size, 1, none⟩ (.int .i64 0)).setCell ⟨w.heap.size, 2, none⟩ (.int .i64 0)).setCell ⟨w.heap.size, 3, none⟩ (.int .i64 0)).setCell ⟨w.heap.size, 4, none⟩ (.slice none 0 0)) = U5
                clear qr_0 qr_1 qr_2 qr_3 qr_4 qr_f qr_l
                have h0 := HB.out.store 3 rfl [.string { data := #[] }, .int .i64 0, .int .i64 0, .int .i64 0, .slice none 0 0] rfl
                rw [show Bag.setAll W4 (w.heap.size) 0 [.string { data := #[] }, .int .i64 0, .int .i64 0, .int .i64 0, .slice none 0 0] = U5 from hU] at h0
                simp only [List.set_cons_zero, List.set_cons_succ] at h0
                clear HB
                have HB := Lib.hid h0
                clear h0
                clear hU
                obtain ⟨qr_0, qr_1, qr_2, qr_3, qr_4, qr_f⟩ := cells5 (HB.out.box 3 rfl)
                have qr_l := HB.out.boxLt 3 rfl
                refine bodyPost_ret (v := .tuple #[.agg #[.string { data := #[] }, .int .i64 0, .int .i64 0, .int .i64 0, .slice none 0 0], .int .i64 117]) (by simp [results, Tryd.results21, go_sem, qr_0, qr_1, qr_2, qr_3, qr_4]) rfl ?_
                rw [HG1.out, HG2.out]
                unfold Sec.val Sec.zero
                rw [← str_nil]
                exact ⟨none, 0, rfl, Or.inl ⟨rfl, rfl, rfl⟩, HB.out.below⟩
        · obtain ⟨hg1, hg2⟩ := get_not HR.out (Or.inl (may_not HR.out (by omega)))
          have HG2 := Lib.hid hg2
          have HG1 := Lib.hid hg1
          clear hg1 hg2
          have c4x : ¬ (N : Int) ≤ 480 := by omega
          obtain ⟨qr_0, qr_1, qr_2, qr_3, qr_4, qr_f⟩ := cells5 (HB.out.box 0 rfl)
          have qr_l := HB.out.boxLt 0 rfl
          go_wp2_with fail
          generalize hU : (((((U1.setCell ⟨w.heap.size, 0, none⟩ (.string { data := #[] })).setCell ⟨w.heap.size, 1, none⟩ (.int .i64 0)).setCell ⟨w.heap.size, 2, none⟩ (.int .i64 0)).setCell ⟨w.heap.size, 3, none⟩ (.int .i64 0)).setCell ⟨w.heap.size, 4, none⟩ (.slice none 0 0)) = U2
          clear qr_0 qr_1 qr_2 qr_3 qr_4 qr_f qr_l
          have h0 := HB.out.store 0 rfl [.string { data := #[] }, .int .i64 0, .int .i64 0, .int .i64 0, .slice none 0 0] rfl
          rw [show Bag.setAll U1 (w.heap.size) 0 [.string { data := #[] }, .int .i64 0, .int .i64 0, .int .i64 0, .slice none 0 0] = U2 from hU] at h0
          simp only [List.set_cons_zero] at h0
          clear HB
          have HB := Lib.hid h0
          clear h0
          clear hU
          obtain ⟨qr_0, qr_1, qr_2, qr_3, qr_4, qr_f⟩ := cells5 (HB.out.box 0 rfl)
          have qr_l := HB.out.boxLt 0 rfl
          refine bodyPost_ret (v := .tuple #[.agg #[.string { data := #[] }, .int .i64 0, .int .i64 0, .int .i64 0, .slice none 0 0], .int .i64 117]) (by simp [results, Tryd.results21, go_sem, qr_0, qr_1, qr_2, qr_3, qr_4]) rfl ?_
          rw [HG1.out, HG2.out]
          unfold Sec.val Sec.zero
          rw [← str_nil]
          exact ⟨none, 0, rfl, Or.inl ⟨rfl, rfl, rfl⟩, HB.out.below⟩
      · obtain ⟨hg1, hg2⟩ := get_not HR.out (Or.inl (may_not HR.out (by omega)))
        have HG2 := Lib.hid hg2
        have HG1 := Lib.hid hg1
        clear hg1 hg2
        obtain ⟨qr_0, qr_1, qr_2, qr_3, qr_4, qr_f⟩ := cells5 (HB.out.box 0 rfl)
        have qr_l := HB.out.boxLt 0 rfl
        go_wp2_with fail
        generalize hU : (((((U1.setCell ⟨w.heap.size, 0, none⟩ (.string { data := #[] })).setCell ⟨w.heap.size, 1, none⟩ (.int .i64 0)).setCell ⟨w.heap.size, 2, none⟩ (.int .i64 0)).setCell ⟨w.heap.size, 3, none⟩ (.int .i64 0)).setCell ⟨w.heap.size, 4, none⟩ (.slice none 0 0)) = U2
        clear qr_0 qr_1 qr_2 qr_3 qr_4 qr_f qr_l
        have h0 := HB.out.store 0 rfl [.string { data := #[] }, .int .i64 0, .int .i64 0, .int .i64 0, .slice none 0 0] rfl
        rw [show Bag.setAll U1 (w.heap.size) 0 [.string { data := #[] }, .int .i64 0, .int .i64 0, .int .i64 0, .slice none 0 0] = U2 from hU] at h0
        simp only [List.set_cons_zero] at h0
        clear HB
        have HB := Lib.hid h0
        clear h0
        clear hU
        obtain ⟨qr_0, qr_1, qr_2, qr_3, qr_4, qr_f⟩ := cells5 (HB.out.box 0 rfl)
        have qr_l := HB.out.boxLt 0 rfl
        refine bodyPost_ret (v := .tuple #[.agg #[.string { data := #[] }, .int .i64 0, .int .i64 0, .int .i64 0, .slice none 0 0], .int .i64 117]) (by simp [results, Tryd.results21, go_sem, qr_0, qr_1, qr_2, qr_3, qr_4]) rfl ?_
        rw [HG1.out, HG2.out]
        unfold Sec.val Sec.zero
        rw [← str_nil]
        exact ⟨none, 0, rfl, Or.inl ⟨rfl, rfl, rfl⟩, HB.out.below⟩
    · obtain ⟨hg1, hg2⟩ := get_not HR.out (Or.inl (may_not HR.out (by omega)))
      have HG2 := Lib.hid hg2
      have HG1 := Lib.hid hg1
      clear hg1 hg2
      obtain ⟨qr_0, qr_1, qr_2, qr_3, qr_4, qr_f⟩ := cells5 (HB.out.box 0 rfl)
      have qr_l := HB.out.boxLt 0 rfl
      go_wp2_with fail
      generalize hU : (((((U1.setCell ⟨w.heap.size, 0, none⟩ (.string { data := #[] })).setCell ⟨w.heap.size, 1, none⟩ (.int .i64 0)).setCell ⟨w.heap.size, 2, none⟩ (.int .i64 0)).setCell ⟨w.heap.size, 3, none⟩ (.int .i64 0)).setCell ⟨w.heap.size, 4, none⟩ (.slice none 0 0)) = U2
      clear qr_0 qr_1 qr_2 qr_3 qr_4 qr_f qr_l
      have h0 := HB.out.store 0 rfl [.string { data := #[] }, .int .i64 0, .int .i64 0, .int .i64 0, .slice none 0 0] rfl
      rw [show Bag.setAll U1 (w.heap.size) 0 [.string { data := #[] }, .int .i64 0, .int .i64 0, .int .i64 0, .slice none 0 0] = U2 from hU] at h0
      simp only [List.set_cons_zero] at h0
      clear HB
      have HB := Lib.hid h0
      clear h0
      clear hU
      obtain ⟨qr_0, qr_1, qr_2, qr_3, qr_4, qr_f⟩ := cells5 (HB.out.box 0 rfl)
      have qr_l := HB.out.boxLt 0 rfl
      refine bodyPost_ret (v := .tuple #[.agg #[.string { data := #[] }, .int .i64 0, .int .i64 0, .int .i64 0, .slice none 0 0], .int .i64 117]) (by simp [results, Tryd.results21, go_sem, qr_0, qr_1, qr_2, qr_3, qr_4]) rfl ?_
      rw [HG1.out, HG2.out]
      unfold Sec.val Sec.zero
      rw [← str_nil]
      exact ⟨none, 0, rfl, Or.inl ⟨rfl, rfl, rfl⟩, HB.out.below⟩
  · obtain ⟨e1, e2⟩ := getV_none (getS_len (by rw [hn]; exact h512))
    have HG2 := Lib.hid e2
    have HG1 := Lib.hid e1
    clear e1 e2 hr hn
    go_enter Tryd.func21, Tryd.ntmps21
    go_wp2_with fail
    generalize hU : (w.alloc (.cells #[.string { data := #[] }, .int .i64 0, .int .i64 0, .int .i64 0, .slice none 0 0] 24 (0, 0))) = U1
    have h0 := (Bag.start w).allocAt #[.string { data := #[] }, .int .i64 0, .int .i64 0, .int .i64 0, .slice none 0 0] 24 (w.heap.size) rfl
    rw [hU] at h0
    have HB := Lib.hid h0
    clear h0 hU
    obtain ⟨qr_0, qr_1, qr_2, qr_3, qr_4, qr_f⟩ := cells5 (HB.out.box 0 rfl)
    have qr_l := HB.out.boxLt 0 rfl
    refine bodyPost_ret (v := .tuple #[.agg #[.string { data := #[] }, .int .i64 0, .int .i64 0, .int .i64 0, .slice none 0 0], .int .i64 117]) (by simp [results, Tryd.results21, go_sem, qr_0, qr_1, qr_2, qr_3, qr_4]) rfl ?_
    rw [HG1.out, HG2.out]
    unfold Sec.val Sec.zero
    rw [← str_nil]
    exact ⟨none, 0, rfl, Or.inl ⟨rfl, rfl, rfl⟩, HB.out.below⟩
end Go.Proofs.YtinfhlepjmollaaDoor
