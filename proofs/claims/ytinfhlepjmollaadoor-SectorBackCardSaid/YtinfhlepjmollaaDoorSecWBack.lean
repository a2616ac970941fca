/- The walk of SectorBack. -/
import Derived.Test.YtinfhlepjmollaaDoorSecGets
import Derived.Test.YtinfhlepjmollaaDoorSecMayL
namespace Go.Proofs.YtinfhlepjmollaaDoor
open Go.RowKit
set_option maxRecDepth 100000 in
set_option maxHeartbeats 4000000 in
theorem lawSectorBack (S : Sec) (aos : Option Addr) (cs : Nat) (T : Sec) (aot : Option Addr) (ct : Nat) (w : World) (hfs : S.fits) (hrs : Rd w aos S.body) (_hns : aos = none → cs = 0) (hls : S.body.length ≤ cs) (hft : T.fits) (hrt : Rd w aot T.body) (_hnt : aot = none → ct = 0) (hlt : T.body.length ≤ ct) (ht : Tab w) (hT : 0 < w.heap.size) :
   Calls Tryd.prog 6 #[S.val aos cs, T.val aot ct] w fun e w' => e = .returned (.bool true) ∧ Below w.heap.size w w' := by
  have HTB := Lib.hid (fun (w' : World) (hb : Below w.heap.size w w') => (⟨ht.below hb hT, Nat.lt_of_lt_of_le hT hb.size⟩ : _ ∧ _))
  obtain ⟨st, se, ss, sp, sb⟩ := S
  have HFs := Lib.hid hfs
  simp only at hrs hls
  have HRs := Lib.hid (fun (w' : World) (hb : Below w.heap.size w w') => hrs.on hb)
  clear hfs hrs
  obtain ⟨tt, te, ts, tp, tb⟩ := T
  have HFt := Lib.hid hft
  simp only at hrt hlt
  have HRt := Lib.hid (fun (w' : World) (hb : Below w.heap.size w w') => hrt.on hb)
  clear hft hrt
  unfold Sec.val
  simp only
  clear ht hT
  go_enter Tryd.func6, Tryd.ntmps6
  go_wp2_with fail
  generalize hU : ((w.alloc (.cells #[.string (str st), .int .i64 se, .int .i64 ss, .int .i64 sp, .slice aos sb.length cs] 24 (0, 0))).alloc (.cells #[.string (str tt), .int .i64 te, .int .i64 ts, .int .i64 tp, .slice aot tb.length ct] 24 (0, 0))) = U1
  have h0 := ((Bag.start w).allocAt #[.string (str st), .int .i64 se, .int .i64 ss, .int .i64 sp, .slice aos sb.length cs] 24 (w.heap.size) rfl).allocAt #[.string (str tt), .int .i64 te, .int .i64 ts, .int .i64 tp, .slice aot tb.length ct] 24 (w.heap.size + 1) (by simp only [alloc_size])
  rw [hU] at h0
  have HB := Lib.hid h0
  clear h0 hU
  refine (lawFirst _ (HTB.out _ HB.out.below).1 (HTB.out _ HB.out.below).2).mono ?_
  rintro e W2 ⟨rfl, hb⟩
  have h0 := HB.out.call hb
  clear HB
  have HB := Lib.hid h0
  clear h0
  clear hb
  by_cases hlen : 2000 < sb.length
  · have hlx : (2000 : Int) < (sb.length : Int) := by omega
    obtain ⟨qS_0, qS_1, qS_2, qS_3, qS_4, qS_f⟩ := cells5 (HB.out.box 1 rfl)
    have qS_l := HB.out.boxLt 1 rfl
    go_wp2_with fail
    clear qS_0 qS_1 qS_2 qS_3 qS_4 qS_f qS_l
    go_ret
    exact ⟨rfl, HB.out.below⟩
  obtain ⟨qS_0, qS_1, qS_2, qS_3, qS_4, qS_f⟩ := cells5 (HB.out.box 1 rfl)
  have qS_l := HB.out.boxLt 1 rfl
  go_wp2_with fail
  clear qS_0 qS_1 qS_2 qS_3 qS_4 qS_f qS_l
  cases hm : Sec.may ⟨st, se, ss, sp, sb⟩ with
  | false =>
    have h := secPut ⟨st, se, ss, sp, sb⟩ aos cs W2 HFs.out (HRs.out _ HB.out.below) (HTB.out _ HB.out.below).1 (HTB.out _ HB.out.below).2
    rw [(putS_no hm).1, (putS_no hm).2] at h
    unfold Sec.val at h
    refine h.mono ?_
    clear h
    rintro e W3 ⟨an, cn, rfl, Mx, hb⟩
    have h0 := HB.out.mine hb Mx
    clear HB
    have HB := Lib.hid h0
    clear h0
    clear Mx hb
    obtain ⟨qS_0, qS_1, qS_2, qS_3, qS_4, qS_f⟩ := cells5 (HB.out.box 2 rfl)
    have qS_l := HB.out.boxLt 2 rfl
    go_wp2_with fail
    clear qS_0 qS_1 qS_2 qS_3 qS_4 qS_f qS_l
    refine (lawMay ⟨st, se, ss, sp, sb⟩ aos cs _ HFs.out).mono ?_
    rintro e W4 ⟨he, hb⟩
    rw [hm] at he
    subst he
    have h0 := HB.out.call hb
    clear HB
    have HB := Lib.hid h0
    clear h0
    clear hb
    go_wp2_with fail
    refine (numOf _ _).mono ?_
    rintro e w' ⟨rfl, hw⟩
    obtain rfl := hw
    go_wp2_with fail
    go_ret
    exact ⟨rfl, HB.out.below⟩
  | true =>
    have HM := Lib.hid hm
    clear hm
    have h := putYes ⟨st, se, ss, sp, sb⟩ aos cs W2 HM.out HFs.out (HRs.out _ HB.out.below) (HTB.out _ HB.out.below).1 (HTB.out _ HB.out.below).2
    unfold Sec.val at h
    refine h.mono ?_
    clear h
    rintro e W3 ⟨gp, cp, rfl, hg, hp, Ox, hb⟩
    have h0 := HB.out.own hb Ox hg
    clear HB
    have HB := Lib.hid h0
    clear h0
    clear hb Ox hg
    obtain ⟨by_, hby⟩ : ∃ l, Sec.bytes ⟨st, se, ss, sp, sb⟩ = l := ⟨_, rfl⟩
    have hbl := bytes_len HM.out
    have h0 := HB.out
    rw [hby] at h0 hbl
    clear HB
    have HB := Lib.hid h0
    have HBy := Lib.hid hby
    have HBL := Lib.hid hbl
    clear h0 hby hbl
    obtain ⟨qS_0, qS_1, qS_2, qS_3, qS_4, qS_f⟩ := cells5 (HB.out.box 2 rfl)
    have qS_l := HB.out.boxLt 2 rfl
    go_wp2_with fail
    clear qS_0 qS_1 qS_2 qS_3 qS_4 qS_f qS_l
    refine (lawMay ⟨st, se, ss, sp, sb⟩ aos cs _ HFs.out).mono ?_
    rintro e W4 ⟨he, hb⟩
    rw [HM.out] at he
    subst he
    have h0 := HB.out.call hb
    clear HB
    have HB := Lib.hid h0
    clear h0
    clear hb
    go_wp2_with fail
    have h := secGet by_ (some ⟨gp, 0, none⟩) 512 cp W4 HBL.out hp (HB.out.mineRd 0 rfl) (HTB.out _ HB.out.below).1 (HTB.out _ HB.out.below).2
    rw [← HBy.out, (getVE HM.out).1, (getVE HM.out).2] at h
    unfold Sec.val at h
    refine h.mono ?_
    clear h
    rintro e W5 ⟨ag, cg, rfl, Mx, hb⟩
    have h0 := HB.out.mine hb Mx
    clear HB
    have HB := Lib.hid h0
    clear h0
    clear Mx hb
    obtain ⟨qS_0, qS_1, qS_2, qS_3, qS_4, qS_f⟩ := cells5 (HB.out.box 3 rfl)
    have qS_l := HB.out.boxLt 3 rfl
    go_wp2_with fail
    generalize hU : W5.alloc (.cells #[.string (str st), .int .i64 se, .int .i64 ss, .int .i64 sp, .slice ag sb.length cg] 24 (0, 0)) = U6
    clear qS_0 qS_1 qS_2 qS_3 qS_4 qS_f qS_l
    have h0 := HB.out.alloc #[.string (str st), .int .i64 se, .int .i64 ss, .int .i64 sp, .slice ag sb.length cg] 24
    rw [hU] at h0
    clear HB
    have HB := Lib.hid h0
    clear h0
    clear hU
    refine (alike ⟨st, se, ss, sp, sb⟩ ⟨st, se, ss, sp, sb⟩ ag aos cg cs _ (Nat.le_trans HFs.out.len (by decide)) (Nat.le_trans HFs.out.len (by decide)) (HB.out.mineRd 1 rfl) (HRs.out _ HB.out.below)).mono ?_
    rintro e W7 ⟨he, hb⟩
    rw [alikeS_refl] at he
    subst he
    have h0 := HB.out.call hb
    clear HB
    have HB := Lib.hid h0
    clear h0
    clear hb
    obtain ⟨qS_0, qS_1, qS_2, qS_3, qS_4, qS_f⟩ := cells5 (HB.out.box 4 rfl)
    have qS_l := HB.out.boxLt 4 rfl
    go_wp2_with fail
    clear qS_0 qS_1 qS_2 qS_3 qS_4 qS_f qS_l
    have h := secRight by_ (some ⟨gp, 0, none⟩) 512 cp st se ss sp W7 HBL.out hp (HB.out.mineRd 2 rfl) (HTB.out _ HB.out.below).1 (HTB.out _ HB.out.below).2
    have hro : rightO by_ st se ss sp = true := by rw [← HBy.out, rightO_bytes HM.out]; simp
    have hrb : rightB by_ st se ss sp = sb := by rw [right_yes hro, ← HBy.out, (getVE HM.out).1]
    rw [hro, hrb] at h
    clear hro hrb
    refine h.mono ?_
    clear h
    rintro e W8 ⟨ar, cr, rfl, Mx, hb⟩
    have h0 := HB.out.mine hb Mx
    clear HB
    have HB := Lib.hid h0
    clear h0
    clear Mx hb
    obtain ⟨qS_0, qS_1, qS_2, qS_3, qS_4, qS_f⟩ := cells5 (HB.out.box 5 rfl)
    have qS_l := HB.out.boxLt 5 rfl
    go_wp2_with fail
    clear qS_0 qS_1 qS_2 qS_3 qS_4 qS_f qS_l
    refine (sameTrue ar aos sb sb.length sb.length cr cs _ rfl rfl (Nat.le_trans HFs.out.len (by decide)) (HB.out.mineRd 0 rfl) (HRs.out _ HB.out.below)).mono ?_
    rintro e W9 ⟨rfl, hst⟩
    have hb := hst.below W8.heap.size
    clear hst
    have h0 := HB.out.call hb
    clear HB
    have HB := Lib.hid h0
    clear h0
    clear hb
    go_wp2_with fail
    refine (numOf _ _).mono ?_
    rintro e w' ⟨rfl, hw⟩
    obtain rfl := hw
    go_wp2_with fail
    refine (numOf _ _).mono ?_
    rintro e w' ⟨rfl, hw⟩
    obtain rfl := hw
    obtain ⟨qS_0, qS_1, qS_2, qS_3, qS_4, qS_f⟩ := cells5 (HB.out.box 5 rfl)
    have qS_l := HB.out.boxLt 5 rfl
    obtain ⟨qT_0, qT_1, qT_2, qT_3, qT_4, qT_f⟩ := cells5 (HB.out.box 4 rfl)
    have qT_l := HB.out.boxLt 4 rfl
    have nT_S := HB.out.boxNe 4 5 rfl rfl (by decide)
    go_wp2_with fail
    clear qS_0 qS_1 qS_2 qS_3 qS_4 qS_f qS_l qT_0 qT_1 qT_2 qT_3 qT_4 qT_f qT_l nT_S
    have h := secRight by_ (some ⟨gp, 0, none⟩) 512 cp tt se ss sp W9 HBL.out hp (HB.out.mineRd 3 rfl) (HTB.out _ HB.out.below).1 (HTB.out _ HB.out.below).2
    obtain ⟨q1, hq1⟩ : ∃ q, (st == tt) = q := ⟨_, rfl⟩
    have hro : rightO by_ tt se ss sp = q1 := by rw [← HBy.out, rightO_bytes HM.out, ← hq1]; simp
    rw [hro] at h
    have hs1 : (tt == st) = q1 := by rw [← hq1]; exact Bool.eq_iff_iff.2 ⟨fun h => by rw [beq_iff_eq] at h ⊢; exact h.symm, fun h => by rw [beq_iff_eq] at h ⊢; exact h.symm⟩
    have HQ1 := Lib.hid hs1
    clear hro hq1 hs1
    refine h.mono ?_
    clear h
    rintro e W10 ⟨ax1, cx1, rfl, Mx, hb⟩
    have h0 := HB.out.mine hb Mx
    clear HB
    have HB := Lib.hid h0
    clear h0
    clear Mx hb
    obtain ⟨qS_0, qS_1, qS_2, qS_3, qS_4, qS_f⟩ := cells5 (HB.out.box 6 rfl)
    have qS_l := HB.out.boxLt 6 rfl
    obtain ⟨qT_0, qT_1, qT_2, qT_3, qT_4, qT_f⟩ := cells5 (HB.out.box 5 rfl)
    have qT_l := HB.out.boxLt 5 rfl
    have nT_S := HB.out.boxNe 5 6 rfl rfl (by decide)
    go_wp2_with fail
    clear qS_0 qS_1 qS_2 qS_3 qS_4 qS_f qS_l qT_0 qT_1 qT_2 qT_3 qT_4 qT_f qT_l nT_S
    have h := secRight by_ (some ⟨gp, 0, none⟩) 512 cp st te ss sp W10 HBL.out hp (HB.out.mineRd 4 rfl) (HTB.out _ HB.out.below).1 (HTB.out _ HB.out.below).2
    obtain ⟨q2, hq2⟩ : ∃ q, (se == te) = q := ⟨_, rfl⟩
    have hro : rightO by_ st te ss sp = q2 := by rw [← HBy.out, rightO_bytes HM.out, ← hq2]; simp
    rw [hro] at h
    have hs2 : (te == se) = q2 := by rw [← hq2]; exact Bool.eq_iff_iff.2 ⟨fun h => by rw [beq_iff_eq] at h ⊢; exact h.symm, fun h => by rw [beq_iff_eq] at h ⊢; exact h.symm⟩
    have HQ2 := Lib.hid hs2
    clear hro hq2 hs2
    refine h.mono ?_
    clear h
    rintro e W11 ⟨ax2, cx2, rfl, Mx, hb⟩
    have h0 := HB.out.mine hb Mx
    clear HB
    have HB := Lib.hid h0
    clear h0
    clear Mx hb
    obtain ⟨qS_0, qS_1, qS_2, qS_3, qS_4, qS_f⟩ := cells5 (HB.out.box 7 rfl)
    have qS_l := HB.out.boxLt 7 rfl
    obtain ⟨qT_0, qT_1, qT_2, qT_3, qT_4, qT_f⟩ := cells5 (HB.out.box 6 rfl)
    have qT_l := HB.out.boxLt 6 rfl
    have nT_S := HB.out.boxNe 6 7 rfl rfl (by decide)
    go_wp2_with fail
    clear qS_0 qS_1 qS_2 qS_3 qS_4 qS_f qS_l qT_0 qT_1 qT_2 qT_3 qT_4 qT_f qT_l nT_S
    have h := secRight by_ (some ⟨gp, 0, none⟩) 512 cp st se ts sp W11 HBL.out hp (HB.out.mineRd 5 rfl) (HTB.out _ HB.out.below).1 (HTB.out _ HB.out.below).2
    obtain ⟨q3, hq3⟩ : ∃ q, (ss == ts) = q := ⟨_, rfl⟩
    have hro : rightO by_ st se ts sp = q3 := by rw [← HBy.out, rightO_bytes HM.out, ← hq3]; simp
    rw [hro] at h
    have hs3 : (ts == ss) = q3 := by rw [← hq3]; exact Bool.eq_iff_iff.2 ⟨fun h => by rw [beq_iff_eq] at h ⊢; exact h.symm, fun h => by rw [beq_iff_eq] at h ⊢; exact h.symm⟩
    have HQ3 := Lib.hid hs3
    clear hro hq3 hs3
    refine h.mono ?_
    clear h
    rintro e W12 ⟨ax3, cx3, rfl, Mx, hb⟩
    have h0 := HB.out.mine hb Mx
    clear HB
    have HB := Lib.hid h0
    clear h0
    clear Mx hb
    obtain ⟨qS_0, qS_1, qS_2, qS_3, qS_4, qS_f⟩ := cells5 (HB.out.box 8 rfl)
    have qS_l := HB.out.boxLt 8 rfl
    obtain ⟨qT_0, qT_1, qT_2, qT_3, qT_4, qT_f⟩ := cells5 (HB.out.box 7 rfl)
    have qT_l := HB.out.boxLt 7 rfl
    have nT_S := HB.out.boxNe 7 8 rfl rfl (by decide)
    go_wp2_with fail
    clear qS_0 qS_1 qS_2 qS_3 qS_4 qS_f qS_l qT_0 qT_1 qT_2 qT_3 qT_4 qT_f qT_l nT_S
    have h := secRight by_ (some ⟨gp, 0, none⟩) 512 cp st se ss tp W12 HBL.out hp (HB.out.mineRd 6 rfl) (HTB.out _ HB.out.below).1 (HTB.out _ HB.out.below).2
    obtain ⟨q4, hq4⟩ : ∃ q, (sp == tp) = q := ⟨_, rfl⟩
    have hro : rightO by_ st se ss tp = q4 := by rw [← HBy.out, rightO_bytes HM.out, ← hq4]; simp
    rw [hro] at h
    have hs4 : (tp == sp) = q4 := by rw [← hq4]; exact Bool.eq_iff_iff.2 ⟨fun h => by rw [beq_iff_eq] at h ⊢; exact h.symm, fun h => by rw [beq_iff_eq] at h ⊢; exact h.symm⟩
    have HQ4 := Lib.hid hs4
    clear hro hq4 hs4
    refine h.mono ?_
    clear h
    rintro e W13 ⟨ax4, cx4, rfl, Mx, hb⟩
    have h0 := HB.out.mine hb Mx
    clear HB
    have HB := Lib.hid h0
    clear h0
    clear Mx hb
    have hs1 := HQ1.out
    have hqq1 : (q1 == q1) = true := by simp
    have hs2 := HQ2.out
    have hqq2 : (q2 == q2) = true := by simp
    have hs3 := HQ3.out
    have hqq3 : (q3 == q3) = true := by simp
    have hs4 := HQ4.out
    have hqq4 : (q4 == q4) = true := by simp
    obtain ⟨qS_0, qS_1, qS_2, qS_3, qS_4, qS_f⟩ := cells5 (HB.out.box 9 rfl)
    have qS_l := HB.out.boxLt 9 rfl
    obtain ⟨qT_0, qT_1, qT_2, qT_3, qT_4, qT_f⟩ := cells5 (HB.out.box 8 rfl)
    have qT_l := HB.out.boxLt 8 rfl
    have nT_S := HB.out.boxNe 8 9 rfl rfl (by decide)
    go_wp2_with fail
    clear qS_0 qS_1 qS_2 qS_3 qS_4 qS_f qS_l qT_0 qT_1 qT_2 qT_3 qT_4 qT_f qT_l nT_S
    go_ret
    exact ⟨rfl, HB.out.below⟩
end Go.Proofs.YtinfhlepjmollaaDoor
