/- The laws' own first: a sector of which the document tells the bytes. -/
import Derived.Test.YtinfhlepjmollaaDoorSecFirst
import Derived.Deep.RegionHeld3
namespace Go.Proofs.YtinfhlepjmollaaDoor
open Go.RowKit
set_option maxRecDepth 100000 in
theorem plain_bytes : plainS.bytes.getD 11 0#8 = 1#8 ∧ plainS.bytes.getD 23 0#8 = 3#8 ∧ plainS.bytes.getD 25 0#8 = 3#8 ∧ plainS.bytes.getD 30 0#8 = 99#8 ∧ plainS.bytes.getD 508 0#8 = 208#8 ∧ plainS.bytes.getD 509 0#8 = 204#8 ∧ plainS.bytes.getD 510 0#8 = 102#8 ∧ plainS.bytes.getD 511 0#8 = 190#8 := by decide +kernel
theorem plain_four : plainS.bytes.take 4 = tO := by decide +kernel
@[go_sem] theorem beq_abc (t : List (BitVec 8)) : ((str t).toList == [97, 98, 99]) = (t == abc) := by rw [← of_beq, str_toList]; rfl
set_option maxRecDepth 100000 in
set_option maxHeartbeats 4000000 in
theorem lawFirst (w : World) (ht : Tab w) (hT : 0 < w.heap.size) : Calls Tryd.prog 11 #[] w fun e w' => e = .returned (.bool true) ∧ Below w.heap.size w w' := by
  have HTB := Lib.hid (fun (w' : World) (hb : Below w.heap.size w w') => (⟨ht.below hb hT, Nat.lt_of_lt_of_le hT hb.size⟩ : _ ∧ _))
  have hTO : (tO == tO) = true := by simp
  have hAbc : (abc == abc) = true := by simp
  clear ht hT
  go_enter Tryd.func11, Tryd.ntmps11
  go_wp2_with fail
  refine (lawPlain w).mono ?_
  rintro e W1 ⟨ga, rfl, hg, hgl, hrd, hb⟩
  have HB := Lib.hid ((Bag.start w).key hb hrd hg hgl)
  clear hrd hb hg hgl
  go_wp2_with fail
  unfold Sec.val plainS
  go_wp2_with fail
  have h := secPut plainS (some ⟨ga, 0, none⟩) 3 W1 plain_fits (HB.out.keyRd 0 rfl) (HTB.out _ HB.out.below).1 (HTB.out _ HB.out.below).2
  rw [(putS_yes plain_may).1, (putS_yes plain_may).2, bytes_len plain_may] at h
  refine h.mono ?_
  clear h
  rintro e W2 ⟨ab, cb, rfl, Mx, hb⟩
  obtain ⟨gb, rfl, hg, ho⟩ : ∃ gb, ab = some ⟨gb, 0, none⟩ ∧ W1.heap.size ≤ gb ∧ Own W2 gb cb 5 plainS.bytes := by
    rcases Mx with ⟨h, _⟩ | h
    · exact absurd (congrArg List.length h) (by rw [bytes_len plain_may]; decide)
    · exact h
  have hpre := ho
  clear Mx
  have h0 := HB.out.own hb ho hg
  clear HB
  have HB := Lib.hid h0
  clear h0
  clear hb ho hg
  obtain ⟨PB, hPB⟩ : ∃ l, plainS.bytes = l := ⟨_, rfl⟩
  have hpl := bytes_len plain_may
  have hp4 := plain_four
  obtain ⟨i11, i23, i25, i30, i508, i509, i510, i511⟩ := plain_bytes
  rw [hPB] at hpl hp4 hpre i11 i23 i25 i30 i508 i509 i510 i511
  have h0 := HB.out
  rw [hPB] at h0
  clear HB
  have HB := Lib.hid h0
  clear h0
  have hcb := HB.out.mineLe 0 rfl
  rw [hpl] at hcb
  have hc4 : (4 : Int) ≤ (cb : Int) := by omega
  have c11 := hpre.cell 11 (by rw [hpl]; decide)
  rw [i11, show n8 1#8 = 1 from by unfold n8; rfl] at c11
  have c23 := hpre.cell 23 (by rw [hpl]; decide)
  rw [i23, show n8 3#8 = 3 from by unfold n8; rfl] at c23
  have c25 := hpre.cell 25 (by rw [hpl]; decide)
  rw [i25, show n8 3#8 = 3 from by unfold n8; rfl] at c25
  have c30 := hpre.cell 30 (by rw [hpl]; decide)
  rw [i30, show n8 99#8 = 99 from by unfold n8; rfl] at c30
  have c508 := hpre.cell 508 (by rw [hpl]; decide)
  rw [i508, show n8 208#8 = 208 from by unfold n8; rfl] at c508
  have c509 := hpre.cell 509 (by rw [hpl]; decide)
  rw [i509, show n8 204#8 = 204 from by unfold n8; rfl] at c509
  have c510 := hpre.cell 510 (by rw [hpl]; decide)
  rw [i510, show n8 102#8 = 102 from by unfold n8; rfl] at c510
  have c511 := hpre.cell 511 (by rw [hpl]; decide)
  rw [i511, show n8 190#8 = 190 from by unfold n8; rfl] at c511
  have h4r := hpre.rd.take 4
  rw [hp4] at h4r
  have hcv := cvRun W2 (some ⟨gb, 0, none⟩) tO 4 cb rfl h4r
  have HPB := Lib.hid hPB
  have HPL := Lib.hid hpl
  clear hPB hpl hp4 hpre h4r hcb i11 i23 i25 i30 i508 i509 i510 i511
  go_wp2_with fail
  refine (numOf _ _).mono ?_
  rintro e w' ⟨rfl, hw⟩
  obtain rfl := hw
  go_wp2_with fail
  have h := secGet PB (some ⟨gb, 0, none⟩) 512 cb W2 HPL.out (by have := HB.out.mineLe 0 rfl; rw [HPL.out] at this; exact this) (HB.out.mineRd 0 rfl) (HTB.out _ HB.out.below).1 (HTB.out _ HB.out.below).2
  rw [← HPB.out, (getVE plain_may).1, (getVE plain_may).2] at h
  refine h.mono ?_
  clear h
  rintro e W3 ⟨ag, cg, he, Mx, hb⟩
  obtain rfl : e = .returned (.tuple #[.agg #[.string (str tO), .int .i64 1, .int .i64 2, .int .i64 3, .slice ag 3 cg], .int .i64 0]) := he
  have h0 := HB.out.mine hb Mx
  clear HB
  have HB := Lib.hid h0
  clear h0
  clear Mx hb
  clear c11 c23 c25 c30 c508 c509 c510 c511 hcv hc4
  go_wp2_with fail
  generalize hU : W3.alloc (.cells #[.string (str tO), .int .i64 1, .int .i64 2, .int .i64 3, .slice ag 3 cg] 24 (0, 0)) = U4
  have h0 := HB.out.alloc #[.string (str tO), .int .i64 1, .int .i64 2, .int .i64 3, .slice ag 3 cg] 24
  rw [hU] at h0
  clear HB
  have HB := Lib.hid h0
  clear h0
  clear hU
  obtain ⟨qs_0, qs_1, qs_2, qs_3, qs_4, qs_f⟩ := cells5 (HB.out.box 0 rfl)
  have qs_l := HB.out.boxLt 0 rfl
  go_upto_region 7 with fail
  go_cut [4] (fun t wx => t = .bool true ∧ Below U4.heap.size U4 wx)
  case first =>
    have hrd : Rd U4 ag abc := (HB.out.mineRd 1 rfl)
    have HRD := Lib.hid (fun (w' : World) (hb : Below U4.heap.size U4 w') => hrd.on hb)
    have hbd : Below U4.heap.size U4 U4.drew := (Below.refl _ U4).drew
    have HX := Lib.hid (fun (w' : World) (hb : Below U4.heap.size U4 w') => cells5 ((HB.out.call hb).box 0 rfl))
    clear hrd
    go_region_with (first | (go_at_call 25; refine (lawPlain _).mono ?_; rintro e X1 ⟨g1, he, hg1, hgl1, hrd1, hb1⟩; obtain rfl : e = .returned (.agg #[.string (str tO), .int .i64 1, .int .i64 2, .int .i64 3, .slice (some ⟨g1, 0, none⟩) 3 3]) := he; have hbx : Below U4.heap.size U4 X1 := hbd.trans hb1; obtain ⟨z0, z1, z2, z3, z4, zf⟩ := HX.out X1 hbx) | (go_at_call 24; refine (alike plainS plainS ag (some ⟨g1, 0, none⟩) cg 3 _ (by decide) (by decide) (HRD.out _ hbx) hrd1).mono ?_; rintro e X2 ⟨he, hb2⟩; rw [alikeS_refl] at he; subst he; have hbz := hbx.trans (hb2.mono hbx.size)))
    all_goals
      go_wp2_with fail
      go_meet
      case rel => exact ⟨rfl, hbz⟩
  case rest =>
    obtain ⟨rfl, hbc⟩ := hcut
    have h0 := HB.out.call hbc
    clear HB
    have HB := Lib.hid h0
    clear h0
    clear hbc
    go_wp2_with fail
    have h := secRight PB (some ⟨gb, 0, none⟩) 512 cb tO 1 2 3 wc HPL.out (by have := HB.out.mineLe 2 rfl; rw [HPL.out] at this; exact this) (HB.out.mineRd 2 rfl) (HTB.out _ HB.out.below).1 (HTB.out _ HB.out.below).2
    have hro : rightO PB tO 1 2 3 = true := by rw [← HPB.out, rightO_bytes plain_may]; decide
    have hrb : rightB PB tO 1 2 3 = abc := by rw [right_yes hro, ← HPB.out, (getVE plain_may).1]; rfl
    rw [hro, hrb, ← lit_O] at h
    refine h.mono ?_
    clear h hro hrb
    rintro e W8 ⟨ar, cr, rfl, Mx, hb⟩
    have h0 := HB.out.mine hb Mx
    clear HB
    have HB := Lib.hid h0
    clear h0
    clear Mx hb
    go_wp2_with fail
    have h := secRight PB (some ⟨gb, 0, none⟩) 512 cb tO 1 2 4 W8 HPL.out (by have := HB.out.mineLe 3 rfl; rw [HPL.out] at this; exact this) (HB.out.mineRd 3 rfl) (HTB.out _ HB.out.below).1 (HTB.out _ HB.out.below).2
    have hro : rightO PB tO 1 2 4 = false := by rw [← HPB.out, rightO_bytes plain_may]; decide
    rw [hro, right_no hro, ← lit_O] at h
    refine h.mono ?_
    clear h hro
    rintro e W9 ⟨an, cn, rfl, Mx, hb⟩
    have h0 := HB.out.mine hb Mx
    clear HB
    have HB := Lib.hid h0
    clear h0
    clear Mx hb
    have hcv := cvRun W9 ar abc abc.length cr rfl (HB.out.mineRd 1 rfl)
    go_wp2_with fail
    refine (numOf _ _).mono ?_
    rintro e w' ⟨rfl, hw⟩
    obtain rfl := hw
    go_wp2_with fail
    go_ret
    exact ⟨rfl, HB.out.below⟩
end Go.Proofs.YtinfhlepjmollaaDoor
