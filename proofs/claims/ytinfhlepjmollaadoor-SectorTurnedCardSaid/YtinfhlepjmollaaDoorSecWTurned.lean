/- The walk of SectorTurned. -/
import Derived.Test.YtinfhlepjmollaaDoorSecGets
import Derived.Test.YtinfhlepjmollaaDoorSecMayL
namespace Go.Proofs.YtinfhlepjmollaaDoor
open Go.RowKit
set_option maxRecDepth 100000 in
set_option maxHeartbeats 4000000 in
theorem lawSectorTurned (S : Sec) (aos : Option Addr) (cs : Nat) (at_ : Int) (x : BitVec 8) (w : World) (hfs : S.fits) (hrs : Rd w aos S.body) (_hns : aos = none → cs = 0) (hls : S.body.length ≤ cs) (ht : Tab w) (hT : 0 < w.heap.size) :
   Calls Tryd.prog 9 #[S.val aos cs, .int .i64 at_, .int .u8 (n8 x)] w fun e w' => e = .returned (.bool true) ∧ Below w.heap.size w w' := by
  have HTB := Lib.hid (fun (w' : World) (hb : Below w.heap.size w w') => (⟨ht.below hb hT, Nat.lt_of_lt_of_le hT hb.size⟩ : _ ∧ _))
  obtain ⟨st, se, ss, sp, sb⟩ := S
  have HFs := Lib.hid hfs
  simp only at hrs hls
  have HRs := Lib.hid (fun (w' : World) (hb : Below w.heap.size w w') => hrs.on hb)
  clear hfs hrs
  unfold Sec.val
  simp only
  clear ht hT
  go_enter Tryd.func9, Tryd.ntmps9
  go_wp2_with fail
  generalize hU : (w.alloc (.cells #[.string (str st), .int .i64 se, .int .i64 ss, .int .i64 sp, .slice aos sb.length cs] 24 (0, 0))) = U1
  have h0 := (Bag.start w).allocAt #[.string (str st), .int .i64 se, .int .i64 ss, .int .i64 sp, .slice aos sb.length cs] 24 (w.heap.size) rfl
  rw [hU] at h0
  have HB := Lib.hid h0
  clear h0 hU
  refine (lawFirst _ (HTB.out _ HB.out.below).1 (HTB.out _ HB.out.below).2).mono ?_
  rintro e W2 ⟨rfl, hb⟩
  have h0 := HB.out.call hb
  clear HB
  have HB := Lib.hid h0
  clear h0
  clear hb
  obtain ⟨qS_0, qS_1, qS_2, qS_3, qS_4, qS_f⟩ := cells5 (HB.out.box 0 rfl)
  have qS_l := HB.out.boxLt 0 rfl
  go_wp2_with fail
  clear qS_0 qS_1 qS_2 qS_3 qS_4 qS_f qS_l
  cases hm : Sec.may ⟨st, se, ss, sp, sb⟩ with
  | false =>
    have hxo : ∀ y : BitVec 8, bits .xor .u8 (n8 y) 1 = n8 (y ^^^ 1#8) := fun y => by rw [show (1 : Int) = n8 1#8 from by unfold n8; rfl, xor8]
    refine (lawMay ⟨st, se, ss, sp, sb⟩ aos cs _ HFs.out).mono ?_
    rintro e W3 ⟨he, hb⟩
    rw [hm] at he
    subst he
    have h0 := HB.out.call hb
    clear HB
    have HB := Lib.hid h0
    clear h0
    clear hb
    go_wp2_with fail
    refine (lawPlain _).mono ?_
    rintro e W4 ⟨gpl, he, hg, hgl, hrd, hb⟩
    obtain rfl : e = .returned (.agg #[.string (str tO), .int .i64 1, .int .i64 2, .int .i64 3, .slice (some ⟨gpl, 0, none⟩) 3 3]) := he
    have h0 := HB.out.key hb hrd hg hgl
    clear HB
    have HB := Lib.hid h0
    clear h0
    clear hrd hb hg hgl
    obtain ⟨qS_0, qS_1, qS_2, qS_3, qS_4, qS_f⟩ := cells5 (HB.out.box 1 rfl)
    have qS_l := HB.out.boxLt 1 rfl
    go_wp2_with fail
    generalize hU : (((((W4.setCell ⟨w.heap.size, 0, none⟩ (.string (str tO))).setCell ⟨w.heap.size, 1, none⟩ (.int .i64 1)).setCell ⟨w.heap.size, 2, none⟩ (.int .i64 2)).setCell ⟨w.heap.size, 3, none⟩ (.int .i64 3)).setCell ⟨w.heap.size, 4, none⟩ (.slice (some ⟨gpl, 0, none⟩) 3 3)) = U5
    clear qS_0 qS_1 qS_2 qS_3 qS_4 qS_f qS_l
    have h0 := HB.out.store 1 rfl [.string (str tO), .int .i64 1, .int .i64 2, .int .i64 3, .slice (some ⟨gpl, 0, none⟩) 3 3] rfl
    rw [show Bag.setAll W4 (w.heap.size) 0 [.string (str tO), .int .i64 1, .int .i64 2, .int .i64 3, .slice (some ⟨gpl, 0, none⟩) 3 3] = U5 from hU] at h0
    simp only [List.set_cons_zero, List.set_cons_succ] at h0
    clear HB
    have HB := Lib.hid h0
    clear h0
    clear hU
    have h : Calls Tryd.prog 13 #[.agg #[.string (str tO), .int .i64 1, .int .i64 2, .int .i64 3, .slice (some ⟨gpl, 0, none⟩) 3 3]] U5 _ := putYes plainS (some ⟨gpl, 0, none⟩) 3 U5 plain_may plain_fits (HB.out.keyRd 0 rfl) (HTB.out _ HB.out.below).1 (HTB.out _ HB.out.below).2
    refine h.mono ?_
    clear h
    rintro e W6 ⟨gp, cp, rfl, hg, hp, Ox, hb⟩
    have h0 := HB.out.own hb Ox hg
    clear HB
    have HB := Lib.hid h0
    clear h0
    clear hb Ox hg
    obtain ⟨by_, hby⟩ : ∃ l, Sec.bytes plainS = l := ⟨_, rfl⟩
    have hbl := bytes_len plain_may
    have h0 := HB.out
    rw [hby] at h0 hbl
    clear HB
    have HB := Lib.hid h0
    have HBy := Lib.hid hby
    have HBL := Lib.hid hbl
    clear h0 hby hbl
    go_wp2_with fail
    refine (numOf _ _).mono ?_
    rintro e w' ⟨rfl, hw⟩
    obtain rfl := hw
    obtain ⟨hb1', hb2', i, hi, hidx⟩ := place at_ 512 (by decide)
    have e512 : ((512 : Nat) : Int) = 512 := rfl
    rw [e512] at hb1' hb2' hidx
    have hcell := (HB.out.mineOwn 0 rfl).cell i (by rw [HBL.out]; exact hi)
    have hfree := (HB.out.mineOwn 0 rfl).free i
    obtain ⟨y, hy⟩ : ∃ y, by_.getD i 0#8 = y := ⟨_, rfl⟩
    rw [hy] at hcell
    have hbad : getS (by_.set i (y ^^^ 1#8)) = none := by rw [← hy, ← HBy.out]; exact getS_turned plain_may i 1#8 hi (by decide)
    have HBad := Lib.hid hbad
    have hsl : (by_.set i (y ^^^ 1#8)).length = 512 := by rw [List.length_set]; exact HBL.out
    have HSL := Lib.hid hsl
    clear hy e512 hbad hsl
    go_wp2_with fail
    generalize hU : W6.setCell ⟨gp, i, none⟩ (.int .u8 (n8 (y ^^^ 1#8))) = U7
    have h0 := HB.out.byte 0 rfl i (y ^^^ 1#8)
    rw [hU] at h0
    simp only [List.set_cons_zero] at h0
    clear HB
    have HB := Lib.hid h0
    clear h0
    clear hU hcell hfree hidx hb1' hb2'
    obtain ⟨bz, hbz⟩ : ∃ l, by_.set i (y ^^^ 1#8) = l := ⟨_, rfl⟩
    have h0 := HB.out
    rw [hbz] at h0 HSL HBad
    clear HB hbz
    have HB := Lib.hid h0
    clear h0
    go_wp2_with fail
    have h := secGet bz (some ⟨gp, 0, none⟩) 512 cp U7 HSL.out hp (HB.out.mineRd 0 rfl) (HTB.out _ HB.out.below).1 (HTB.out _ HB.out.below).2
    rw [(getV_none HBad.out).1, (getV_none HBad.out).2] at h
    unfold Sec.zero at h
    unfold Sec.val at h
    refine h.mono ?_
    clear h
    rintro e W8 ⟨ag, cg, rfl, Mx, hb⟩
    have h0 := HB.out.mine hb Mx
    clear HB
    have HB := Lib.hid h0
    clear h0
    clear Mx hb
    obtain ⟨qS_0, qS_1, qS_2, qS_3, qS_4, qS_f⟩ := cells5 (HB.out.box 3 rfl)
    have qS_l := HB.out.boxLt 3 rfl
    go_wp2_with fail
    generalize hU : W8.alloc (.cells #[.string (str []), .int .i64 0, .int .i64 0, .int .i64 0, .slice ag 0 cg] 24 (0, 0)) = U9
    clear qS_0 qS_1 qS_2 qS_3 qS_4 qS_f qS_l
    have h0 := HB.out.alloc #[.string (str []), .int .i64 0, .int .i64 0, .int .i64 0, .slice ag 0 cg] 24
    rw [hU] at h0
    clear HB
    have HB := Lib.hid h0
    clear h0
    clear hU
    have h := secRight bz (some ⟨gp, 0, none⟩) 512 cp tO 1 2 3 U9 HSL.out hp (HB.out.mineRd 2 rfl) (HTB.out _ HB.out.below).1 (HTB.out _ HB.out.below).2
    have hro := rightO_none HBad.out tO 1 2 3
    rw [hro, right_no hro] at h
    clear hro
    refine h.mono ?_
    clear h
    rintro e W10 ⟨ar, cr, rfl, Mx, hb⟩
    have h0 := HB.out.mine hb Mx
    clear HB
    have HB := Lib.hid h0
    clear h0
    clear Mx hb
    go_wp2_with fail
    have h := refGet bz (some ⟨gp, 0, none⟩) 512 cp W10 HSL.out hp (HB.out.mineRd 3 rfl)
    rw [(getV_none HBad.out).1, (getV_none HBad.out).2] at h
    unfold Sec.zero at h
    unfold Sec.val at h
    refine h.mono ?_
    clear h
    rintro e W11 ⟨ah, ch, rfl, Mx, hb⟩
    have h0 := HB.out.mine hb Mx
    clear HB
    have HB := Lib.hid h0
    clear h0
    clear Mx hb
    go_wp2_with fail
    generalize hU : W11.alloc (.cells #[.string (str []), .int .i64 0, .int .i64 0, .int .i64 0, .slice ah 0 ch] 24 (0, 0)) = U12
    have h0 := HB.out.alloc #[.string (str []), .int .i64 0, .int .i64 0, .int .i64 0, .slice ah 0 ch] 24
    rw [hU] at h0
    clear HB
    have HB := Lib.hid h0
    clear h0
    clear hU
    obtain ⟨qZ_0, qZ_1, qZ_2, qZ_3, qZ_4, qZ_f⟩ := cells5 (HB.out.box 0 rfl)
    have qZ_l := HB.out.boxLt 0 rfl
    go_wp2_with fail
    clear qZ_0 qZ_1 qZ_2 qZ_3 qZ_4 qZ_f qZ_l
    have h := secRight bz (some ⟨gp, 0, none⟩) 512 cp [] 0 0 0 U12 HSL.out hp (HB.out.mineRd 5 rfl) (HTB.out _ HB.out.below).1 (HTB.out _ HB.out.below).2
    have hro := rightO_none HBad.out [] 0 0 0
    rw [hro, right_no hro] at h
    clear hro
    refine h.mono ?_
    clear h
    rintro e W13 ⟨aq, cq, rfl, Mx, hb⟩
    have h0 := HB.out.mine hb Mx
    clear HB
    have HB := Lib.hid h0
    clear h0
    clear Mx hb
    go_wp2_with fail
    refine (numOf _ _).mono ?_
    rintro e w' ⟨rfl, hw⟩
    obtain rfl := hw
    go_wp2_with fail
    go_ret
    exact ⟨rfl, HB.out.below⟩
  | true =>
    by_cases hx0 : x = 0#8
    · have hx1 : (n8 x == 0) = true := by
        rw [show (0 : Int) = n8 0#8 from by unfold n8; rfl, n8_beq, beq_iff_eq]
        exact hx0
      clear hx0
      have hxo : ∀ y : BitVec 8, bits .xor .u8 (n8 y) 1 = n8 (y ^^^ 1#8) := fun y => by rw [show (1 : Int) = n8 1#8 from by unfold n8; rfl, xor8]
      refine (lawMay ⟨st, se, ss, sp, sb⟩ aos cs _ HFs.out).mono ?_
      rintro e W3 ⟨he, hb⟩
      rw [hm] at he
      subst he
      have h0 := HB.out.call hb
      clear HB
      have HB := Lib.hid h0
      clear h0
      clear hb
      go_wp2_with fail
      refine (lawPlain _).mono ?_
      rintro e W4 ⟨gpl, he, hg, hgl, hrd, hb⟩
      obtain rfl : e = .returned (.agg #[.string (str tO), .int .i64 1, .int .i64 2, .int .i64 3, .slice (some ⟨gpl, 0, none⟩) 3 3]) := he
      have h0 := HB.out.key hb hrd hg hgl
      clear HB
      have HB := Lib.hid h0
      clear h0
      clear hrd hb hg hgl
      obtain ⟨qS_0, qS_1, qS_2, qS_3, qS_4, qS_f⟩ := cells5 (HB.out.box 1 rfl)
      have qS_l := HB.out.boxLt 1 rfl
      go_wp2_with fail
      generalize hU : (((((W4.setCell ⟨w.heap.size, 0, none⟩ (.string (str tO))).setCell ⟨w.heap.size, 1, none⟩ (.int .i64 1)).setCell ⟨w.heap.size, 2, none⟩ (.int .i64 2)).setCell ⟨w.heap.size, 3, none⟩ (.int .i64 3)).setCell ⟨w.heap.size, 4, none⟩ (.slice (some ⟨gpl, 0, none⟩) 3 3)) = U5
      clear qS_0 qS_1 qS_2 qS_3 qS_4 qS_f qS_l
      have h0 := HB.out.store 1 rfl [.string (str tO), .int .i64 1, .int .i64 2, .int .i64 3, .slice (some ⟨gpl, 0, none⟩) 3 3] rfl
      rw [show Bag.setAll W4 (w.heap.size) 0 [.string (str tO), .int .i64 1, .int .i64 2, .int .i64 3, .slice (some ⟨gpl, 0, none⟩) 3 3] = U5 from hU] at h0
      simp only [List.set_cons_zero, List.set_cons_succ] at h0
      clear HB
      have HB := Lib.hid h0
      clear h0
      clear hU
      have h : Calls Tryd.prog 13 #[.agg #[.string (str tO), .int .i64 1, .int .i64 2, .int .i64 3, .slice (some ⟨gpl, 0, none⟩) 3 3]] U5 _ := putYes plainS (some ⟨gpl, 0, none⟩) 3 U5 plain_may plain_fits (HB.out.keyRd 0 rfl) (HTB.out _ HB.out.below).1 (HTB.out _ HB.out.below).2
      refine h.mono ?_
      clear h
      rintro e W6 ⟨gp, cp, rfl, hg, hp, Ox, hb⟩
      have h0 := HB.out.own hb Ox hg
      clear HB
      have HB := Lib.hid h0
      clear h0
      clear hb Ox hg
      obtain ⟨by_, hby⟩ : ∃ l, Sec.bytes plainS = l := ⟨_, rfl⟩
      have hbl := bytes_len plain_may
      have h0 := HB.out
      rw [hby] at h0 hbl
      clear HB
      have HB := Lib.hid h0
      have HBy := Lib.hid hby
      have HBL := Lib.hid hbl
      clear h0 hby hbl
      go_wp2_with fail
      refine (numOf _ _).mono ?_
      rintro e w' ⟨rfl, hw⟩
      obtain rfl := hw
      obtain ⟨hb1', hb2', i, hi, hidx⟩ := place at_ 512 (by decide)
      have e512 : ((512 : Nat) : Int) = 512 := rfl
      rw [e512] at hb1' hb2' hidx
      have hcell := (HB.out.mineOwn 0 rfl).cell i (by rw [HBL.out]; exact hi)
      have hfree := (HB.out.mineOwn 0 rfl).free i
      obtain ⟨y, hy⟩ : ∃ y, by_.getD i 0#8 = y := ⟨_, rfl⟩
      rw [hy] at hcell
      have hbad : getS (by_.set i (y ^^^ 1#8)) = none := by rw [← hy, ← HBy.out]; exact getS_turned plain_may i 1#8 hi (by decide)
      have HBad := Lib.hid hbad
      have hsl : (by_.set i (y ^^^ 1#8)).length = 512 := by rw [List.length_set]; exact HBL.out
      have HSL := Lib.hid hsl
      clear hy e512 hbad hsl
      go_wp2_with fail
      generalize hU : W6.setCell ⟨gp, i, none⟩ (.int .u8 (n8 (y ^^^ 1#8))) = U7
      have h0 := HB.out.byte 0 rfl i (y ^^^ 1#8)
      rw [hU] at h0
      simp only [List.set_cons_zero] at h0
      clear HB
      have HB := Lib.hid h0
      clear h0
      clear hU hcell hfree hidx hb1' hb2'
      obtain ⟨bz, hbz⟩ : ∃ l, by_.set i (y ^^^ 1#8) = l := ⟨_, rfl⟩
      have h0 := HB.out
      rw [hbz] at h0 HSL HBad
      clear HB hbz
      have HB := Lib.hid h0
      clear h0
      go_wp2_with fail
      have h := secGet bz (some ⟨gp, 0, none⟩) 512 cp U7 HSL.out hp (HB.out.mineRd 0 rfl) (HTB.out _ HB.out.below).1 (HTB.out _ HB.out.below).2
      rw [(getV_none HBad.out).1, (getV_none HBad.out).2] at h
      unfold Sec.zero at h
      unfold Sec.val at h
      refine h.mono ?_
      clear h
      rintro e W8 ⟨ag, cg, rfl, Mx, hb⟩
      have h0 := HB.out.mine hb Mx
      clear HB
      have HB := Lib.hid h0
      clear h0
      clear Mx hb
      obtain ⟨qS_0, qS_1, qS_2, qS_3, qS_4, qS_f⟩ := cells5 (HB.out.box 3 rfl)
      have qS_l := HB.out.boxLt 3 rfl
      go_wp2_with fail
      generalize hU : W8.alloc (.cells #[.string (str []), .int .i64 0, .int .i64 0, .int .i64 0, .slice ag 0 cg] 24 (0, 0)) = U9
      clear qS_0 qS_1 qS_2 qS_3 qS_4 qS_f qS_l
      have h0 := HB.out.alloc #[.string (str []), .int .i64 0, .int .i64 0, .int .i64 0, .slice ag 0 cg] 24
      rw [hU] at h0
      clear HB
      have HB := Lib.hid h0
      clear h0
      clear hU
      have h := secRight bz (some ⟨gp, 0, none⟩) 512 cp tO 1 2 3 U9 HSL.out hp (HB.out.mineRd 2 rfl) (HTB.out _ HB.out.below).1 (HTB.out _ HB.out.below).2
      have hro := rightO_none HBad.out tO 1 2 3
      rw [hro, right_no hro] at h
      clear hro
      refine h.mono ?_
      clear h
      rintro e W10 ⟨ar, cr, rfl, Mx, hb⟩
      have h0 := HB.out.mine hb Mx
      clear HB
      have HB := Lib.hid h0
      clear h0
      clear Mx hb
      go_wp2_with fail
      have h := refGet bz (some ⟨gp, 0, none⟩) 512 cp W10 HSL.out hp (HB.out.mineRd 3 rfl)
      rw [(getV_none HBad.out).1, (getV_none HBad.out).2] at h
      unfold Sec.zero at h
      unfold Sec.val at h
      refine h.mono ?_
      clear h
      rintro e W11 ⟨ah, ch, rfl, Mx, hb⟩
      have h0 := HB.out.mine hb Mx
      clear HB
      have HB := Lib.hid h0
      clear h0
      clear Mx hb
      go_wp2_with fail
      generalize hU : W11.alloc (.cells #[.string (str []), .int .i64 0, .int .i64 0, .int .i64 0, .slice ah 0 ch] 24 (0, 0)) = U12
      have h0 := HB.out.alloc #[.string (str []), .int .i64 0, .int .i64 0, .int .i64 0, .slice ah 0 ch] 24
      rw [hU] at h0
      clear HB
      have HB := Lib.hid h0
      clear h0
      clear hU
      obtain ⟨qZ_0, qZ_1, qZ_2, qZ_3, qZ_4, qZ_f⟩ := cells5 (HB.out.box 0 rfl)
      have qZ_l := HB.out.boxLt 0 rfl
      go_wp2_with fail
      clear qZ_0 qZ_1 qZ_2 qZ_3 qZ_4 qZ_f qZ_l
      have h := secRight bz (some ⟨gp, 0, none⟩) 512 cp [] 0 0 0 U12 HSL.out hp (HB.out.mineRd 5 rfl) (HTB.out _ HB.out.below).1 (HTB.out _ HB.out.below).2
      have hro := rightO_none HBad.out [] 0 0 0
      rw [hro, right_no hro] at h
      clear hro
      refine h.mono ?_
      clear h
      rintro e W13 ⟨aq, cq, rfl, Mx, hb⟩
      have h0 := HB.out.mine hb Mx
      clear HB
      have HB := Lib.hid h0
      clear h0
      clear Mx hb
      go_wp2_with fail
      refine (numOf _ _).mono ?_
      rintro e w' ⟨rfl, hw⟩
      obtain rfl := hw
      go_wp2_with fail
      go_ret
      exact ⟨rfl, HB.out.below⟩
    · have HM := Lib.hid hm
      have hx1 : (n8 x == 0) = false := by
        rw [show (0 : Int) = n8 0#8 from by unfold n8; rfl, n8_beq, beq_eq_false_iff_ne]
        exact hx0
      refine (lawMay ⟨st, se, ss, sp, sb⟩ aos cs _ HFs.out).mono ?_
      rintro e W3 ⟨he, hb⟩
      rw [hm] at he
      subst he
      have h0 := HB.out.call hb
      clear HB
      have HB := Lib.hid h0
      clear h0
      clear hb
      clear hm
      obtain ⟨qS_0, qS_1, qS_2, qS_3, qS_4, qS_f⟩ := cells5 (HB.out.box 0 rfl)
      have qS_l := HB.out.boxLt 0 rfl
      go_wp2_with fail
      clear qS_0 qS_1 qS_2 qS_3 qS_4 qS_f qS_l
      have h := putYes ⟨st, se, ss, sp, sb⟩ aos cs W3 HM.out HFs.out (HRs.out _ HB.out.below) (HTB.out _ HB.out.below).1 (HTB.out _ HB.out.below).2
      unfold Sec.val at h
      try unfold plainS at h
      try simp only at h
      refine h.mono ?_
      clear h
      rintro e W4 ⟨gp, cp, rfl, hg, hp, Ox, hb⟩
      have h0 := HB.out.own hb Ox hg
      clear HB
      have HB := Lib.hid h0
      clear h0
      clear hb Ox hg
      obtain ⟨by_, hby⟩ : ∃ l, Sec.bytes ⟨st, se, ss, sp, sb⟩ = l := ⟨_, rfl⟩
      have hbl := bytes_len HM.out
      have h0 := HB.out
      rw [hby] at h0 hbl
      clear HB
      have HB := Lib.hid h0
      have HBy := Lib.hid hby
      have HBL := Lib.hid hbl
      clear h0 hby hbl
      go_wp2_with fail
      refine (numOf _ _).mono ?_
      rintro e w' ⟨rfl, hw⟩
      obtain rfl := hw
      obtain ⟨hb1', hb2', i, hi, hidx⟩ := place at_ 512 (by decide)
      have e512 : ((512 : Nat) : Int) = 512 := rfl
      rw [e512] at hb1' hb2' hidx
      have hcell := (HB.out.mineOwn 0 rfl).cell i (by rw [HBL.out]; exact hi)
      have hfree := (HB.out.mineOwn 0 rfl).free i
      obtain ⟨y, hy⟩ : ∃ y, by_.getD i 0#8 = y := ⟨_, rfl⟩
      rw [hy] at hcell
      have hbad : getS (by_.set i (y ^^^ x)) = none := by rw [← hy, ← HBy.out]; exact getS_turned HM.out i x hi hx0
      have HBad := Lib.hid hbad
      have hsl : (by_.set i (y ^^^ x)).length = 512 := by rw [List.length_set]; exact HBL.out
      have HSL := Lib.hid hsl
      clear hy e512 hbad hsl
      go_wp2_with fail
      generalize hU : W4.setCell ⟨gp, i, none⟩ (.int .u8 (n8 (y ^^^ x))) = U5
      have h0 := HB.out.byte 0 rfl i (y ^^^ x)
      rw [hU] at h0
      simp only [List.set_cons_zero] at h0
      clear HB
      have HB := Lib.hid h0
      clear h0
      clear hU hcell hfree hidx hb1' hb2'
      obtain ⟨bz, hbz⟩ : ∃ l, by_.set i (y ^^^ x) = l := ⟨_, rfl⟩
      have h0 := HB.out
      rw [hbz] at h0 HSL HBad
      clear HB hbz
      have HB := Lib.hid h0
      clear h0
      go_wp2_with fail
      have h := secGet bz (some ⟨gp, 0, none⟩) 512 cp U5 HSL.out hp (HB.out.mineRd 0 rfl) (HTB.out _ HB.out.below).1 (HTB.out _ HB.out.below).2
      rw [(getV_none HBad.out).1, (getV_none HBad.out).2] at h
      unfold Sec.zero at h
      unfold Sec.val at h
      refine h.mono ?_
      clear h
      rintro e W6 ⟨ag, cg, rfl, Mx, hb⟩
      have h0 := HB.out.mine hb Mx
      clear HB
      have HB := Lib.hid h0
      clear h0
      clear Mx hb
      obtain ⟨qS_0, qS_1, qS_2, qS_3, qS_4, qS_f⟩ := cells5 (HB.out.box 2 rfl)
      have qS_l := HB.out.boxLt 2 rfl
      go_wp2_with fail
      generalize hU : W6.alloc (.cells #[.string (str []), .int .i64 0, .int .i64 0, .int .i64 0, .slice ag 0 cg] 24 (0, 0)) = U7
      clear qS_0 qS_1 qS_2 qS_3 qS_4 qS_f qS_l
      have h0 := HB.out.alloc #[.string (str []), .int .i64 0, .int .i64 0, .int .i64 0, .slice ag 0 cg] 24
      rw [hU] at h0
      clear HB
      have HB := Lib.hid h0
      clear h0
      clear hU
      have h := secRight bz (some ⟨gp, 0, none⟩) 512 cp st se ss sp U7 HSL.out hp (HB.out.mineRd 2 rfl) (HTB.out _ HB.out.below).1 (HTB.out _ HB.out.below).2
      have hro := rightO_none HBad.out st se ss sp
      rw [hro, right_no hro] at h
      clear hro
      refine h.mono ?_
      clear h
      rintro e W8 ⟨ar, cr, rfl, Mx, hb⟩
      have h0 := HB.out.mine hb Mx
      clear HB
      have HB := Lib.hid h0
      clear h0
      clear Mx hb
      go_wp2_with fail
      have h := refGet bz (some ⟨gp, 0, none⟩) 512 cp W8 HSL.out hp (HB.out.mineRd 3 rfl)
      rw [(getV_none HBad.out).1, (getV_none HBad.out).2] at h
      unfold Sec.zero at h
      unfold Sec.val at h
      refine h.mono ?_
      clear h
      rintro e W9 ⟨ah, ch, rfl, Mx, hb⟩
      have h0 := HB.out.mine hb Mx
      clear HB
      have HB := Lib.hid h0
      clear h0
      clear Mx hb
      go_wp2_with fail
      generalize hU : W9.alloc (.cells #[.string (str []), .int .i64 0, .int .i64 0, .int .i64 0, .slice ah 0 ch] 24 (0, 0)) = U10
      have h0 := HB.out.alloc #[.string (str []), .int .i64 0, .int .i64 0, .int .i64 0, .slice ah 0 ch] 24
      rw [hU] at h0
      clear HB
      have HB := Lib.hid h0
      clear h0
      clear hU
      obtain ⟨qZ_0, qZ_1, qZ_2, qZ_3, qZ_4, qZ_f⟩ := cells5 (HB.out.box 0 rfl)
      have qZ_l := HB.out.boxLt 0 rfl
      go_wp2_with fail
      clear qZ_0 qZ_1 qZ_2 qZ_3 qZ_4 qZ_f qZ_l
      have h := secRight bz (some ⟨gp, 0, none⟩) 512 cp [] 0 0 0 U10 HSL.out hp (HB.out.mineRd 5 rfl) (HTB.out _ HB.out.below).1 (HTB.out _ HB.out.below).2
      have hro := rightO_none HBad.out [] 0 0 0
      rw [hro, right_no hro] at h
      clear hro
      refine h.mono ?_
      clear h
      rintro e W11 ⟨aq, cq, rfl, Mx, hb⟩
      have h0 := HB.out.mine hb Mx
      clear HB
      have HB := Lib.hid h0
      clear h0
      clear Mx hb
      go_wp2_with fail
      refine (numOf _ _).mono ?_
      rintro e w' ⟨rfl, hw⟩
      obtain rfl := hw
      go_wp2_with fail
      go_ret
      exact ⟨rfl, HB.out.below⟩
end Go.Proofs.YtinfhlepjmollaaDoor
