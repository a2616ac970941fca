/- The walk of SectorBurst. -/
import Derived.Test.YtinfhlepjmollaaDoorSecGets
import Derived.Test.YtinfhlepjmollaaDoorSecMayL
import Derived.RegionTactic
import Derived.ChangeAlike
import Derived.BigRegion
namespace Go.Proofs.YtinfhlepjmollaaDoor
open Go.RowKit
theorem odd_bit (p : BitVec 32) (k : Nat) : (n32 (p >>> k) % 2 == 1) = p.getLsbD k := by
  have h : p.getLsbD k = ((p >>> k).getLsbD 0) := by rw [BitVec.getLsbD_ushiftRight, Nat.add_zero]
  rw [h, Bool.eq_iff_iff, beq_iff_eq]
  generalize p >>> k = q
  have : q.getLsbD 0 = decide (q.toNat % 2 = 1) := by simp [BitVec.getLsbD, Nat.testBit_zero]
  rw [this, decide_eq_true_iff]
  unfold n32
  omega
theorem bks_step (b : Nat) (p : BitVec 32) (n k : Nat) (h1 : p.getLsbD k = true) (h2 : b + k < n) : Crc.bks b p n (k + 1) = Crc.bks b p n k ++ [b + k] := by simp [Crc.bks, h1, h2]
theorem bks_skip (b : Nat) (p : BitVec 32) (n k : Nat) (h : p.getLsbD k = false ∨ ¬ b + k < n) : Crc.bks b p n (k + 1) = Crc.bks b p n k := by
  rcases h with h | h <;> simp [Crc.bks, h]
theorem shl8 (k : Nat) : (2 : Int) ^ k % 256 = n8 (1#8 <<< k) := by
  unfold n8; rw [BitVec.toNat_shiftLeft, Nat.shiftLeft_eq]; simp
set_option maxRecDepth 100000 in
set_option maxHeartbeats 4000000 in
theorem lawSectorBurst (S : Sec) (aos : Option Addr) (cs : Nat) (xb : Int) (pt : BitVec 32) (w : World) (hfs : S.fits) (hrs : Rd w aos S.body) (_hns : aos = none → cs = 0) (hls : S.body.length ≤ cs) (ht : Tab w) (hT : 0 < w.heap.size) :
   Calls Tryd.prog 10 #[S.val aos cs, .int .i64 xb, .int .u32 (n32 pt)] w fun e w' => e = .returned (.bool true) ∧ Below w.heap.size w w' := by
  have HTB := Lib.hid (fun (w' : World) (hb : Below w.heap.size w w') => (⟨ht.below hb hT, Nat.lt_of_lt_of_le hT hb.size⟩ : _ ∧ _))
  obtain ⟨st, se, ss, sp, sb⟩ := S
  have HFs := Lib.hid hfs
  simp only at hrs hls
  have HRs := Lib.hid (fun (w' : World) (hb : Below w.heap.size w w') => hrs.on hb)
  clear hfs hrs
  unfold Sec.val
  simp only
  clear ht hT
  go_enter Tryd.func10, Tryd.ntmps10
  go_wp2_with fail
  generalize hU : (w.alloc (.cells #[.string (str st), .int .i64 se, .int .i64 ss, .int .i64 sp, .slice aos sb.length cs] 24 (0, 0))) = U1
  have h0 := (Bag.start w).allocAt #[.string (str st), .int .i64 se, .int .i64 ss, .int .i64 sp, .slice aos sb.length cs] 24 (w.heap.size) rfl
  rw [hU] at h0
  have HB := Lib.hid h0
  clear h0 hU
  refine (lawFirst _ (HTB.out _ HB.out.below).1 (HTB.out _ HB.out.below).2).mono ?_
  rintro e W2 ⟨rfl, hb⟩
  have h0 := HB.out.call hb
  clear HB
  have HB := Lib.hid h0
  clear h0
  clear hb
  obtain ⟨qS_0, qS_1, qS_2, qS_3, qS_4, qS_f⟩ := cells5 (HB.out.box 0 rfl)
  have qS_l := HB.out.boxLt 0 rfl
  go_wp2_with fail
  clear qS_0 qS_1 qS_2 qS_3 qS_4 qS_f qS_l
  cases hm : Sec.may ⟨st, se, ss, sp, sb⟩ with
  | false =>
    refine (lawMay ⟨st, se, ss, sp, sb⟩ aos cs _ HFs.out).mono ?_
    rintro e W3 ⟨he, hb⟩
    rw [hm] at he
    subst he
    have h0 := HB.out.call hb
    clear HB
    have HB := Lib.hid h0
    clear h0
    clear hb
    go_wp2_with fail
    refine (lawPlain _).mono ?_
    rintro e W4 ⟨gpl, he, hg, hgl, hrd, hb⟩
    obtain rfl : e = .returned (.agg #[.string (str tO), .int .i64 1, .int .i64 2, .int .i64 3, .slice (some ⟨gpl, 0, none⟩) 3 3]) := he
    have h0 := HB.out.key hb hrd hg hgl
    clear HB
    have HB := Lib.hid h0
    clear h0
    clear hrd hb hg hgl
    obtain ⟨qS_0, qS_1, qS_2, qS_3, qS_4, qS_f⟩ := cells5 (HB.out.box 1 rfl)
    have qS_l := HB.out.boxLt 1 rfl
    go_wp2_with fail
    generalize hU : (((((W4.setCell ⟨w.heap.size, 0, none⟩ (.string (str tO))).setCell ⟨w.heap.size, 1, none⟩ (.int .i64 1)).setCell ⟨w.heap.size, 2, none⟩ (.int .i64 2)).setCell ⟨w.heap.size, 3, none⟩ (.int .i64 3)).setCell ⟨w.heap.size, 4, none⟩ (.slice (some ⟨gpl, 0, none⟩) 3 3)) = U5
    clear qS_0 qS_1 qS_2 qS_3 qS_4 qS_f qS_l
    have h0 := HB.out.store 1 rfl [.string (str tO), .int .i64 1, .int .i64 2, .int .i64 3, .slice (some ⟨gpl, 0, none⟩) 3 3] rfl
    rw [show Bag.setAll W4 (w.heap.size) 0 [.string (str tO), .int .i64 1, .int .i64 2, .int .i64 3, .slice (some ⟨gpl, 0, none⟩) 3 3] = U5 from hU] at h0
    simp only [List.set_cons_zero, List.set_cons_succ] at h0
    clear HB
    have HB := Lib.hid h0
    clear h0
    clear hU
    have h : Calls Tryd.prog 13 #[.agg #[.string (str tO), .int .i64 1, .int .i64 2, .int .i64 3, .slice (some ⟨gpl, 0, none⟩) 3 3]] U5 _ := putYes plainS (some ⟨gpl, 0, none⟩) 3 U5 plain_may plain_fits (HB.out.keyRd 0 rfl) (HTB.out _ HB.out.below).1 (HTB.out _ HB.out.below).2
    refine h.mono ?_
    clear h
    rintro e W6 ⟨gp, cp, rfl, hg, hp, Ox, hb⟩
    have h0 := HB.out.own hb Ox hg
    clear HB
    have HB := Lib.hid h0
    clear h0
    clear hb Ox hg
    obtain ⟨by_, hby⟩ : ∃ l, Sec.bytes plainS = l := ⟨_, rfl⟩
    have hbl := bytes_len plain_may
    have h0 := HB.out
    rw [hby] at h0 hbl
    clear HB
    have HB := Lib.hid h0
    have HBy := Lib.hid hby
    have HBL := Lib.hid hbl
    clear h0 hby hbl
    go_wp2_with fail
    refine (numOf _ _).mono ?_
    rintro e w' ⟨rfl, hw⟩
    obtain rfl := hw
    obtain ⟨i1, i2, b, hbl4, hbb⟩ := place xb 4064 (by decide)
    have e4 : ((4064 : Nat) : Int) = 4064 := rfl
    rw [e4] at i1 i2 hbb
    clear e4
    go_wp2_with fail
    rw [hbb]
    clear hbb i1 i2
    go_loopw [2, 11, 12] (fun pv tv iv wr => ∃ (k : Nat) (t : Bool), k ≤ 32 ∧ iv = .int .i64 k ∧ pv = .int .u32 (n32 (pt >>> k)) ∧ tv = .bool t ∧ t = !(Crc.bks b pt 4064 k).isEmpty ∧ Bag w wr [.mine 5 (some ⟨gp, 0, none⟩) cp (Crc.turns by_ (Crc.bks b pt 4064 k)), .key (some ⟨gpl, 0, none⟩) abc, .box (w.heap.size) #[.string (str tO), .int .i64 1, .int .i64 2, .int .i64 3, .slice (some ⟨gpl, 0, none⟩) 3 3] 24]) (fun _ _ iv _ => 32 - (intOf iv).toNat)
    case atStart => exact ⟨0, false, Nat.zero_le _, rfl, by simp, rfl, rfl, HB.out⟩
    case round =>
      obtain ⟨k, t, hk, rfl, rfl, rfl, htt, hB⟩ := hrel
      clear HB
      have HB := Lib.hid hB
      have HTT := Lib.hid htt
      have L1 := Lib.hid ((Crc.turns_length (Crc.bks b pt 4064 k) by_).trans HBL.out)
      have hsr := Lib.hid (show (pt >>> k) >>> 1 = pt >>> (k + 1) from (BitVec.shiftRight_add pt k 1).symm)
      clear hB htt
      by_cases hlt : k < 32
      · have hodd := odd_bit pt k
        have hlo := n32_lo (pt >>> k)
        have hhi := n32_hi (pt >>> k)
        cases hbit : pt.getLsbD k
        · rw [hbit] at hodd
          have HK := Lib.hid (bks_skip b pt 4064 k (Or.inl hbit))
          clear hbit
          go_wp2
          go_roundw
          case rel => exact ⟨k + 1, t, by omega, by go_num, by rw [div32_2, hsr.out], rfl, by rw [HK.out]; exact HTT.out, by rw [HK.out]; exact HB.out⟩
          case measure => simp [intOf]; omega
        · rw [hbit] at hodd
          by_cases hin : b + k < 4064
          · have HK := Lib.hid (bks_step b pt 4064 k hbit hin)
            obtain ⟨L, hL⟩ : ∃ l, Crc.turns by_ (Crc.bks b pt 4064 k) = l := ⟨_, rfl⟩
            have h0 := HB.out
            rw [hL] at h0 L1
            clear HB hbit
            have HB := Lib.hid h0
            obtain ⟨j, hj⟩ : ∃ j, b + k = j := ⟨_, rfl⟩
            have hjI : (b : Int) + (k : Int) = (j : Int) := by omega
            have hj4 : j < 4064 := by omega
            have hji : j / 8 < L.length := by rw [L1.out]; omega
            have hcell := (h0.mineOwn 0 rfl).cell (j / 8) hji
            have hfree := (h0.mineOwn 0 rfl).free (j / 8)
            obtain ⟨y, hy⟩ : ∃ y, L.getD (j / 8) 0#8 = y := ⟨_, rfl⟩
            rw [hy] at hcell
            have hTn : Crc.turn L j = L.set (j / 8) (y ^^^ (1#8 <<< (j % 8))) := by unfold Crc.turn; rw [hy]
            have HTn := Lib.hid hTn
            have hsh := shl8 (j % 8)
            have hLL := Lib.hid hL
            have h8 : j % 8 < 8 := Nat.mod_lt _ (by omega)
            have HJ := Lib.hid hj
            have hj5 : j / 8 < 512 := by omega
            clear h0 hy hTn hL hj hji
            go_wp2_with fail
            go_region
            go_wp2_with fail
            have hk2 := HK.out
            rw [HJ.out] at hk2
            have h1 := HB.out.byte 0 rfl (j / 8) (y ^^^ (1#8 <<< (j % 8))) |>.drew
            rw [← HTn.out, ← hLL.out, ← Crc.turns_snoc, ← hk2] at h1
            clear hk2
            simp only [List.set_cons_zero] at h1
            have H1 := Lib.hid h1
            clear h1 HB
            go_roundw
            case rel => exact ⟨k + 1, true, by omega, by go_num, by rw [div32_2, hsr.out], rfl, by rw [HK.out]; simp, H1.out⟩
            case measure => simp [intOf]; omega
          · have HK := Lib.hid (bks_skip b pt 4064 k (Or.inr hin))
            have hin2 : (4064 : Int) ≤ (b : Int) + (k : Int) := by omega
            have hbk : (b : Int) ≤ 4063 := by omega
            clear hbit hin hbl4
            go_wp2
            go_roundw
            case rel => exact ⟨k + 1, t, by omega, by go_num, by rw [div32_2, hsr.out], rfl, by rw [HK.out]; exact HTT.out, by rw [HK.out]; exact HB.out⟩
            case measure => simp [intOf]; omega
      · obtain rfl : k = 32 := by omega
        obtain ⟨L, hL⟩ : ∃ l, Crc.turns by_ (Crc.bks b pt 4064 32) = l := ⟨_, rfl⟩
        have h0 := HB.out
        rw [hL] at h0 L1
        clear HB hlt
        have HB := Lib.hid h0
        have hLL := Lib.hid hL
        clear h0 hL
        cases t with
        | false =>
          have hby2 : L = by_ := by
            have h0 := HTT.out
            rw [← hLL.out]
            cases hk : Crc.bks b pt 4064 32 with
            | nil => rfl
            | cons _ _ => rw [hk] at h0; cases h0
          obtain rfl := hby2.symm
          clear hby2
          go_wp2_with fail
          have h := secGet by_ (some ⟨gp, 0, none⟩) 512 cp wr HBL.out hp (HB.out.mineRd 0 rfl) (HTB.out _ HB.out.below).1 (HTB.out _ HB.out.below).2
          rw [← HBy.out, (getVE plain_may).1, (getVE plain_may).2] at h
          unfold plainS at h
          unfold Sec.val at h
          refine h.mono ?_
          clear h
          rintro e W7 ⟨ag, cg, rfl, Mx, hb⟩
          have h0 := HB.out.mine hb Mx
          clear HB
          have HB := Lib.hid h0
          clear h0
          clear Mx hb
          obtain ⟨qS_0, qS_1, qS_2, qS_3, qS_4, qS_f⟩ := cells5 (HB.out.box 3 rfl)
          have qS_l := HB.out.boxLt 3 rfl
          go_wp2_with fail
          generalize hU : W7.alloc (.cells #[.string (str tO), .int .i64 1, .int .i64 2, .int .i64 3, .slice ag abc.length cg] 24 (0, 0)) = U8
          clear qS_0 qS_1 qS_2 qS_3 qS_4 qS_f qS_l
          have h0 := HB.out.alloc #[.string (str tO), .int .i64 1, .int .i64 2, .int .i64 3, .slice ag abc.length cg] 24
          rw [hU] at h0
          clear HB
          have HB := Lib.hid h0
          clear h0
          clear hU
          have h := secRight by_ (some ⟨gp, 0, none⟩) 512 cp tO 1 2 3 U8 HBL.out hp (HB.out.mineRd 2 rfl) (HTB.out _ HB.out.below).1 (HTB.out _ HB.out.below).2
          have hro : rightO by_ tO 1 2 3 = true := by rw [← HBy.out, rightO_bytes plain_may]; decide
          have hrb : rightB by_ tO 1 2 3 = abc := by rw [right_yes hro, ← HBy.out, (getVE plain_may).1]; rfl
          rw [hro, hrb] at h
          clear hro hrb
          refine h.mono ?_
          clear h
          rintro e W9 ⟨ar, cr, rfl, Mx, hb⟩
          have h0 := HB.out.mine hb Mx
          clear HB
          have HB := Lib.hid h0
          clear h0
          clear Mx hb
          obtain ⟨qS_0, qS_1, qS_2, qS_3, qS_4, qS_f⟩ := cells5 (HB.out.box 5 rfl)
          have qS_l := HB.out.boxLt 5 rfl
          go_wp2_with fail
          clear qS_0 qS_1 qS_2 qS_3 qS_4 qS_f qS_l
          refine (sameTrue ar (some ⟨gpl, 0, none⟩) abc abc.length 3 cr 3 _ rfl rfl (by decide) (HB.out.mineRd 0 rfl) (HB.out.keyRd 4 rfl)).mono ?_
          rintro e W10 ⟨rfl, hst⟩
          have hb := hst.below W9.heap.size
          clear hst
          have h0 := HB.out.call hb
          clear HB
          have HB := Lib.hid h0
          clear h0
          clear hb
          go_wp2_with fail
          refine (numOf _ _).mono ?_
          rintro e w' ⟨rfl, hw⟩
          obtain rfl := hw
          go_wp2_with fail
          go_ret
          exact ⟨rfl, HB.out.below⟩
        | true =>
          have hbad : getS L = none := by
            rw [← hLL.out, ← HBy.out]
            refine getS_burst plain_may b pt hbl4 fun e => ?_
            have := HTT.out
            rw [e] at this
            cases this
          have HBad := Lib.hid hbad
          clear hbad
          go_wp2_with fail
          have h := secGet L (some ⟨gp, 0, none⟩) 512 cp wr L1.out hp (HB.out.mineRd 0 rfl) (HTB.out _ HB.out.below).1 (HTB.out _ HB.out.below).2
          rw [(getV_none HBad.out).1, (getV_none HBad.out).2] at h
          unfold Sec.zero at h
          unfold Sec.val at h
          refine h.mono ?_
          clear h
          rintro e W7 ⟨ag, cg, rfl, Mx, hb⟩
          have h0 := HB.out.mine hb Mx
          clear HB
          have HB := Lib.hid h0
          clear h0
          clear Mx hb
          obtain ⟨qS_0, qS_1, qS_2, qS_3, qS_4, qS_f⟩ := cells5 (HB.out.box 3 rfl)
          have qS_l := HB.out.boxLt 3 rfl
          go_wp2_with fail
          generalize hU : W7.alloc (.cells #[.string (str []), .int .i64 0, .int .i64 0, .int .i64 0, .slice ag 0 cg] 24 (0, 0)) = U8
          clear qS_0 qS_1 qS_2 qS_3 qS_4 qS_f qS_l
          have h0 := HB.out.alloc #[.string (str []), .int .i64 0, .int .i64 0, .int .i64 0, .slice ag 0 cg] 24
          rw [hU] at h0
          clear HB
          have HB := Lib.hid h0
          clear h0
          clear hU
          have h := secRight L (some ⟨gp, 0, none⟩) 512 cp tO 1 2 3 U8 L1.out hp (HB.out.mineRd 2 rfl) (HTB.out _ HB.out.below).1 (HTB.out _ HB.out.below).2
          have hro := rightO_none HBad.out tO 1 2 3
          rw [hro, right_no hro] at h
          clear hro
          refine h.mono ?_
          clear h
          rintro e W9 ⟨ar, cr, rfl, Mx, hb⟩
          have h0 := HB.out.mine hb Mx
          clear HB
          have HB := Lib.hid h0
          clear h0
          clear Mx hb
          go_wp2_with fail
          refine (numOf _ _).mono ?_
          rintro e w' ⟨rfl, hw⟩
          obtain rfl := hw
          go_wp2_with fail
          go_ret
          exact ⟨rfl, HB.out.below⟩
  | true =>
    have HM := Lib.hid hm
    refine (lawMay ⟨st, se, ss, sp, sb⟩ aos cs _ HFs.out).mono ?_
    rintro e W3 ⟨he, hb⟩
    rw [hm] at he
    subst he
    have h0 := HB.out.call hb
    clear HB
    have HB := Lib.hid h0
    clear h0
    clear hb
    clear hm
    obtain ⟨qS_0, qS_1, qS_2, qS_3, qS_4, qS_f⟩ := cells5 (HB.out.box 0 rfl)
    have qS_l := HB.out.boxLt 0 rfl
    go_wp2_with fail
    clear qS_0 qS_1 qS_2 qS_3 qS_4 qS_f qS_l
    have h := putYes ⟨st, se, ss, sp, sb⟩ aos cs W3 HM.out HFs.out (HRs.out _ HB.out.below) (HTB.out _ HB.out.below).1 (HTB.out _ HB.out.below).2
    unfold Sec.val at h
    try unfold plainS at h
    try simp only at h
    refine h.mono ?_
    clear h
    rintro e W4 ⟨gp, cp, rfl, hg, hp, Ox, hb⟩
    have h0 := HB.out.own hb Ox hg
    clear HB
    have HB := Lib.hid h0
    clear h0
    clear hb Ox hg
    obtain ⟨by_, hby⟩ : ∃ l, Sec.bytes ⟨st, se, ss, sp, sb⟩ = l := ⟨_, rfl⟩
    have hbl := bytes_len HM.out
    have h0 := HB.out
    rw [hby] at h0 hbl
    clear HB
    have HB := Lib.hid h0
    have HBy := Lib.hid hby
    have HBL := Lib.hid hbl
    clear h0 hby hbl
    go_wp2_with fail
    refine (numOf _ _).mono ?_
    rintro e w' ⟨rfl, hw⟩
    obtain rfl := hw
    obtain ⟨i1, i2, b, hbl4, hbb⟩ := place xb 4064 (by decide)
    have e4 : ((4064 : Nat) : Int) = 4064 := rfl
    rw [e4] at i1 i2 hbb
    clear e4
    go_wp2_with fail
    rw [hbb]
    clear hbb i1 i2
    go_loopw [2, 11, 12] (fun pv tv iv wr => ∃ (k : Nat) (t : Bool), k ≤ 32 ∧ iv = .int .i64 k ∧ pv = .int .u32 (n32 (pt >>> k)) ∧ tv = .bool t ∧ t = !(Crc.bks b pt 4064 k).isEmpty ∧ Bag w wr [.mine 5 (some ⟨gp, 0, none⟩) cp (Crc.turns by_ (Crc.bks b pt 4064 k)), .box (w.heap.size) #[.string (str st), .int .i64 se, .int .i64 ss, .int .i64 sp, .slice aos sb.length cs] 24]) (fun _ _ iv _ => 32 - (intOf iv).toNat)
    case atStart => exact ⟨0, false, Nat.zero_le _, rfl, by simp, rfl, rfl, HB.out⟩
    case round =>
      obtain ⟨k, t, hk, rfl, rfl, rfl, htt, hB⟩ := hrel
      clear HB
      have HB := Lib.hid hB
      have HTT := Lib.hid htt
      have L1 := Lib.hid ((Crc.turns_length (Crc.bks b pt 4064 k) by_).trans HBL.out)
      have hsr := Lib.hid (show (pt >>> k) >>> 1 = pt >>> (k + 1) from (BitVec.shiftRight_add pt k 1).symm)
      clear hB htt
      by_cases hlt : k < 32
      · have hodd := odd_bit pt k
        have hlo := n32_lo (pt >>> k)
        have hhi := n32_hi (pt >>> k)
        cases hbit : pt.getLsbD k
        · rw [hbit] at hodd
          have HK := Lib.hid (bks_skip b pt 4064 k (Or.inl hbit))
          clear hbit
          go_wp2
          go_roundw
          case rel => exact ⟨k + 1, t, by omega, by go_num, by rw [div32_2, hsr.out], rfl, by rw [HK.out]; exact HTT.out, by rw [HK.out]; exact HB.out⟩
          case measure => simp [intOf]; omega
        · rw [hbit] at hodd
          by_cases hin : b + k < 4064
          · have HK := Lib.hid (bks_step b pt 4064 k hbit hin)
            obtain ⟨L, hL⟩ : ∃ l, Crc.turns by_ (Crc.bks b pt 4064 k) = l := ⟨_, rfl⟩
            have h0 := HB.out
            rw [hL] at h0 L1
            clear HB hbit
            have HB := Lib.hid h0
            obtain ⟨j, hj⟩ : ∃ j, b + k = j := ⟨_, rfl⟩
            have hjI : (b : Int) + (k : Int) = (j : Int) := by omega
            have hj4 : j < 4064 := by omega
            have hji : j / 8 < L.length := by rw [L1.out]; omega
            have hcell := (h0.mineOwn 0 rfl).cell (j / 8) hji
            have hfree := (h0.mineOwn 0 rfl).free (j / 8)
            obtain ⟨y, hy⟩ : ∃ y, L.getD (j / 8) 0#8 = y := ⟨_, rfl⟩
            rw [hy] at hcell
            have hTn : Crc.turn L j = L.set (j / 8) (y ^^^ (1#8 <<< (j % 8))) := by unfold Crc.turn; rw [hy]
            have HTn := Lib.hid hTn
            have hsh := shl8 (j % 8)
            have hLL := Lib.hid hL
            have h8 : j % 8 < 8 := Nat.mod_lt _ (by omega)
            have HJ := Lib.hid hj
            have hj5 : j / 8 < 512 := by omega
            clear h0 hy hTn hL hj hji
            go_wp2_with fail
            go_region
            go_wp2_with fail
            have hk2 := HK.out
            rw [HJ.out] at hk2
            have h1 := HB.out.byte 0 rfl (j / 8) (y ^^^ (1#8 <<< (j % 8))) |>.drew
            rw [← HTn.out, ← hLL.out, ← Crc.turns_snoc, ← hk2] at h1
            clear hk2
            simp only [List.set_cons_zero] at h1
            have H1 := Lib.hid h1
            clear h1 HB
            go_roundw
            case rel => exact ⟨k + 1, true, by omega, by go_num, by rw [div32_2, hsr.out], rfl, by rw [HK.out]; simp, H1.out⟩
            case measure => simp [intOf]; omega
          · have HK := Lib.hid (bks_skip b pt 4064 k (Or.inr hin))
            have hin2 : (4064 : Int) ≤ (b : Int) + (k : Int) := by omega
            have hbk : (b : Int) ≤ 4063 := by omega
            clear hbit hin hbl4
            go_wp2
            go_roundw
            case rel => exact ⟨k + 1, t, by omega, by go_num, by rw [div32_2, hsr.out], rfl, by rw [HK.out]; exact HTT.out, by rw [HK.out]; exact HB.out⟩
            case measure => simp [intOf]; omega
      · obtain rfl : k = 32 := by omega
        obtain ⟨L, hL⟩ : ∃ l, Crc.turns by_ (Crc.bks b pt 4064 32) = l := ⟨_, rfl⟩
        have h0 := HB.out
        rw [hL] at h0 L1
        clear HB hlt
        have HB := Lib.hid h0
        have hLL := Lib.hid hL
        clear h0 hL
        cases t with
        | false =>
          have hby2 : L = by_ := by
            have h0 := HTT.out
            rw [← hLL.out]
            cases hk : Crc.bks b pt 4064 32 with
            | nil => rfl
            | cons _ _ => rw [hk] at h0; cases h0
          obtain rfl := hby2.symm
          clear hby2
          go_wp2_with fail
          have h := secGet by_ (some ⟨gp, 0, none⟩) 512 cp wr HBL.out hp (HB.out.mineRd 0 rfl) (HTB.out _ HB.out.below).1 (HTB.out _ HB.out.below).2
          rw [← HBy.out, (getVE HM.out).1, (getVE HM.out).2] at h
          unfold Sec.val at h
          refine h.mono ?_
          clear h
          rintro e W5 ⟨ag, cg, rfl, Mx, hb⟩
          have h0 := HB.out.mine hb Mx
          clear HB
          have HB := Lib.hid h0
          clear h0
          clear Mx hb
          obtain ⟨qS_0, qS_1, qS_2, qS_3, qS_4, qS_f⟩ := cells5 (HB.out.box 2 rfl)
          have qS_l := HB.out.boxLt 2 rfl
          go_wp2_with fail
          generalize hU : W5.alloc (.cells #[.string (str st), .int .i64 se, .int .i64 ss, .int .i64 sp, .slice ag sb.length cg] 24 (0, 0)) = U6
          clear qS_0 qS_1 qS_2 qS_3 qS_4 qS_f qS_l
          have h0 := HB.out.alloc #[.string (str st), .int .i64 se, .int .i64 ss, .int .i64 sp, .slice ag sb.length cg] 24
          rw [hU] at h0
          clear HB
          have HB := Lib.hid h0
          clear h0
          clear hU
          have h := secRight by_ (some ⟨gp, 0, none⟩) 512 cp st se ss sp U6 HBL.out hp (HB.out.mineRd 2 rfl) (HTB.out _ HB.out.below).1 (HTB.out _ HB.out.below).2
          have hro : rightO by_ st se ss sp = true := by rw [← HBy.out, rightO_bytes HM.out]; simp
          have hrb : rightB by_ st se ss sp = sb := by rw [right_yes hro, ← HBy.out, (getVE HM.out).1]
          rw [hro, hrb] at h
          clear hro hrb
          refine h.mono ?_
          clear h
          rintro e W7 ⟨ar, cr, rfl, Mx, hb⟩
          have h0 := HB.out.mine hb Mx
          clear HB
          have HB := Lib.hid h0
          clear h0
          clear Mx hb
          obtain ⟨qS_0, qS_1, qS_2, qS_3, qS_4, qS_f⟩ := cells5 (HB.out.box 4 rfl)
          have qS_l := HB.out.boxLt 4 rfl
          go_wp2_with fail
          clear qS_0 qS_1 qS_2 qS_3 qS_4 qS_f qS_l
          refine (sameTrue ar aos sb sb.length sb.length cr cs _ rfl rfl (Nat.le_trans HFs.out.len (by decide)) (HB.out.mineRd 0 rfl) (HRs.out _ HB.out.below)).mono ?_
          rintro e W8 ⟨rfl, hst⟩
          have hb := hst.below W7.heap.size
          clear hst
          have h0 := HB.out.call hb
          clear HB
          have HB := Lib.hid h0
          clear h0
          clear hb
          go_wp2_with fail
          refine (numOf _ _).mono ?_
          rintro e w' ⟨rfl, hw⟩
          obtain rfl := hw
          go_wp2_with fail
          go_ret
          exact ⟨rfl, HB.out.below⟩
        | true =>
          have hbad : getS L = none := by
            rw [← hLL.out, ← HBy.out]
            refine getS_burst HM.out b pt hbl4 fun e => ?_
            have := HTT.out
            rw [e] at this
            cases this
          have HBad := Lib.hid hbad
          clear hbad
          go_wp2_with fail
          have h := secGet L (some ⟨gp, 0, none⟩) 512 cp wr L1.out hp (HB.out.mineRd 0 rfl) (HTB.out _ HB.out.below).1 (HTB.out _ HB.out.below).2
          rw [(getV_none HBad.out).1, (getV_none HBad.out).2] at h
          unfold Sec.zero at h
          unfold Sec.val at h
          refine h.mono ?_
          clear h
          rintro e W5 ⟨ag, cg, rfl, Mx, hb⟩
          have h0 := HB.out.mine hb Mx
          clear HB
          have HB := Lib.hid h0
          clear h0
          clear Mx hb
          obtain ⟨qS_0, qS_1, qS_2, qS_3, qS_4, qS_f⟩ := cells5 (HB.out.box 2 rfl)
          have qS_l := HB.out.boxLt 2 rfl
          go_wp2_with fail
          generalize hU : W5.alloc (.cells #[.string (str []), .int .i64 0, .int .i64 0, .int .i64 0, .slice ag 0 cg] 24 (0, 0)) = U6
          clear qS_0 qS_1 qS_2 qS_3 qS_4 qS_f qS_l
          have h0 := HB.out.alloc #[.string (str []), .int .i64 0, .int .i64 0, .int .i64 0, .slice ag 0 cg] 24
          rw [hU] at h0
          clear HB
          have HB := Lib.hid h0
          clear h0
          clear hU
          have h := secRight L (some ⟨gp, 0, none⟩) 512 cp st se ss sp U6 L1.out hp (HB.out.mineRd 2 rfl) (HTB.out _ HB.out.below).1 (HTB.out _ HB.out.below).2
          have hro := rightO_none HBad.out st se ss sp
          rw [hro, right_no hro] at h
          clear hro
          refine h.mono ?_
          clear h
          rintro e W7 ⟨ar, cr, rfl, Mx, hb⟩
          have h0 := HB.out.mine hb Mx
          clear HB
          have HB := Lib.hid h0
          clear h0
          clear Mx hb
          go_wp2_with fail
          refine (numOf _ _).mono ?_
          rintro e w' ⟨rfl, hw⟩
          obtain rfl := hw
          go_wp2_with fail
          go_ret
          exact ⟨rfl, HB.out.below⟩
end Go.Proofs.YtinfhlepjmollaaDoor
