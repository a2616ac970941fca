/- The walk of SectorPuts. -/
import Derived.Test.YtinfhlepjmollaaDoorSecGets
import Derived.Test.YtinfhlepjmollaaDoorSecMayL
namespace Go.Proofs.YtinfhlepjmollaaDoor
open Go.RowKit
/-- The first k bytes xored with 0x5a. -/
def xz (l : List (BitVec 8)) (k : Nat) : List (BitVec 8) := (l.take k).map (· ^^^ 90#8) ++ l.drop k
theorem xz_zero (l : List (BitVec 8)) : xz l 0 = l := by simp [xz]
theorem xz_len (l : List (BitVec 8)) (k : Nat) : (xz l k).length = l.length := by simp [xz]; omega
theorem xz_get (l : List (BitVec 8)) (k : Nat) (hk : k < l.length) : (xz l k).getD k 0#8 = l.getD k 0#8 := by
  have h1 : ((l.take k).map (· ^^^ 90#8)).length = k := by simp; omega
  simp only [xz, List.getD]
  rw [List.getElem?_append_right (by omega), h1, Nat.sub_self]
  simp
theorem xz_step (l : List (BitVec 8)) (k : Nat) (hk : k < l.length) : (xz l k).set k (l.getD k 0#8 ^^^ 90#8) = xz l (k + 1) := by
  have h1 : ((l.take k).map (· ^^^ 90#8)).length = k := by simp; omega
  simp only [xz]
  rw [List.set_append_right _ _ (by omega), h1, Nat.sub_self, List.take_succ_eq_append_getElem hk, List.map_append, List.append_assoc]
  congr 1
  rw [List.drop_eq_getElem_cons hk, List.set_cons_zero]
  simp [List.getD, hk]
set_option maxRecDepth 100000 in
set_option maxHeartbeats 4000000 in
theorem lawSectorPuts (S : Sec) (aos : Option Addr) (cs : Nat) (w : World) (hfs : S.fits) (hrs : Rd w aos S.body) (hns : aos = none → cs = 0) (hls : S.body.length ≤ cs) (ht : Tab w) (hT : 0 < w.heap.size) :
   Calls Tryd.prog 3 #[S.val aos cs] w fun e w' => e = .returned (.bool true) ∧ Below w.heap.size w w' := by
  have HTB := Lib.hid (fun (w' : World) (hb : Below w.heap.size w w') => (⟨ht.below hb hT, Nat.lt_of_lt_of_le hT hb.size⟩ : _ ∧ _))
  obtain ⟨st, se, ss, sp, sb⟩ := S
  have HFs := Lib.hid hfs
  simp only at hrs hls
  have HRs := Lib.hid (fun (w' : World) (hb : Below w.heap.size w w') => hrs.on hb)
  clear hfs hrs
  unfold Sec.val
  simp only
  clear ht hT
  go_enter Tryd.func3, Tryd.ntmps3
  go_wp2_with fail
  generalize hU : (w.alloc (.cells #[.string (str st), .int .i64 se, .int .i64 ss, .int .i64 sp, .slice aos sb.length cs] 24 (0, 0))) = U1
  have h0 := (Bag.start w).allocAt #[.string (str st), .int .i64 se, .int .i64 ss, .int .i64 sp, .slice aos sb.length cs] 24 (w.heap.size) rfl
  rw [hU] at h0
  have HB := Lib.hid h0
  clear h0 hU
  refine (lawFirst _ (HTB.out _ HB.out.below).1 (HTB.out _ HB.out.below).2).mono ?_
  rintro e W2 ⟨rfl, hb⟩
  have h0 := HB.out.call hb
  clear HB
  have HB := Lib.hid h0
  clear h0
  clear hb
  by_cases hlen : 2000 < sb.length
  · have hlx : (2000 : Int) < (sb.length : Int) := by omega
    obtain ⟨qS_0, qS_1, qS_2, qS_3, qS_4, qS_f⟩ := cells5 (HB.out.box 0 rfl)
    have qS_l := HB.out.boxLt 0 rfl
    go_wp2_with fail
    clear qS_0 qS_1 qS_2 qS_3 qS_4 qS_f qS_l
    go_ret
    exact ⟨rfl, HB.out.below⟩
  obtain ⟨ps, hps⟩ : ∃ l, putS ⟨st, se, ss, sp, sb⟩ = l := ⟨_, rfl⟩
  obtain ⟨pe, hpe⟩ : ∃ l, putE ⟨st, se, ss, sp, sb⟩ = l := ⟨_, rfl⟩
  have hpl : ps.length ≤ 281474976710656 := by
    rw [← hps]; unfold putS; split
    · rename_i hm; rw [bytes_len hm]; decide
    · simp
  have HPs := Lib.hid (⟨hps, hpe⟩ : _ ∧ _)
  have HPl := Lib.hid hpl
  clear hps hpe hpl
  obtain ⟨qS_0, qS_1, qS_2, qS_3, qS_4, qS_f⟩ := cells5 (HB.out.box 0 rfl)
  have qS_l := HB.out.boxLt 0 rfl
  go_wp2_with fail
  clear qS_0 qS_1 qS_2 qS_3 qS_4 qS_f qS_l
  refine (roomOf aos sb sb.length cs _ rfl (by omega) (HRs.out _ HB.out.below)).mono ?_
  rintro e W3 ⟨g, cx, rfl, hg, hcx, Ox, hb⟩
  have h0 := HB.out.own hb Ox hg
  clear HB
  have HB := Lib.hid h0
  clear h0
  clear Ox hg
  clear hb
  obtain ⟨qS_0, qS_1, qS_2, qS_3, qS_4, qS_f⟩ := cells5 (HB.out.box 1 rfl)
  have qS_l := HB.out.boxLt 1 rfl
  go_wp2_with fail
  generalize hU : W3.alloc (.cells #[.string (str st), .int .i64 se, .int .i64 ss, .int .i64 sp, .slice (some ⟨g, 0, none⟩) sb.length (sb.length + 3)] 24 (0, 0)) = U4
  clear qS_0 qS_1 qS_2 qS_3 qS_4 qS_f qS_l
  have h0 := HB.out.alloc #[.string (str st), .int .i64 se, .int .i64 ss, .int .i64 sp, .slice (some ⟨g, 0, none⟩) sb.length (sb.length + 3)] 24
  rw [hU] at h0
  clear HB
  have HB := Lib.hid h0
  clear h0
  clear hU
  have h := secPut' st se ss sp sb (some ⟨g, 0, none⟩) sb.length (sb.length + 3) U4 rfl HFs.out (HB.out.mineOwn 1 rfl).pre.rd (HTB.out _ HB.out.below).1 (HTB.out _ HB.out.below).2
  rw [HPs.out.1, HPs.out.2] at h
  refine h.mono ?_
  clear h
  rintro e W5 ⟨ap, cp, rfl, Mx, hb⟩
  have h0 := HB.out.mine hb Mx
  clear HB
  have HB := Lib.hid h0
  clear h0
  clear Mx hb
  obtain ⟨qS_0, qS_1, qS_2, qS_3, qS_4, qS_f⟩ := cells5 (HB.out.box 3 rfl)
  have qS_l := HB.out.boxLt 3 rfl
  go_wp2_with fail
  clear qS_0 qS_1 qS_2 qS_3 qS_4 qS_f qS_l
  have h := refPut' st se ss sp sb aos sb.length (cs) W5 rfl HFs.out (HRs.out _ HB.out.below) hns
  rw [HPs.out.1, HPs.out.2] at h
  refine h.mono ?_
  clear h
  rintro e W6 ⟨aq, cq, rfl, Mx, hb⟩
  have h0 := HB.out.mine hb Mx
  clear HB
  have HB := Lib.hid h0
  clear h0
  clear Mx hb
  go_wp2_with fail
  refine (sameTrue ap aq ps ps.length ps.length cp cq _ rfl rfl HPl.out (HB.out.mineRd 1 rfl) (HB.out.mineRd 0 rfl)).mono ?_
  rintro e W7 ⟨rfl, hst⟩
  have hb := hst.below W6.heap.size
  clear hst
  have h0 := HB.out.call hb
  clear HB
  have HB := Lib.hid h0
  clear h0
  clear hb
  obtain ⟨qS_0, qS_1, qS_2, qS_3, qS_4, qS_f⟩ := cells5 (HB.out.box 4 rfl)
  have qS_l := HB.out.boxLt 4 rfl
  go_wp2_with fail
  clear qS_0 qS_1 qS_2 qS_3 qS_4 qS_f qS_l
  refine (roomOf aos sb sb.length cs _ rfl (by omega) (HRs.out _ HB.out.below)).mono ?_
  rintro e W8 ⟨g2, cy, rfl, hg, hcy, Ox, hb⟩
  have h0 := HB.out.own hb Ox hg
  clear HB
  have HB := Lib.hid h0
  clear h0
  clear Ox hg
  clear hb
  have hl3 : (sb ++ [161#8, 162#8, 163#8]).length = sb.length + 3 := by rw [List.length_append]; rfl
  have HL3 := Lib.hid hl3
  clear hl3
  go_wp2_with fail
  refine (sameTrue (some ⟨g, 0, none⟩) (some ⟨g2, 0, none⟩) (sb ++ [161#8, 162#8, 163#8]) (sb.length + 3) (sb.length + 3) cx cy _ HL3.out HL3.out (by omega) (HB.out.mineRd 4 rfl) (HB.out.mineRd 0 rfl)).mono ?_
  rintro e W9 ⟨rfl, hst⟩
  have hb := hst.below W8.heap.size
  clear hst
  have h0 := HB.out.call hb
  clear HB
  have HB := Lib.hid h0
  clear h0
  clear hb
  have hrr : (pe != pe) = false := by simp
  go_wp2_with fail
  refine (numOf _ _).mono ?_
  rintro e w' ⟨rfl, hw⟩
  obtain rfl := hw
  go_wp2_with fail
  clear hrr
  have h0 := HB.out.erase 0
  simp only [List.eraseIdx_cons_zero] at h0
  clear HB
  have HB := Lib.hid h0
  clear h0
  go_loopw [13] (fun i wr => ∃ k : Nat, k ≤ sb.length ∧ i = .int .i64 k ∧ Bag w wr [.mine 5 aq cq (ps), .mine 5 ap cp (ps), .box (W3.heap.size) #[.string (str st), .int .i64 se, .int .i64 ss, .int .i64 sp, .slice (some ⟨g, 0, none⟩) sb.length (sb.length + 3)] 24, .mine 5 (some ⟨g, 0, none⟩) cx (xz sb k ++ [161#8, 162#8, 163#8]), .box (w.heap.size) #[.string (str st), .int .i64 se, .int .i64 ss, .int .i64 sp, .slice aos sb.length cs] 24]) (fun i _ => sb.length - (intOf i).toNat)
  case atStart => exact ⟨0, Nat.zero_le _, rfl, by rw [xz_zero]; exact HB.out⟩
  case round =>
    obtain ⟨k, hk, rfl, hB⟩ := hrel
    clear HB
    have HB := Lib.hid hB
    clear hB
    by_cases hlt : k < sb.length
    · have hkl : k < (xz sb k).length := by rw [xz_len]; exact hlt
      have hcell := (HB.out.mineOwn 3 rfl).pre.cell k hkl
      have hfree := (HB.out.mineOwn 3 rfl).free k
      rw [xz_get sb k hlt] at hcell
      have hst := xz_step sb k hlt
      obtain ⟨y, hy⟩ : ∃ y, sb.getD k 0#8 = y := ⟨_, rfl⟩
      rw [hy] at hcell hst
      have hxo : bits .xor .u8 (n8 y) 90 = n8 (y ^^^ 90#8) := by rw [show (90 : Int) = n8 90#8 from by unfold n8; rfl, xor8]
      have HST := Lib.hid hst
      have HKL := Lib.hid hkl
      clear hy hst hkl
      go_wp2_with fail
      have h0 := HB.out.byte 3 rfl k (y ^^^ 90#8)
      rw [List.set_append_left _ _ HKL.out, HST.out] at h0
      simp only [List.set_cons_zero, List.set_cons_succ] at h0
      clear HB
      have HB := Lib.hid h0
      clear h0 hcell hfree hxo
      go_roundw
      case rel => exact ⟨k + 1, by omega, by go_num, HB.out⟩
      case measure => simp [intOf]; omega
    · obtain rfl : k = sb.length := by omega
      obtain ⟨sz, hsz⟩ : ∃ l, xz sb sb.length = l := ⟨_, rfl⟩
      have hszl : sz.length = sb.length := by rw [← hsz]; exact xz_len _ _
      have h0 := HB.out
      rw [hsz] at h0
      clear HB
      have HB := Lib.hid h0
      have HSL := Lib.hid hszl
      clear h0 hsz hszl hlt
      have hfz : Sec.fits ⟨st, se, ss, sp, sz⟩ := ⟨by simp only [HSL.out]; exact HFs.out.len, HFs.out.e0, HFs.out.e1, HFs.out.s0, HFs.out.s1, HFs.out.p0, HFs.out.p1⟩
      have HFZ := Lib.hid hfz
      clear hfz
      obtain ⟨qs, hps⟩ : ∃ l, putS ⟨st, se, ss, sp, sz⟩ = l := ⟨_, rfl⟩
      obtain ⟨qe, hpe⟩ : ∃ l, putE ⟨st, se, ss, sp, sz⟩ = l := ⟨_, rfl⟩
      have hpl : qs.length ≤ 281474976710656 := by
        rw [← hps]; unfold putS; split
        · rename_i hm; rw [bytes_len hm]; decide
        · simp
      have HQs := Lib.hid (⟨hps, hpe⟩ : _ ∧ _)
      have HQl := Lib.hid hpl
      clear hps hpe hpl
      obtain ⟨qT_0, qT_1, qT_2, qT_3, qT_4, qT_f⟩ := cells5 (HB.out.box 2 rfl)
      have qT_l := HB.out.boxLt 2 rfl
      go_wp2_with fail
      clear qT_0 qT_1 qT_2 qT_3 qT_4 qT_f qT_l
      have h := secPut' st se ss sp sz (some ⟨g, 0, none⟩) sb.length (sb.length + 3) wr HSL.out HFZ.out (HB.out.mineOwn 3 rfl).pre.rd (HTB.out _ HB.out.below).1 (HTB.out _ HB.out.below).2
      rw [HQs.out.1, HQs.out.2] at h
      refine h.mono ?_
      clear h
      rintro e W10 ⟨ar, cr, rfl, Mx, hb⟩
      have h0 := HB.out.mine hb Mx
      clear HB
      have HB := Lib.hid h0
      clear h0
      clear Mx hb
      go_wp2_with fail
      refine (bytesOf' (some ⟨g, 0, none⟩) sz sb.length cx W10 HSL.out (by rw [HSL.out]; omega) (HB.out.mineOwn 4 rfl).pre.rd).mono ?_
      rintro e W11 ⟨v, rfl, ho, hb⟩
      obtain ⟨az, cz, rfl, Mx⟩ := owns_mine' ho HSL.out
      have hnz := Mx.nilCap
      have h0 := HB.out.mine hb Mx
      clear HB
      have HB := Lib.hid h0
      clear h0
      clear Mx hb ho
      obtain ⟨qS_0, qS_1, qS_2, qS_3, qS_4, qS_f⟩ := cells5 (HB.out.box 6 rfl)
      have qS_l := HB.out.boxLt 6 rfl
      go_wp2_with fail
      generalize hU : W11.setCell ⟨w.heap.size, 4, none⟩ (.slice az sb.length cz) = U12
      clear qS_0 qS_1 qS_2 qS_3 qS_4 qS_f qS_l
      have h0 := HB.out.put 6 rfl 4 (.slice az sb.length cz)
      rw [hU, show It.box (w.heap.size) (Array.setIfInBounds #[.string (str st), .int .i64 se, .int .i64 ss, .int .i64 sp, .slice aos sb.length cs] 4 (.slice az sb.length cz)) 24 = It.box (w.heap.size) #[.string (str st), .int .i64 se, .int .i64 ss, .int .i64 sp, .slice az sb.length cz] 24 from rfl] at h0
      simp only [List.set_cons_zero, List.set_cons_succ] at h0
      clear HB
      have HB := Lib.hid h0
      clear h0
      clear hU
      obtain ⟨qS_0, qS_1, qS_2, qS_3, qS_4, qS_f⟩ := cells5 (HB.out.box 6 rfl)
      have qS_l := HB.out.boxLt 6 rfl
      go_wp2_with fail
      clear qS_0 qS_1 qS_2 qS_3 qS_4 qS_f qS_l
      have h := refPut' st se ss sp sz az sb.length (cz) U12 HSL.out HFZ.out (HB.out.mineRd 0 rfl) hnz
      rw [HQs.out.1, HQs.out.2] at h
      refine h.mono ?_
      clear h
      rintro e W13 ⟨at_, ct, rfl, Mx, hb⟩
      have h0 := HB.out.mine hb Mx
      clear HB
      have HB := Lib.hid h0
      clear h0
      clear Mx hb
      go_wp2_with fail
      refine (sameTrue ar at_ qs qs.length qs.length cr ct _ rfl rfl HQl.out (HB.out.mineRd 2 rfl) (HB.out.mineRd 0 rfl)).mono ?_
      rintro e W14 ⟨rfl, hst⟩
      have hb := hst.below W13.heap.size
      clear hst
      have h0 := HB.out.call hb
      clear HB
      have HB := Lib.hid h0
      clear h0
      clear hb
      go_wp2_with fail
      refine (sameTrue ap aq ps ps.length ps.length cp cq _ rfl rfl HPl.out (HB.out.mineRd 4 rfl) (HB.out.mineRd 3 rfl)).mono ?_
      rintro e W15 ⟨rfl, hst⟩
      have hb := hst.below W14.heap.size
      clear hst
      have h0 := HB.out.call hb
      clear HB
      have HB := Lib.hid h0
      clear h0
      clear hb
      have hrr : (qe == qe) = true := by simp
      go_wp2_with fail
      refine (numOf _ _).mono ?_
      rintro e w' ⟨rfl, hw⟩
      obtain rfl := hw
      go_wp2_with fail
      go_ret
      exact ⟨rfl, HB.out.below⟩
end Go.Proofs.YtinfhlepjmollaaDoor
