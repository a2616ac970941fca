/- The walk of SectorOneForm. -/
import Derived.Test.YtinfhlepjmollaaDoorSecGets
import Derived.Test.YtinfhlepjmollaaDoorSecMayL
namespace Go.Proofs.YtinfhlepjmollaaDoor
open Go.RowKit
set_option maxHeartbeats 4000000 in
theorem lawSectorOneForm (b : List (BitVec 8)) (ao : Option Addr) (cap : Nat) (w : World) (hlc : b.length ≤ cap) (hr : Rd w ao b) (ht : Tab w) (hT : 0 < w.heap.size) :
   Calls Tryd.prog 7 #[.slice ao b.length cap] w fun e w' => e = .returned (.bool true) ∧ Below w.heap.size w w' := by
  have HTB := Lib.hid (fun (w' : World) (hb : Below w.heap.size w w') => (⟨ht.below hb hT, Nat.lt_of_lt_of_le hT hb.size⟩ : _ ∧ _))
  have HRB := Lib.hid (fun (w' : World) (hb : Below w.heap.size w w') => hr.on hb)
  obtain ⟨V, hV⟩ : ∃ V, getV b = V := ⟨_, rfl⟩
  obtain ⟨vt, ve, vs, vp, vb⟩ := V
  obtain ⟨E, hE⟩ : ∃ E, getE b = E := ⟨_, rfl⟩
  have HVE := Lib.hid (⟨hV, hE⟩ : _ ∧ _)
  clear hV hE
  clear hr ht hT
  go_enter Tryd.func7, Tryd.ntmps7
  go_wp2_with fail
  have HB := Lib.hid (Bag.start w)
  refine (lawFirst _ (HTB.out _ (Below.refl _ _)).1 (HTB.out _ (Below.refl _ _)).2).mono ?_
  rintro e W1 ⟨rfl, hb⟩
  have h0 := HB.out.call hb
  clear HB
  have HB := Lib.hid h0
  clear h0
  clear hb
  by_cases hlen : 2000 < b.length
  · have hlx : (2000 : Int) < (b.length : Int) := by omega
    go_wp2_with fail
    go_ret
    exact ⟨rfl, HB.out.below⟩
  go_wp2_with fail
  have h := secGet b ao (b.length) (cap) W1 rfl hlc (HRB.out _ HB.out.below) (HTB.out _ HB.out.below).1 (HTB.out _ HB.out.below).2
  rw [HVE.out.1, HVE.out.2] at h
  unfold Sec.val at h
  refine h.mono ?_
  clear h
  rintro e W2 ⟨ag, cag, rfl, Mx, hb⟩
  have h0 := HB.out.mine hb Mx
  clear HB
  have HB := Lib.hid h0
  clear h0
  clear Mx hb
  go_wp2_with fail
  generalize hU : W2.alloc (.cells #[.string (str vt), .int .i64 ve, .int .i64 vs, .int .i64 vp, .slice ag vb.length cag] 24 (0, 0)) = U3
  have h0 := HB.out.alloc #[.string (str vt), .int .i64 ve, .int .i64 vs, .int .i64 vp, .slice ag vb.length cag] 24
  rw [hU] at h0
  clear HB
  have HB := Lib.hid h0
  clear h0
  clear hU
  refine (numOf _ _).mono ?_
  rintro e w' ⟨rfl, hw⟩
  obtain rfl := hw
  cases hg : getS b with
  | none =>
    obtain rfl : E = 117 := by rw [← HVE.out.2]; exact (getV_none hg).2
    obtain ⟨rfl, rfl, rfl, rfl, rfl⟩ : vt = [] ∧ ve = 0 ∧ vs = 0 ∧ vp = 0 ∧ vb = [] := by
      have := HVE.out.1.symm.trans (getV_none hg).1
      simpa [Sec.zero] using this
    clear hg
    have h0 := HB.out
    rw [← str_nil] at h0
    clear HB
    have HB := Lib.hid h0
    clear h0
    obtain ⟨qs_0, qs_1, qs_2, qs_3, qs_4, qs_f⟩ := cells5 (HB.out.box 0 rfl)
    have qs_l := HB.out.boxLt 0 rfl
    go_wp2_with fail
    clear qs_0 qs_1 qs_2 qs_3 qs_4 qs_f qs_l
    refine (numOf _ _).mono ?_
    rintro e w' ⟨rfl, hw⟩
    obtain rfl := hw
    obtain ⟨qs_0, qs_1, qs_2, qs_3, qs_4, qs_f⟩ := cells5 (HB.out.box 0 rfl)
    have qs_l := HB.out.boxLt 0 rfl
    go_wp2_with fail
    clear qs_0 qs_1 qs_2 qs_3 qs_4 qs_f qs_l
    have h := alike Sec.zero Sec.zero ag none cag 0 U3 (by decide) (by decide) (Rd.nil _ _) (Rd.nil _ _)
    rw [alikeS_refl] at h
    unfold Sec.val Sec.zero at h
    simp only [List.length_nil, ← str_nil] at h
    refine h.mono ?_
    clear h
    rintro e W4 ⟨rfl, hb⟩
    have h0 := HB.out.call hb
    clear HB
    have HB := Lib.hid h0
    clear h0
    clear hb
    go_wp2_with fail
    go_ret
    exact ⟨rfl, HB.out.below⟩
  | some S =>
    obtain rfl : E = 0 := by rw [← HVE.out.2]; exact (getV_some hg).2
    obtain rfl : S = ⟨vt, ve, vs, vp, vb⟩ := (getV_some hg).1.symm.trans HVE.out.1
    obtain ⟨hm, hby⟩ := getS_spec hg
    have hfi : Sec.fits ⟨vt, ve, vs, vp, vb⟩ := by
      obtain ⟨_, h2, h3, h4, h5⟩ := may_iff.1 hm
      simp only at h2 h3 h4 h5
      exact ⟨by simp only; omega, by simp only; omega, by simp only; omega, by simp only; omega, by simp only; omega, by simp only; omega, by simp only; omega⟩
    have hbl := bytes_len hm
    rw [hby] at hbl
    have HM := Lib.hid hm
    have HBy := Lib.hid hby
    have HBL := Lib.hid hbl
    clear hg hm hby hbl
    obtain ⟨qs_0, qs_1, qs_2, qs_3, qs_4, qs_f⟩ := cells5 (HB.out.box 0 rfl)
    have qs_l := HB.out.boxLt 0 rfl
    go_wp2_with fail
    clear qs_0 qs_1 qs_2 qs_3 qs_4 qs_f qs_l
    have h := putYes ⟨vt, ve, vs, vp, vb⟩ ag cag U3 HM.out hfi (HB.out.mineRd 1 rfl) (HTB.out _ HB.out.below).1 (HTB.out _ HB.out.below).2
    unfold Sec.val at h
    rw [HBy.out] at h
    refine h.mono ?_
    clear h
    rintro e W4 ⟨gp, cp, rfl, hg, hcp, Ox, hb⟩
    have h0 := HB.out.own hb Ox hg
    clear HB
    have HB := Lib.hid h0
    clear h0
    clear hb Ox hg
    go_wp2_with fail
    refine (sameTrue ao (some ⟨gp, 0, none⟩) b b.length 512 cap cp _ rfl HBL.out (by omega) (HRB.out _ HB.out.below) (HB.out.mineRd 0 rfl)).mono ?_
    rintro e W5 ⟨rfl, hst⟩
    have hb := hst.below W4.heap.size
    clear hst
    have h0 := HB.out.call hb
    clear HB
    have HB := Lib.hid h0
    clear h0
    clear hb
    go_wp2_with fail
    refine (numOf _ _).mono ?_
    rintro e w' ⟨rfl, hw⟩
    obtain rfl := hw
    obtain ⟨qs_0, qs_1, qs_2, qs_3, qs_4, qs_f⟩ := cells5 (HB.out.box 1 rfl)
    have qs_l := HB.out.boxLt 1 rfl
    go_wp2_with fail
    clear qs_0 qs_1 qs_2 qs_3 qs_4 qs_f qs_l
    refine (lawMay ⟨vt, ve, vs, vp, vb⟩ ag cag _ hfi).mono ?_
    rintro e W6 ⟨he, hb⟩
    rw [HM.out] at he
    subst he
    have h0 := HB.out.call hb
    clear HB
    have HB := Lib.hid h0
    clear h0
    clear hb
    go_wp2_with fail
    go_ret
    exact ⟨rfl, HB.out.below⟩
end Go.Proofs.YtinfhlepjmollaaDoor
