/- The walk of SectorUnlike. -/
import Derived.Test.YtinfhlepjmollaaDoorSecGets
import Derived.Test.YtinfhlepjmollaaDoorSecMayL
namespace Go.Proofs.YtinfhlepjmollaaDoor
open Go.RowKit
set_option maxRecDepth 100000 in
set_option maxHeartbeats 4000000 in
theorem lawSectorUnlike (S : Sec) (aos : Option Addr) (cs : Nat) (T : Sec) (aot : Option Addr) (ct : Nat) (w : World) (hfs : S.fits) (hrs : Rd w aos S.body) (_hns : aos = none → cs = 0) (hls : S.body.length ≤ cs) (hft : T.fits) (hrt : Rd w aot T.body) (_hnt : aot = none → ct = 0) (hlt : T.body.length ≤ ct) (ht : Tab w) (hT : 0 < w.heap.size) :
   Calls Tryd.prog 8 #[S.val aos cs, T.val aot ct] w fun e w' => e = .returned (.bool true) ∧ Below w.heap.size w w' := by
  have HTB := Lib.hid (fun (w' : World) (hb : Below w.heap.size w w') => (⟨ht.below hb hT, Nat.lt_of_lt_of_le hT hb.size⟩ : _ ∧ _))
  obtain ⟨st, se, ss, sp, sb⟩ := S
  have HFs := Lib.hid hfs
  simp only at hrs hls
  have HRs := Lib.hid (fun (w' : World) (hb : Below w.heap.size w w') => hrs.on hb)
  clear hfs hrs
  obtain ⟨tt, te, ts, tp, tb⟩ := T
  have HFt := Lib.hid hft
  simp only at hrt hlt
  have HRt := Lib.hid (fun (w' : World) (hb : Below w.heap.size w w') => hrt.on hb)
  clear hft hrt
  unfold Sec.val
  simp only
  clear ht hT
  go_enter Tryd.func8, Tryd.ntmps8
  go_wp2_with fail
  generalize hU : ((w.alloc (.cells #[.string (str st), .int .i64 se, .int .i64 ss, .int .i64 sp, .slice aos sb.length cs] 24 (0, 0))).alloc (.cells #[.string (str tt), .int .i64 te, .int .i64 ts, .int .i64 tp, .slice aot tb.length ct] 24 (0, 0))) = U1
  have h0 := ((Bag.start w).allocAt #[.string (str st), .int .i64 se, .int .i64 ss, .int .i64 sp, .slice aos sb.length cs] 24 (w.heap.size) rfl).allocAt #[.string (str tt), .int .i64 te, .int .i64 ts, .int .i64 tp, .slice aot tb.length ct] 24 (w.heap.size + 1) (by simp only [alloc_size])
  rw [hU] at h0
  have HB := Lib.hid h0
  clear h0 hU
  refine (lawFirst _ (HTB.out _ HB.out.below).1 (HTB.out _ HB.out.below).2).mono ?_
  rintro e W2 ⟨rfl, hb⟩
  have h0 := HB.out.call hb
  clear HB
  have HB := Lib.hid h0
  clear h0
  clear hb
  cases hms : Sec.may ⟨st, se, ss, sp, sb⟩ with
  | false =>
    obtain ⟨qS_0, qS_1, qS_2, qS_3, qS_4, qS_f⟩ := cells5 (HB.out.box 1 rfl)
    have qS_l := HB.out.boxLt 1 rfl
    go_wp2_with fail
    clear qS_0 qS_1 qS_2 qS_3 qS_4 qS_f qS_l
    refine (lawMay ⟨st, se, ss, sp, sb⟩ aos cs _ HFs.out).mono ?_
    rintro e W3 ⟨he, hb⟩
    rw [hms] at he
    subst he
    have h0 := HB.out.call hb
    clear HB
    have HB := Lib.hid h0
    clear h0
    clear hb
    obtain ⟨qT_0, qT_1, qT_2, qT_3, qT_4, qT_f⟩ := cells5 (HB.out.box 0 rfl)
    have qT_l := HB.out.boxLt 0 rfl
    go_wp2_with fail
    clear qT_0 qT_1 qT_2 qT_3 qT_4 qT_f qT_l
    go_ret
    exact ⟨rfl, HB.out.below⟩
  | true =>
    obtain ⟨qS_0, qS_1, qS_2, qS_3, qS_4, qS_f⟩ := cells5 (HB.out.box 1 rfl)
    have qS_l := HB.out.boxLt 1 rfl
    go_wp2_with fail
    clear qS_0 qS_1 qS_2 qS_3 qS_4 qS_f qS_l
    refine (lawMay ⟨st, se, ss, sp, sb⟩ aos cs _ HFs.out).mono ?_
    rintro e W3 ⟨he, hb⟩
    rw [hms] at he
    subst he
    have h0 := HB.out.call hb
    clear HB
    have HB := Lib.hid h0
    clear h0
    clear hb
    obtain ⟨qT_0, qT_1, qT_2, qT_3, qT_4, qT_f⟩ := cells5 (HB.out.box 0 rfl)
    have qT_l := HB.out.boxLt 0 rfl
    go_wp2_with fail
    clear qT_0 qT_1 qT_2 qT_3 qT_4 qT_f qT_l
    cases hmt : Sec.may ⟨tt, te, ts, tp, tb⟩ with
    | false =>
      refine (lawMay ⟨tt, te, ts, tp, tb⟩ aot ct _ HFt.out).mono ?_
      rintro e W4 ⟨he, hb⟩
      rw [hmt] at he
      subst he
      have h0 := HB.out.call hb
      clear HB
      have HB := Lib.hid h0
      clear h0
      clear hb
      go_wp2_with fail
      go_ret
      exact ⟨rfl, HB.out.below⟩
    | true =>
      have HMs := Lib.hid hms
      have HMt := Lib.hid hmt
      refine (lawMay ⟨tt, te, ts, tp, tb⟩ aot ct _ HFt.out).mono ?_
      rintro e W4 ⟨he, hb⟩
      rw [hmt] at he
      subst he
      have h0 := HB.out.call hb
      clear HB
      have HB := Lib.hid h0
      clear h0
      clear hb
      clear hms hmt
      obtain ⟨qS_0, qS_1, qS_2, qS_3, qS_4, qS_f⟩ := cells5 (HB.out.box 1 rfl)
      have qS_l := HB.out.boxLt 1 rfl
      go_wp2_with fail
      clear qS_0 qS_1 qS_2 qS_3 qS_4 qS_f qS_l
      have h := putYes ⟨st, se, ss, sp, sb⟩ aos cs W4 HMs.out HFs.out (HRs.out _ HB.out.below) (HTB.out _ HB.out.below).1 (HTB.out _ HB.out.below).2
      unfold Sec.val at h
      refine h.mono ?_
      clear h
      rintro e W5 ⟨gp, cp, rfl, hg, hp, Ox, hb⟩
      have h0 := HB.out.own hb Ox hg
      clear HB
      have HB := Lib.hid h0
      clear h0
      clear hb Ox hg
      obtain ⟨qT_0, qT_1, qT_2, qT_3, qT_4, qT_f⟩ := cells5 (HB.out.box 1 rfl)
      have qT_l := HB.out.boxLt 1 rfl
      go_wp2_with fail
      clear qT_0 qT_1 qT_2 qT_3 qT_4 qT_f qT_l
      have h := putYes ⟨tt, te, ts, tp, tb⟩ aot ct W5 HMt.out HFt.out (HRt.out _ HB.out.below) (HTB.out _ HB.out.below).1 (HTB.out _ HB.out.below).2
      unfold Sec.val at h
      refine h.mono ?_
      clear h
      rintro e W6 ⟨gq, cq, rfl, hg, hq, Ox, hb⟩
      have h0 := HB.out.own hb Ox hg
      clear HB
      have HB := Lib.hid h0
      clear h0
      clear hb Ox hg
      go_wp2_with fail
      refine (sameAs (some ⟨gp, 0, none⟩) (some ⟨gq, 0, none⟩) (Sec.bytes ⟨st, se, ss, sp, sb⟩) (Sec.bytes ⟨tt, te, ts, tp, tb⟩) 512 512 cp cq _ (bytes_len HMs.out) (bytes_len HMt.out) (by decide) (by decide) (HB.out.mineRd 1 rfl) (HB.out.mineRd 0 rfl)).mono ?_
      rintro e W7 ⟨he, hst⟩
      have hb := hst.below W6.heap.size
      clear hst
      rw [bytes_iff HMs.out HMt.out] at he
      obtain ⟨al, hal⟩ : ∃ al, alikeS ⟨st, se, ss, sp, sb⟩ ⟨tt, te, ts, tp, tb⟩ = al := ⟨_, rfl⟩
      rw [hal] at he
      subst he
      have HA := Lib.hid hal
      clear hal
      have h0 := HB.out.call hb
      clear HB
      have HB := Lib.hid h0
      clear h0
      clear hb
      go_wp2_with fail
      refine (numOf _ _).mono ?_
      rintro e w' ⟨rfl, hw⟩
      obtain rfl := hw
      go_wp2_with fail
      refine (numOf _ _).mono ?_
      rintro e w' ⟨rfl, hw⟩
      obtain rfl := hw
      have haa : (al == al) = true := by simp
      obtain ⟨qS_0, qS_1, qS_2, qS_3, qS_4, qS_f⟩ := cells5 (HB.out.box 3 rfl)
      have qS_l := HB.out.boxLt 3 rfl
      obtain ⟨qT_0, qT_1, qT_2, qT_3, qT_4, qT_f⟩ := cells5 (HB.out.box 2 rfl)
      have qT_l := HB.out.boxLt 2 rfl
      have nT_S := HB.out.boxNe 2 3 rfl rfl (by decide)
      go_wp2_with fail
      clear qS_0 qS_1 qS_2 qS_3 qS_4 qS_f qS_l qT_0 qT_1 qT_2 qT_3 qT_4 qT_f qT_l nT_S
      refine (alike ⟨st, se, ss, sp, sb⟩ ⟨tt, te, ts, tp, tb⟩ aos aot cs ct _ (Nat.le_trans HFs.out.len (by decide)) (Nat.le_trans HFt.out.len (by decide)) (HRs.out _ HB.out.below) (HRt.out _ HB.out.below)).mono ?_
      rintro e W8 ⟨he, hb⟩
      rw [HA.out] at he
      subst he
      have h0 := HB.out.call hb
      clear HB
      have HB := Lib.hid h0
      clear h0
      clear hb
      go_wp2_with fail
      go_ret
      exact ⟨rfl, HB.out.below⟩
end Go.Proofs.YtinfhlepjmollaaDoor
