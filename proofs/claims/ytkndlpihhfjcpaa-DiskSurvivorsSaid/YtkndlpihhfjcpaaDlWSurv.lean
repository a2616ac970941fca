/- The walk of DiskSurvivors. -/
import Derived.Test.YtkndlpihhfjcpaaDlSameP
import Derived.Test.YtkndlpihhfjcpaaDlPuts
namespace Go.Proofs.Ytkndlpihhfjcpaa
open Go.RowKit
theorem bo3 {W : World} {b : Nat} {t : TypeId} (h : W.heap[b]? = some (.cells #[.bool true, .bool true, .bool true] t (0, 0))) : Bo W (some ⟨b, 0, none⟩) [true, true, true] := by
  intro j x hj
  match j with
  | 0 => simp at hj; subst hj; exact ⟨b, 0, rfl, cell_of_row W b 0 _ _ _ h⟩
  | 1 => simp at hj; subst hj; exact ⟨b, 0, rfl, cell_of_row W b 1 _ _ _ h⟩
  | 2 => simp at hj; subst hj; exact ⟨b, 0, rfl, cell_of_row W b 2 _ _ _ h⟩
  | j + 3 => simp at hj
theorem armE_one {D : Dk} (h : D.Calm) : D.armE [(1, 1)] = 0 ∧ D.armD [(1, 1)] = { D with fs := [(1, 1)], done := 0 } := by
  have ha : Dk.armOk [(1, 1)] = true := by decide
  have e : D.armE [(1, 1)] = 0 := by unfold Dk.armE; rw [ha, h.1]; rfl
  exact ⟨e, by unfold Dk.armD; rw [if_pos e]⟩
theorem flush_one {D : Dk} (h : D.Calm) : ({ D with fs := [(1, 1)], done := 0 } : Dk).opE = 104 ∧ ({ D with fs := [(1, 1)], done := 0 } : Dk).flushD.ls = D.ls ∧ ({ D with fs := [(1, 1)], done := 0 } : Dk).flushD.ps = D.ps ∧ ({ D with fs := [(1, 1)], done := 0 } : Dk).flushD.fs = [(1, 1)] := by
  have e : ({ D with fs := [(1, 1)], done := 0 } : Dk).opE = 104 := by simp [Dk.opE, h.1, Dk.kindAt]
  refine ⟨e, ?_⟩
  unfold Dk.flushD
  rw [e]
  simp [Dk.opD, h.1]
set_option maxRecDepth 100000 in
set_option maxHeartbeats 8000000 in
theorem lawDiskSurvivors (la lb : List PutA) (keep : List Bool) (off : Bool) (aa ab ak : Option Addr) (na ca nb cb nk ck : Nat) (w : World) (hna : la.length = na) (hnb : lb.length = nb) (hnk : keep.length = nk) (ha1 : na ≤ 140737488351232) (hb1 : nb ≤ 140737488351232) (hk1 : nk ≤ 140737488351232) (hkc : nk ≤ ck) (hka : ak = none → ck = 0) (hra : Pu w aa la) (hrb : Pu w ab lb) (hrk : Bo w ak keep) :
   Calls Try.prog 6 #[.slice aa na ca, .slice ab nb cb, .slice ak nk ck, .bool off] w fun e w' => e = .returned (.bool true) ∧ Below w.heap.size w w' := by
  have HRA := Lib.hid (fun (w' : World) (hb : Below w.heap.size w w') => hra.on hb)
  have HRB := Lib.hid (fun (w' : World) (hb : Below w.heap.size w w') => hrb.on hb)
  have HRK := Lib.hid (fun (w' : World) (hb : Below w.heap.size w w') => hrk.on hb)
  have HNA := Lib.hid hna
  have HNB := Lib.hid hnb
  have HKN := Lib.hid hnk
  have HKA := Lib.hid hka
  clear hra hrb hrk hna hnb hnk hka
  go_enter Try.func6, Try.ntmps6
  go_wp2_with fail
  refine (dlFirst w).mono ?_
  rintro e W1 ⟨rfl, hb⟩
  have HB1 := Lib.hid ((Bag.start w).call hb)
  clear hb
  go_wp2_with fail
  refine (dkNew 32 W1 (by omega) (by omega)).mono ?_
  rintro e W2 ⟨p, L, rfl, hB⟩
  have HB := Lib.hid (HB1.out.join hB)
  clear hB HB1
  go_wp2_with fail
  have h0 := HB.out.alloc #[.slice none 0 0, .slice none 0 0, .slice none 0 0, .slice none 0 0, .slice none 0 0, .slice none 0 0, .slice none 0 0, .slice none 0 0, .slice none 0 0, .slice none 0 0, .slice none 0 0, .slice none 0 0, .slice none 0 0, .slice none 0 0, .slice none 0 0, .slice none 0 0, .slice none 0 0, .slice none 0 0, .slice none 0 0, .slice none 0 0, .slice none 0 0, .slice none 0 0, .slice none 0 0, .slice none 0 0, .slice none 0 0, .slice none 0 0, .slice none 0 0, .slice none 0 0, .slice none 0 0, .slice none 0 0, .slice none 0 0, .slice none 0 0, .slice none 0 0] 41
  generalize hU : W2.alloc (.cells #[.slice none 0 0, .slice none 0 0, .slice none 0 0, .slice none 0 0, .slice none 0 0, .slice none 0 0, .slice none 0 0, .slice none 0 0, .slice none 0 0, .slice none 0 0, .slice none 0 0, .slice none 0 0, .slice none 0 0, .slice none 0 0, .slice none 0 0, .slice none 0 0, .slice none 0 0, .slice none 0 0, .slice none 0 0, .slice none 0 0, .slice none 0 0, .slice none 0 0, .slice none 0 0, .slice none 0 0, .slice none 0 0, .slice none 0 0, .slice none 0 0, .slice none 0 0, .slice none 0 0, .slice none 0 0, .slice none 0 0, .slice none 0 0, .slice none 0 0] 41 (0, 0)) = U at h0 ⊢
  generalize hq : W2.heap.size = q at h0 ⊢
  have HI := Lib.hid (born_in (n := 0 + 0) h0)
  clear h0 hU hq HB
  go_loopw [12] (fun t wr => ∃ (j : Nat) (D : Dk), j ≤ 60 ∧ j ≤ na ∧ t = .int .i64 j ∧ D.Calm ∧ InStep w p q (0 + j) D [] wr) (fun t _ => 60 - (intOf t).toNat)
  case atStart => exact ⟨0, Dk.new 32, by omega, by omega, rfl, ⟨rfl, rfl⟩, HI.out⟩
  case round =>
    obtain ⟨j, D, hj, hjn, rfl, hcalm, hI⟩ := hrel
    clear HI
    have HI := Lib.hid hI
    have HC := Lib.hid hcalm
    have hbl : Below w.heap.size w wr := by obtain ⟨_, _, _, L1, M1, hB⟩ := hI; exact hB.below
    have HBl := Lib.hid hbl
    clear hI hbl hcalm
    by_cases hlt : j < na ∧ j < 60
    · obtain ⟨hln, hl3⟩ := hlt
      obtain ⟨A, hA⟩ : ∃ A, la[j]? = some A := ⟨la[j]'(by rw [HNA.out]; exact hln), List.getElem?_eq_getElem _⟩
      obtain ⟨hf, _, b, o, rfl, c0, c1⟩ := HRA.out wr HBl.out j A hA
      have HA := Lib.hid hA
      have hj0 : (0 : Int) ≤ (j : Int) := by omega
      have hji : (j : Int) < (na : Int) := by omega
      have HFo := Lib.hid (fun (W : World) (h : InStep w p q (0 + j) D [] W) => follows w W p q D [] (0 + j) A.op (PutA.opFits hf) (by omega) (fun W' h => by obtain ⟨_, h1, _⟩ := HRA.out W' h.below j A HA.out; exact ⟨h1, Fd.nil _ _, Bo.nil _ _⟩) h)
      have HAct := Lib.hid (act2 HC.out HI.out.2.2.1 A.i A.data)
      have HI1 := Lib.hid (show InStep w p q (0 + j) D [] wr.drew from ⟨HI.out.1, HI.out.2.1, HI.out.2.2.1, by obtain ⟨L1, M1, hB⟩ := HI.out.2.2.2; exact ⟨L1, M1, hB.drew⟩⟩)
      clear hf hA
      go_wp2_with fail
      go_still_tail 13, (by kernel_rfl)
      have hfo := HFo.out _ HI1.out
      unfold OpA.val PutA.op at hfo
      simp only [List.length_nil] at hfo
      clear c0 c1
      go_wp2_with fail
      refine hfo.mono ?_
      rintro e W3 ⟨rfl, hI3⟩
      obtain ⟨D3, hD3⟩ : ∃ D3, D.act 2 A.i A.data [] [] = D3 := ⟨_, rfl⟩
      rw [hD3] at hI3 HAct
      have HI3 := Lib.hid hI3
      have HC3 := Lib.hid HAct.out.1
      clear hfo hD3 hI3 HI HI1 HFo HAct
      go_wp2_with fail
      go_roundw
      case rel => exact ⟨j + 1, D3, by omega, by omega, by go_num, HC3.out, HI3.out⟩
      case measure => simp [intOf]; omega
    · have hjj : (j < na ∧ ¬ j < 60) ∨ ¬ j < na := by omega
      clear hlt
      rcases hjj with ⟨h1, h2⟩ | h1
      all_goals
        go_wp2_with fail
        have hfo := follows w wr p q D [] (0 + j) (opK 4 [] none 0) (opK_fits 4 (by simp) (by simp) (fun _ => rfl)) (by omega) (fun W' _ => ⟨Rd.nil _ _, Fd.nil _ _, Bo.nil _ _⟩) HI.out
        unfold OpA.val opK at hfo
        simp only [List.length_nil] at hfo
        refine hfo.mono ?_
        rintro e W4 ⟨rfl, hI4⟩
        clear HI
        rw [act4] at hI4
        have HI := Lib.hid (show InStep w p q (61 + 0) D.flushD [] W4 from ⟨hI4.1.mono (by omega), hI4.2⟩)
        have HCF := Lib.hid (calm_flush HC.out).1
        have HP0 := Lib.hid (show D.flushD.ps.length = 0 by rw [(calm_flush HC.out).2]; rfl)
        clear hI4 hfo HC
        go_wp2_with fail
        go_loopw [13, 14] (fun c t wr => ∃ (j : Nat) (D : Dk), j ≤ 60 ∧ j ≤ nb ∧ t = .int .i64 j ∧ c = .int .i64 j ∧ D.ps.length = j ∧ D.Calm ∧ InStep w p q (61 + j) D [] wr) (fun _ t _ => 60 - (intOf t).toNat)
        case atStart => exact ⟨0, D.flushD, by omega, by omega, rfl, rfl, HP0.out, HCF.out, HI.out⟩
        case round =>
          clear HI HCF HP0
          clear D
          obtain ⟨j, D, hj, hjn, rfl, rfl, hps, hcalm, hI⟩ := hrel
          have HPS := Lib.hid hps
          clear hps
          skip
          have HI := Lib.hid hI
          have HC := Lib.hid hcalm
          have hbl : Below w.heap.size w wr := by obtain ⟨_, _, _, L1, M1, hB⟩ := hI; exact hB.below
          have HBl := Lib.hid hbl
          clear hI hbl hcalm
          by_cases hlt : j < nb ∧ j < 60
          · obtain ⟨hln, hl3⟩ := hlt
            obtain ⟨A, hA⟩ : ∃ A, lb[j]? = some A := ⟨lb[j]'(by rw [HNB.out]; exact hln), List.getElem?_eq_getElem _⟩
            obtain ⟨hf, _, b, o, rfl, c0, c1⟩ := HRB.out wr HBl.out j A hA
            have HA := Lib.hid hA
            have hj0 : (0 : Int) ≤ (j : Int) := by omega
            have hji : (j : Int) < (nb : Int) := by omega
            have HFo := Lib.hid (fun (W : World) (h : InStep w p q (61 + j) D [] W) => follows w W p q D [] (61 + j) A.op (PutA.opFits hf) (by omega) (fun W' h => by obtain ⟨_, h1, _⟩ := HRB.out W' h.below j A HA.out; exact ⟨h1, Fd.nil _ _, Bo.nil _ _⟩) h)
            have HAct := Lib.hid (act2 HC.out HI.out.2.2.1 A.i A.data)
            have HI1 := Lib.hid (show InStep w p q (61 + j) D [] wr.drew from ⟨HI.out.1, HI.out.2.1, HI.out.2.2.1, by obtain ⟨L1, M1, hB⟩ := HI.out.2.2.2; exact ⟨L1, M1, hB.drew⟩⟩)
            clear hf hA
            go_wp2_with fail
            go_still_tail 13, (by kernel_rfl)
            have hfo := HFo.out _ HI1.out
            unfold OpA.val PutA.op at hfo
            simp only [List.length_nil] at hfo
            clear c0 c1
            go_wp2_with fail
            refine hfo.mono ?_
            rintro e W3 ⟨rfl, hI3⟩
            obtain ⟨D3, hD3⟩ : ∃ D3, D.act 2 A.i A.data [] [] = D3 := ⟨_, rfl⟩
            rw [hD3] at hI3 HAct
            have HI3 := Lib.hid hI3
            have HC3 := Lib.hid HAct.out.1
            have HP3 := Lib.hid (show D3.ps.length = j + 1 by rw [HAct.out.2, HPS.out])
            clear hfo hD3 hI3 HI HI1 HFo HAct
            go_wp2_with fail
            go_roundw
            case rel => exact ⟨j + 1, D3, by omega, by omega, by go_num, by go_num, HP3.out, HC3.out, HI3.out⟩
            case measure => simp [intOf]; omega
          · have hjj : (j < nb ∧ ¬ j < 60) ∨ ¬ j < nb := by omega
            clear hlt
            rcases hjj with ⟨h3, h4⟩ | h3
            all_goals
              go_wp2_with fail
              obtain ⟨wf, fl, l32, LP, MP, hB⟩ := HI.out
              refine (dkPending w wr p LP D _ _ wf (by omega) hB).mono ?_
              rintro e WPa ⟨vp, gs, rfl, hBp⟩
              rw [HPS.out] at hBp
              obtain ⟨a1, k1, rfl, _⟩ := pdl_pd HPS.out (fun p hp => (wf.at_ p hp).2) hBp
              obtain ⟨a2, k2, hpv, _⟩ := mkl_pd HPS.out (fun p hp => (wf.at_ p hp).2) (dm_swap hBp.tail.tail)
              have q32 := mkPends (dm_swap hBp.tail.tail)
              rw [hpv] at q32
              clear HI
              have HI := Lib.hid (show InStep w p q (61 + j) D [] WPa from ⟨wf, fl, l32, LP, MP, hBp.tail.tail⟩)
              clear wf fl l32 hB hBp hpv
              cases off with
              | false =>
                go_wp2_with fail
                clear q32
                have HI' := Lib.hid (show InStep w p q (130 + j) D [] WPa from ⟨HI.out.1.mono (by omega), HI.out.2⟩)
                clear HI
                have HI := Lib.hid HI'.out
                clear HI'
                have hfo := follows w WPa p q D [] (130 + j) (opK 6 keep ak ck) (opK_fits 6 (by rw [HKN.out]; exact hk1) (by rw [HKN.out]; exact hkc) HKA.out) (by omega) (fun W' h => ⟨Rd.nil _ _, Fd.nil _ _, HRK.out W' h.below⟩) HI.out
                unfold OpA.val opK at hfo
                simp only [List.length_nil] at hfo
                rw [HKN.out] at hfo
                refine hfo.mono ?_
                rintro e W7 ⟨rfl, hI7⟩
                clear HI
                rw [act6] at hI7
                obtain ⟨D7, hD7⟩ : ∃ D7, (D).crashD keep = D7 := ⟨_, rfl⟩
                rw [hD7] at hI7
                have HI := Lib.hid hI7
                clear hfo hI7 hD7
                go_wp2_with fail
                obtain ⟨wf, fl, l32, LL, MM, hB⟩ := HI.out
                refine (dkDurable w W7 p LL D7 _ _ wf hB).mono ?_
                rintro e WDa ⟨ada, cda, he, hBd⟩
                rw [l32] at he
                subst he
                obtain ⟨gda, rfl⟩ := hBd.mineSome 0 rfl (by rw [flat_len _ wf.sec, l32]; omega)
                have hcap := hBd.mineLe 0 rfl
                rw [flat_len _ wf.sec, l32] at hcap
                have HBd := Lib.hid (dm_swap (dm_in hBd))
                have HWF := Lib.hid wf
                have HFL := Lib.hid fl
                have HL32 := Lib.hid l32
                clear wf fl l32 hB hBd
                go_wp2_with fail
                refine (mkIs w WDa q MM D7.ls D7.ps _ (some ⟨gda, 0, none⟩) cda HWF.out.sec hcap (fun W' h => h.mineRd 10 rfl) HBd.out).mono ?_
                rintro e WIa ⟨rfl, hBi⟩
                clear HI
                have HI := Lib.hid (show InStep w p q _ D7 _ WIa from ⟨HWF.out, HFL.out, HL32.out, LL, MM, (dm_out (dm_back hBi)).tail⟩)
                clear hBi HBd hcap HWF HFL HL32
                go_wp2_with fail
                obtain ⟨wf, fl, l32, LL2, MM2, hB⟩ := HI.out
                have h0 := hB.alloc #[.bool true, .bool true, .bool true] 4
                generalize hU : WIa.alloc (.cells #[.bool true, .bool true, .bool true] 4 (0, 0)) = W8 at h0 ⊢
                generalize hbx : WIa.heap.size = bx at h0 ⊢
                have HI8 := Lib.hid (show InStep w p q _ D7 [.box bx #[.bool true, .bool true, .bool true] 4] W8 from ⟨wf, fl, l32, LL2, MM2, dm_in h0⟩)
                clear h0 hU hbx wf fl l32 hB HI
                have hfo := follows w W8 p q D7 [.box bx #[.bool true, .bool true, .bool true] 4] _ (opK 6 [true, true, true] (some ⟨bx, 0, none⟩) 3) (opK_fits 6 (by simp) (by simp) (fun h => by cases h)) (by omega) (fun W' h => ⟨Rd.nil _ _, Fd.nil _ _, bo3 (h.box 0 rfl)⟩) HI8.out
                unfold OpA.val opK at hfo
                simp only [List.length_nil] at hfo
                refine hfo.mono ?_
                rintro e W9 ⟨rfl, hI9⟩
                rw [act6] at hI9
                have hoff : (D7.crashD [true, true, true]).off = false := rfl
                have hps : (D7.crashD [true, true, true]).ps = [] := rfl
                obtain ⟨D9, hD9⟩ : ∃ D9, D7.crashD [true, true, true] = D9 := ⟨_, rfl⟩
                rw [hD9] at hI9 hoff hps
                have HI9 := Lib.hid hI9
                have HOff := Lib.hid hoff
                have HPs := Lib.hid hps
                clear hfo hI9 hD9 hoff hps HI8
                go_wp2_with fail
                obtain ⟨wf, fl, l32, LL, MM, hB⟩ := HI9.out
                refine (dkDurable w W9 p LL D9 _ _ wf hB).mono ?_
                rintro e WDb ⟨adb, cdb, he, hBd⟩
                rw [l32] at he
                subst he
                obtain ⟨gdb, rfl⟩ := hBd.mineSome 0 rfl (by rw [flat_len _ wf.sec, l32]; omega)
                have hcap := hBd.mineLe 0 rfl
                rw [flat_len _ wf.sec, l32] at hcap
                have HBd := Lib.hid (dm_swap (dm_in hBd))
                have HWF := Lib.hid wf
                have HFL := Lib.hid fl
                have HL32 := Lib.hid l32
                clear wf fl l32 hB hBd
                go_wp2_with fail
                refine (mkIs w WDb q MM D9.ls D9.ps _ (some ⟨gdb, 0, none⟩) cdb HWF.out.sec hcap (fun W' h => h.mineRd 10 rfl) HBd.out).mono ?_
                rintro e WIb ⟨rfl, hBi⟩
                clear HI9
                have HI9 := Lib.hid (show InStep w p q _ D9 _ WIb from ⟨HWF.out, HFL.out, HL32.out, LL, MM, (dm_out (dm_back hBi)).tail⟩)
                clear hBi HBd hcap HWF HFL HL32
                go_wp2_with fail
                obtain ⟨wf, fl, l32, LL3, MM3, hB⟩ := HI9.out
                refine (dkPending w WIb p LL3 D9 _ _ wf (by omega) hB).mono ?_
                rintro e WPc ⟨vp, gs, rfl, hBp⟩
                obtain ⟨a1, k1, rfl, _⟩ := pdl_pd (n := 0) (by rw [HPs.out]; rfl) (fun p hp => (wf.at_ p hp).2) (by rw [HPs.out] at hBp ⊢; exact hBp)
                have HBp := Lib.hid hBp.tail.tail
                clear wf fl l32 hB hBp HI9
                go_wp2_with fail
                refine (dkPower HBp.out).mono ?_
                rintro e w' ⟨he, hw⟩
                obtain rfl := hw
                rw [HOff.out] at he
                subst he
                go_wp2_with fail
                go_ret
                exact ⟨rfl, HBp.out.below⟩
              | true =>
                go_wp2_with fail
                clear q32
                obtain ⟨wf, fl, l32, LP2, MP2, hB⟩ := HI.out
                have h0 := hB.alloc #[.int .i64 1, .int .i64 1] 29
                generalize hU : WPa.alloc (.cells #[.int .i64 1, .int .i64 1] 29 (0, 0)) = W5 at h0 ⊢
                generalize hbx : WPa.heap.size = bx at h0 ⊢
                have HB5 := Lib.hid (dm_in h0)
                have HWF := Lib.hid wf
                have HFL := Lib.hid fl
                have HL := Lib.hid l32
                clear h0 hU hbx wf fl l32 hB HI
                refine (dkArm w W5 p LP2 D _ (some ⟨bx, 0, none⟩) [(1, 1)] 1 1 rfl (by omega) (by omega) (fun h => by cases h) (fun W' D' h => fd_one (h.box 10 rfl)) HB5.out).mono ?_
                rintro e W6 ⟨L6, rfl, hB6⟩
                have hE0 := armE_one HC.out
                rw [hE0.1]
                rw [hE0.2] at hB6
                obtain ⟨D6, hD6⟩ : ∃ D6, ({ D with fs := [(1, 1)], done := 0 } : Dk) = D6 := ⟨_, rfl⟩
                rw [hD6] at hB6
                have HB6 := Lib.hid hB6
                have HD6 := Lib.hid hD6
                have hW6 : D6.Wf (61 + j) := by rw [← hD6]; have := HWF.out.arm [(1, 1)]; rw [hE0.2] at this; exact this
                have HW6 := Lib.hid hW6
                clear hB6 hE0 HB5 hW6 hD6
                go_wp2_with fail
                refine (dkFlush w W6 p L6 D6 _ _ HW6.out (by omega) (by rw [← HD6.out]; simp) HB6.out).mono ?_
                rintro e W7 ⟨L7, he, hB7⟩
                have hf := flush_one HC.out
                rw [HD6.out] at hf
                rw [hf.1] at he
                subst he
                obtain ⟨D8, hD8⟩ : ∃ D8, D6.flushD = D8 := ⟨_, rfl⟩
                rw [hD8] at hB7 hf
                have HB7 := Lib.hid (dm_out hB7).tail
                have HF8 := Lib.hid hf.2
                have HW8 := Lib.hid (show D8.Wf (61 + j + 1) by rw [← hD8]; exact HW6.out.flush)
                clear hB7 hf HB6 hD8
                go_wp2_with fail
                refine (dkPending w W7 p L7 D8 _ _ HW8.out (by omega) HB7.out).mono ?_
                rintro e W8 ⟨vp8, gs8, rfl, hBp8⟩
                have hp8 : D8.ps.length = j := by rw [HF8.out.2.1]; exact HPS.out
                rw [hp8] at hBp8
                obtain ⟨a8, k8, rfl, _⟩ := pdl_pd hp8 (fun p hp => (HW8.out.at_ p hp).2) hBp8
                have HB8 := Lib.hid hBp8.tail.tail
                clear hBp8 HB7 hp8
                go_wp2_with fail
                refine (numOf _ _).mono ?_
                rintro e w' ⟨rfl, rfl⟩
                go_wp2_with fail
                have HI := Lib.hid (show InStep w p q (130 + j) D8 [] W8 from ⟨HW8.out.mono (by omega), by rw [HF8.out.2.2]; simp, by rw [HF8.out.1]; exact HL.out, by
                  obtain ⟨h1, h2, _⟩ := HF8.out
                  rw [h1, h2]
                  exact ⟨L7, MP2, HB8.out⟩⟩)
                clear HB8 HW8 HF8 HWF HFL HL HW6 HD6
                have hfo := follows w W8 p q D8 [] (130 + j) (opK 6 keep ak ck) (opK_fits 6 (by rw [HKN.out]; exact hk1) (by rw [HKN.out]; exact hkc) HKA.out) (by omega) (fun W' h => ⟨Rd.nil _ _, Fd.nil _ _, HRK.out W' h.below⟩) HI.out
                unfold OpA.val opK at hfo
                simp only [List.length_nil] at hfo
                rw [HKN.out] at hfo
                refine hfo.mono ?_
                rintro e W7 ⟨rfl, hI7⟩
                clear HI
                rw [act6] at hI7
                obtain ⟨D7, hD7⟩ : ∃ D7, (D8).crashD keep = D7 := ⟨_, rfl⟩
                rw [hD7] at hI7
                have HI := Lib.hid hI7
                clear hfo hI7 hD7
                go_wp2_with fail
                obtain ⟨wf, fl, l32, LL, MM, hB⟩ := HI.out
                refine (dkDurable w W7 p LL D7 _ _ wf hB).mono ?_
                rintro e WDa ⟨ada, cda, he, hBd⟩
                rw [l32] at he
                subst he
                obtain ⟨gda, rfl⟩ := hBd.mineSome 0 rfl (by rw [flat_len _ wf.sec, l32]; omega)
                have hcap := hBd.mineLe 0 rfl
                rw [flat_len _ wf.sec, l32] at hcap
                have HBd := Lib.hid (dm_swap (dm_in hBd))
                have HWF := Lib.hid wf
                have HFL := Lib.hid fl
                have HL32 := Lib.hid l32
                clear wf fl l32 hB hBd
                go_wp2_with fail
                refine (mkIs w WDa q MM D7.ls D7.ps _ (some ⟨gda, 0, none⟩) cda HWF.out.sec hcap (fun W' h => h.mineRd 10 rfl) HBd.out).mono ?_
                rintro e WIa ⟨rfl, hBi⟩
                clear HI
                have HI := Lib.hid (show InStep w p q _ D7 _ WIa from ⟨HWF.out, HFL.out, HL32.out, LL, MM, (dm_out (dm_back hBi)).tail⟩)
                clear hBi HBd hcap HWF HFL HL32
                go_wp2_with fail
                obtain ⟨wf, fl, l32, LL2, MM2, hB⟩ := HI.out
                have h0 := hB.alloc #[.bool true, .bool true, .bool true] 4
                generalize hU : WIa.alloc (.cells #[.bool true, .bool true, .bool true] 4 (0, 0)) = W8 at h0 ⊢
                generalize hbx : WIa.heap.size = bx at h0 ⊢
                have HI8 := Lib.hid (show InStep w p q _ D7 [.box bx #[.bool true, .bool true, .bool true] 4] W8 from ⟨wf, fl, l32, LL2, MM2, dm_in h0⟩)
                clear h0 hU hbx wf fl l32 hB HI
                have hfo := follows w W8 p q D7 [.box bx #[.bool true, .bool true, .bool true] 4] _ (opK 6 [true, true, true] (some ⟨bx, 0, none⟩) 3) (opK_fits 6 (by simp) (by simp) (fun h => by cases h)) (by omega) (fun W' h => ⟨Rd.nil _ _, Fd.nil _ _, bo3 (h.box 0 rfl)⟩) HI8.out
                unfold OpA.val opK at hfo
                simp only [List.length_nil] at hfo
                refine hfo.mono ?_
                rintro e W9 ⟨rfl, hI9⟩
                rw [act6] at hI9
                have hoff : (D7.crashD [true, true, true]).off = false := rfl
                have hps : (D7.crashD [true, true, true]).ps = [] := rfl
                obtain ⟨D9, hD9⟩ : ∃ D9, D7.crashD [true, true, true] = D9 := ⟨_, rfl⟩
                rw [hD9] at hI9 hoff hps
                have HI9 := Lib.hid hI9
                have HOff := Lib.hid hoff
                have HPs := Lib.hid hps
                clear hfo hI9 hD9 hoff hps HI8
                go_wp2_with fail
                obtain ⟨wf, fl, l32, LL, MM, hB⟩ := HI9.out
                refine (dkDurable w W9 p LL D9 _ _ wf hB).mono ?_
                rintro e WDb ⟨adb, cdb, he, hBd⟩
                rw [l32] at he
                subst he
                obtain ⟨gdb, rfl⟩ := hBd.mineSome 0 rfl (by rw [flat_len _ wf.sec, l32]; omega)
                have hcap := hBd.mineLe 0 rfl
                rw [flat_len _ wf.sec, l32] at hcap
                have HBd := Lib.hid (dm_swap (dm_in hBd))
                have HWF := Lib.hid wf
                have HFL := Lib.hid fl
                have HL32 := Lib.hid l32
                clear wf fl l32 hB hBd
                go_wp2_with fail
                refine (mkIs w WDb q MM D9.ls D9.ps _ (some ⟨gdb, 0, none⟩) cdb HWF.out.sec hcap (fun W' h => h.mineRd 10 rfl) HBd.out).mono ?_
                rintro e WIb ⟨rfl, hBi⟩
                clear HI9
                have HI9 := Lib.hid (show InStep w p q _ D9 _ WIb from ⟨HWF.out, HFL.out, HL32.out, LL, MM, (dm_out (dm_back hBi)).tail⟩)
                clear hBi HBd hcap HWF HFL HL32
                go_wp2_with fail
                obtain ⟨wf, fl, l32, LL3, MM3, hB⟩ := HI9.out
                refine (dkPending w WIb p LL3 D9 _ _ wf (by omega) hB).mono ?_
                rintro e WPc ⟨vp, gs, rfl, hBp⟩
                obtain ⟨a1, k1, rfl, _⟩ := pdl_pd (n := 0) (by rw [HPs.out]; rfl) (fun p hp => (wf.at_ p hp).2) (by rw [HPs.out] at hBp ⊢; exact hBp)
                have HBp := Lib.hid hBp.tail.tail
                clear wf fl l32 hB hBp HI9
                go_wp2_with fail
                refine (dkPower HBp.out).mono ?_
                rintro e w' ⟨he, hw⟩
                obtain rfl := hw
                rw [HOff.out] at he
                subst he
                go_wp2_with fail
                go_ret
                exact ⟨rfl, HBp.out.below⟩
end Go.Proofs.Ytkndlpihhfjcpaa
