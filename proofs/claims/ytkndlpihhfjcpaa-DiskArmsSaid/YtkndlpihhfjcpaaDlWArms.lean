/- The walk of DiskArms. -/
import Derived.Test.YtkndlpihhfjcpaaDlArmsP
import Derived.Test.YtkndlpihhfjcpaaDlFirst
import Derived.Deep.QuietTactic
import Derived.BigQuiet
namespace Go.Proofs.Ytkndlpihhfjcpaa
open Go.RowKit
theorem valK_cases {k : Int} (h : k = 1 ∨ k = 2) : (k = 1 ∧ valK k = 104) ∨ (k = 2 ∧ valK k = 103) := by
  rcases h with rfl | rfl
  · exact Or.inl ⟨rfl, rfl⟩
  · exact Or.inr ⟨rfl, rfl⟩
set_option maxRecDepth 100000 in
set_option maxHeartbeats 8000000 in
theorem lawDiskArms (l l2 : List (Int × Int)) (count : Int) (ao ao2 : Option Addr) (n c n2 c2 : Nat) (w : World) (hn : l.length = n) (hn2 : l2.length = n2) (hb1 : n ≤ 8796093022000) (hb2 : n2 ≤ 8796093022000) (hc1 : n ≤ c) (hc2 : n2 ≤ c2) (ha1 : ao = none → c = 0) (ha2 : ao2 = none → c2 = 0)
   (hi0 : -9223372036854775808 ≤ count) (hi1 : count ≤ 9223372036854775807) (hr : Fd w ao l) (hr2 : Fd w ao2 l2) :
   Calls Try.prog 3 #[.slice ao n c, .int .i64 count, .slice ao2 n2 c2] w fun e w' => e = .returned (.bool true) ∧ Below w.heap.size w w' := by
  have HR := Lib.hid (fun (w' : World) (hb : Below w.heap.size w w') => hr.on hb)
  have HR2 := Lib.hid (fun (w' : World) (hb : Below w.heap.size w w') => hr2.on hb)
  have HN := Lib.hid hn
  have HN2 := Lib.hid hn2
  have HA1 := Lib.hid ha1
  have HA2 := Lib.hid ha2
  clear hr hr2 hn hn2 ha1 ha2
  go_enter Try.func3, Try.ntmps3
  go_wp2_with fail
  refine (dlFirst w).mono ?_
  rintro e W1 ⟨rfl, hb⟩
  have HB1 := Lib.hid ((Bag.start w).call hb)
  clear hb
  go_wp2_with fail
  refine (dkNew 32 W1 (by omega) (by omega)).mono ?_
  rintro e W2 ⟨p, L, rfl, hB⟩
  have HB := Lib.hid (disk_iff.1 (HB1.out.join hB))
  clear hB HB1
  go_wp2_with fail
  refine (dkArm w W2 p L (Dk.new 32) _ ao l n c HN.out hb1 hc1 HA1.out (fun W' D' h => HR.out W' h.below) HB.out).mono ?_
  rintro e W3 ⟨L2, rfl, hB⟩
  obtain ⟨ea, hea⟩ : ∃ x, (Dk.new 32).armE l = x := ⟨_, rfl⟩
  rw [hea]
  have HE := Lib.hid (show ea = if Dk.armOk l then 0 else 105 by rw [← hea]; unfold Dk.armE; rfl)
  clear HB hea
  have HB := Lib.hid hB
  clear hB
  go_wp2_with fail
  go_loopw [10, 11] (fun bd t wr => ∃ (j : Nat) (b : Bool), j ≤ n ∧ t = .int .i64 j ∧ bd = .bool b ∧ (b = true → Dk.armOk l = false) ∧ (b = false → n ≤ 200 → (List.range j).all (armGood l) = true) ∧ Bag w wr (dkl p L2 ((Dk.new 32).armD l) [])) (fun _ t _ => n - (intOf t).toNat)
  case atStart => exact ⟨0, false, Nat.zero_le _, rfl, rfl, (fun h => by cases h), (fun _ _ => rfl), HB.out⟩
  case round =>
    obtain ⟨j, b, hj, rfl, rfl, hbt, hbf, hB⟩ := hrel
    clear HB
    have HB := Lib.hid hB
    have HT := Lib.hid hbt
    have HF := Lib.hid hbf
    clear hB hbt hbf
    by_cases hlt : j < n
    · obtain ⟨⟨a, k⟩, hf⟩ : ∃ f, l[j]? = some f := ⟨l[j]'(by rw [HN.out]; exact hlt), List.getElem?_eq_getElem _⟩
      obtain ⟨b0, o0, rfl, x1, x2⟩ := HR.out wr HB.out.below j (a, k) hf
      simp only at x1 x2
      have HFJ := Lib.hid hf
      clear hf
      cases b with
      | true =>
        have HNO := Lib.hid (HT.out rfl)
        go_wp2_with fail
        obtain ⟨wo, hwo⟩ : ∃ wo : World, wr = wo := ⟨_, rfl⟩
        rw [hwo] at HB ⊢
        clear hwo x1 x2
        go_loopw [10, 12] (fun bd t wj => t = .int .i64 0 ∧ bd = .bool true ∧ Bag w wj (dkl p L2 ((Dk.new 32).armD l) [])) (fun _ _ _ => 0)
        case atStart => exact ⟨rfl, rfl, HB.out⟩
        case round =>
          obtain ⟨rfl, rfl, hB⟩ := hrel
          clear HB
          have HB := Lib.hid hB
          clear hB
          go_wp2_with fail
          all_goals
            go_roundw
            case rel => exact ⟨j + 1, true, by omega, by go_num, rfl, (fun _ => HNO.out), (fun h => by cases h), HB.out⟩
            case measure => simp [intOf]; omega
      | false =>
        have HF0 := Lib.hid (HF.out rfl)
        clear HF
        by_cases h1 : a < 1
        · have HNO := Lib.hid (armOk_no (by rw [HN.out]; exact hlt) (armGood_lo HFJ.out h1))
          go_wp2_with fail
          obtain ⟨wo, hwo⟩ : ∃ wo : World, wr = wo := ⟨_, rfl⟩
          rw [hwo] at HB ⊢
          clear hwo x1 x2
          go_loopw [10, 12] (fun bd t wj => t = .int .i64 0 ∧ bd = .bool true ∧ Bag w wj (dkl p L2 ((Dk.new 32).armD l) [])) (fun _ _ _ => 0)
          case atStart => exact ⟨rfl, rfl, HB.out⟩
          case round =>
            obtain ⟨rfl, rfl, hB⟩ := hrel
            clear HB
            have HB := Lib.hid hB
            clear hB
            go_wp2_with fail
            all_goals
              go_roundw
              case rel => exact ⟨j + 1, true, by omega, by go_num, rfl, (fun _ => HNO.out), (fun h => by cases h), HB.out⟩
              case measure => simp [intOf]; omega
        · by_cases h2 : k < 1
          · have HNO := Lib.hid (armOk_no (by rw [HN.out]; exact hlt) (armGood_kind HFJ.out (by omega) (by omega)))
            go_wp2_with fail
            obtain ⟨wo, hwo⟩ : ∃ wo : World, wr = wo := ⟨_, rfl⟩
            rw [hwo] at HB ⊢
            clear hwo x1 x2
            go_loopw [10, 12] (fun bd t wj => t = .int .i64 0 ∧ bd = .bool true ∧ Bag w wj (dkl p L2 ((Dk.new 32).armD l) [])) (fun _ _ _ => 0)
            case atStart => exact ⟨rfl, rfl, HB.out⟩
            case round =>
              obtain ⟨rfl, rfl, hB⟩ := hrel
              clear HB
              have HB := Lib.hid hB
              clear hB
              go_wp2_with fail
              all_goals
                go_roundw
                case rel => exact ⟨j + 1, true, by omega, by go_num, rfl, (fun _ => HNO.out), (fun h => by cases h), HB.out⟩
                case measure => simp [intOf]; omega
          · by_cases h3 : 2 < k
            · have HNO := Lib.hid (armOk_no (by rw [HN.out]; exact hlt) (armGood_kind HFJ.out (by omega) (by omega)))
              go_wp2_with fail
              obtain ⟨wo, hwo⟩ : ∃ wo : World, wr = wo := ⟨_, rfl⟩
              rw [hwo] at HB ⊢
              clear hwo x1 x2
              go_loopw [10, 12] (fun bd t wj => t = .int .i64 0 ∧ bd = .bool true ∧ Bag w wj (dkl p L2 ((Dk.new 32).armD l) [])) (fun _ _ _ => 0)
              case atStart => exact ⟨rfl, rfl, HB.out⟩
              case round =>
                obtain ⟨rfl, rfl, hB⟩ := hrel
                clear HB
                have HB := Lib.hid hB
                clear hB
                go_wp2_with fail
                all_goals
                  go_roundw
                  case rel => exact ⟨j + 1, true, by omega, by go_num, rfl, (fun _ => HNO.out), (fun h => by cases h), HB.out⟩
                  case measure => simp [intOf]; omega
            · have HLO := Lib.hid (show 1 ≤ a by omega)
              have HKK := Lib.hid (show k = 1 ∨ k = 2 by omega)
              go_wp2_with fail
              obtain ⟨wo, hwo⟩ : ∃ wo : World, wr = wo := ⟨_, rfl⟩
              rw [hwo] at HB ⊢
              clear hwo x1 x2
              go_loopw [10, 12] (fun bd t wj => ∃ (q : Nat) (b2 : Bool), q ≤ j ∧ t = .int .i64 q ∧ bd = .bool b2 ∧ (b2 = true → Dk.armOk l = false) ∧ (b2 = false → ∀ i f, i < q → l[i]? = some f → f.1 ≠ a) ∧ Bag w wj (dkl p L2 ((Dk.new 32).armD l) [])) (fun _ t _ => j - (intOf t).toNat)
              case atStart => exact ⟨0, false, Nat.zero_le _, rfl, rfl, (fun h => by cases h), (fun _ i f h => absurd h (Nat.not_lt_zero i)), HB.out⟩
              case round =>
                obtain ⟨q, b2, hq, rfl, rfl, hbt, hbf, hB⟩ := hrel
                clear HB
                have HB := Lib.hid hB
                have HT2 := Lib.hid hbt
                have HF2 := Lib.hid hbf
                clear hB hbt hbf
                cases b2 with
                | true =>
                  have HNO := Lib.hid (HT2.out rfl)
                  have hqq : (q < j ∧ j < 200) ∨ (q < j ∧ ¬ j < 200) ∨ ¬ q < j := by omega
                  rcases hqq with ⟨g1, g2⟩ | ⟨g1, g2⟩ | g1
                  all_goals
                    go_wp2_with fail
                    go_roundw
                    case rel => exact ⟨j + 1, true, by omega, by go_num, rfl, (fun _ => HNO.out), (fun h => by cases h), HB.out⟩
                    case measure => simp [intOf]; omega
                | false =>
                  have HF3 := Lib.hid (HF2.out rfl)
                  clear HF2
                  by_cases hqj : q < j ∧ j < 200
                  · obtain ⟨g1, g2⟩ := hqj
                    obtain ⟨⟨a2, k2⟩, hf2⟩ : ∃ f, l[q]? = some f := ⟨l[q]'(by rw [HN.out]; omega), List.getElem?_eq_getElem _⟩
                    obtain ⟨b3, o3, hbo, y1, _⟩ := HR.out wr HB.out.below q (a2, k2) hf2
                    simp only [Option.some.injEq, Addr.mk.injEq, and_true] at hbo
                    obtain ⟨rfl, rfl⟩ := hbo
                    obtain ⟨b3, o3, hbo, y2, _⟩ := HR.out wr HB.out.below j (a, _) HFJ.out
                    simp only [Option.some.injEq, Addr.mk.injEq, and_true] at hbo
                    obtain ⟨rfl, rfl⟩ := hbo
                    simp only at y1 y2
                    have HFQ := Lib.hid hf2
                    clear hf2
                    by_cases haa : a2 = a
                    · subst haa
                      have HNO := Lib.hid (armOk_no (by rw [HN.out]; exact hlt) (armGood_twice HFJ.out HFQ.out g1))
                      go_wp2_with fail
                      go_quiet (fail)
                      go_wp2_with fail
                      go_roundw
                      case rel => exact ⟨q + 1, true, by omega, by go_num, by simp, (fun _ => HNO.out), (fun h => by cases h), HB.out.drewN _⟩
                      case measure => simp [intOf]; omega
                    · have hne : (a2 == a) = false := by rw [beq_eq_false_iff_ne]; exact haa
                      have HNE := Lib.hid haa
                      clear haa
                      go_wp2_with fail
                      go_quiet (fail)
                      go_wp2_with fail
                      go_roundw
                      case rel =>
                        refine ⟨q + 1, false, by omega, by go_num, rfl, (fun h => by cases h), (fun _ i f hi hif => ?_), HB.out.drewN _⟩
                        by_cases hiq : i = q
                        · subst hiq
                          rw [HFQ.out] at hif
                          cases hif
                          exact HNE.out
                        · exact HF3.out i f (by omega) hif
                      case measure => simp [intOf]; omega
                  · have hqq : (q < j ∧ ¬ j < 200) ∨ ¬ q < j := by omega
                    have HG := Lib.hid (fun (hn2 : n ≤ 200) => armAll_succ (HF0.out hn2) (armGood_yes HFJ.out HLO.out HKK.out (fun i f hi => HF3.out i f (by omega))))
                    clear hqj
                    rcases hqq with ⟨g1, g2⟩ | g1
                    all_goals
                      go_wp2_with fail
                      go_roundw
                      case rel => exact ⟨j + 1, false, by omega, by go_num, rfl, (fun h => by cases h), (fun _ h => HG.out h), HB.out⟩
                      case measure => simp [intOf]; omega
    · obtain rfl : j = n := by omega
      clear hlt
      by_cases h200 : 200 < j
      · have h2' : (200 : Int) < (j : Int) := by omega
        go_wp2_with fail
        go_ret
        exact ⟨rfl, HB.out.below⟩
      · cases b with
        | true =>
          have HE5 := Lib.hid (show ea = 105 by rw [HE.out, HT.out rfl]; rfl)
          rw [HE5.out]
          go_wp2_with (go_at_call 13; refine (numOf _ _).mono ?_; rintro e w' ⟨rfl, rfl⟩)
          go_ret
          exact ⟨rfl, HB.out.below⟩
        | false =>
          have hok : Dk.armOk l = true := by rw [armOk_def, HN.out]; exact HF.out rfl (by omega)
          have HE0 := Lib.hid (show ea = 0 by rw [HE.out, hok]; rfl)
          have HOK := Lib.hid hok
          rw [HE0.out]
          have hD : (Dk.new 32).armD l = { Dk.new 32 with fs := l, done := 0 } := by
            unfold Dk.armD Dk.armE
            rw [hok]
            rfl
          have hA0 : Arms ((Dk.new 32).armD l) l true 0 := by rw [hD]; exact ⟨rfl, rfl, rfl, rfl⟩
          have hw0 : ((Dk.new 32).armD l).Wf 0 := (Dk.Wf.new 32 0 (by omega) (by omega)).arm l
          obtain ⟨D0, hD0⟩ : ∃ D0, (Dk.new 32).armD l = D0 := ⟨_, rfl⟩
          rw [hD0] at hA0 hw0 HB
          have HA0 := Lib.hid hA0
          have HW0 := Lib.hid hw0
          have hj8 : j ≤ 200 := by omega
          have HKD := Lib.hid (Dk.armOk_kinds hok)
          clear hok hD hA0 hw0 hD0 HT HF h200
          go_wp2_with (go_at_call 13; refine (numOf _ _).mono ?_; rintro e w' ⟨rfl, rfl⟩)
          go_loopw [13, 14, 15] (fun ov dv iv wr => ∃ (i : Nat) (on : Bool) (dn : Nat) (D : Dk) (L3 : Lay), 1 ≤ i ∧ i ≤ 61 ∧ iv = .int .i64 i ∧ ov = .bool on ∧ dv = .int .i64 dn ∧ (on = true → dn + 1 = i) ∧ dn + 1 ≤ i ∧ Arms D l on dn ∧ D.Wf i ∧ Bag w wr (dkl p L3 D [])) (fun _ _ iv _ => 61 - (intOf iv).toNat)
          case atStart => exact ⟨1, true, 0, D0, L2, by omega, by omega, rfl, rfl, rfl, (fun _ => rfl), by omega, HA0.out, HW0.out.mono (by omega), HB.out⟩
          case round =>
            obtain ⟨i, on, dn, D, L3, hi1', hi61, rfl, rfl, rfl, hdn, hdi, hA, hW, hB⟩ := hrel
            clear HB
            have HB := Lib.hid hB
            have HAr := Lib.hid hA
            have HWf := Lib.hid hW
            have HDN := Lib.hid hdn
            clear hA hW hB hdn
            by_cases hgo : (i : Int) ≤ count ∧ i ≤ 60
            · obtain ⟨hg1, hg2⟩ := hgo
              go_wp2_with fail
              go_loop [16, 17] (fun x t => ∃ (q : Nat) (z : Int), q ≤ j ∧ t = .int .i64 q ∧ x = .int .i64 z ∧ WantQ l i q z) (fun _ t => j - (intOf t).toNat)
              case atStart => exact ⟨0, 0, Nat.zero_le _, rfl, rfl, wantQ_zero l i⟩
              case round =>
                obtain ⟨q, z, hq, rfl, rfl, hwq⟩ := hrel
                have HQ := Lib.hid hwq
                clear hwq
                by_cases hqj : q < j
                · obtain ⟨⟨a, k⟩, hf⟩ : ∃ f, l[q]? = some f := ⟨l[q]'(by rw [HN.out]; exact hqj), List.getElem?_eq_getElem _⟩
                  obtain ⟨b0, o0, rfl, x1, x2⟩ := HR.out wr HB.out.below q (a, k) hf
                  simp only at x1 x2
                  have hk := HKD.out (a, k) (List.mem_of_getElem? hf)
                  simp only at hk
                  have HF := Lib.hid hf
                  clear hf
                  by_cases hai : a = i
                  · have HW := Lib.hid (wantQ_hit (i := i) HF.out hai)
                    subst hai
                    rcases hk with rfl | rfl
                    · go_wp2_with fail
                      go_round
                      case rel => exact ⟨q + 1, 104, by omega, by go_num, rfl, HW.out⟩
                      case measure => simp [intOf]; omega
                    · go_wp2_with fail
                      go_round
                      case rel => exact ⟨q + 1, 103, by omega, by go_num, rfl, HW.out⟩
                      case measure => simp [intOf]; omega
                  · have HW := Lib.hid (wantQ_miss HQ.out HF.out hai)
                    have hne : (a == (i : Int)) = false := by rw [beq_eq_false_iff_ne]; exact hai
                    clear hai hk
                    go_wp2_with fail
                    go_round
                    case rel => exact ⟨q + 1, z, by omega, by go_num, rfl, HW.out⟩
                    case measure => simp [intOf]; omega
                · obtain rfl : q = j := by omega
                  have HZ := Lib.hid (wantQ_all HN.out HOK.out HQ.out)
                  cases on with
                  | false =>
                    have HA1' := arms_e HAr.out
                    have HOE := Lib.hid (show D.opE = 104 by rw [HA1']; rfl)
                    have HAF2 := Lib.hid (show Arms D.flushD l false dn from arms_flush HAr.out)
                    have HFS := Lib.hid (show D.fs.length = q by rw [HAr.out.fs, HN.out])
                    have HPo := Lib.hid (show (!D.flushD.off) = false by rw [HAF2.out.off]; rfl)
                    have HDo := Lib.hid (show ((D.flushD.done : Nat) : Int) = (dn : Int) by rw [HAF2.out.done])
                    clear HA1'
                    go_wp2_with fail
                    refine (dkFlush w wr p L3 D _ i HWf.out (by omega) (by rw [HFS.out]; omega) HB.out).mono ?_
                    rintro e W5 ⟨L4, he, hB5⟩
                    rw [HOE.out] at he
                    subst he
                    have HB5 := Lib.hid hB5
                    clear hB5 HB
                    go_wp2_with fail
                    refine (numOf _ _).mono ?_
                    rintro e w' ⟨rfl, rfl⟩
                    go_wp2_with fail
                    refine (dkPower HB5.out).mono ?_
                    rintro e w' ⟨he, hw⟩
                    obtain rfl := hw
                    rw [HPo.out] at he
                    subst he
                    go_wp2_with fail
                    refine (dkDone HB5.out).mono ?_
                    rintro e w' ⟨he, hw⟩
                    obtain rfl := hw
                    rw [HDo.out] at he
                    subst he
                    go_wp2_with fail
                    go_roundw
                    case rel => exact ⟨i + 1, false, dn, D.flushD, L4, by omega, by omega, by go_num, rfl, rfl, (fun h => by cases h), by omega, HAF2.out, HWf.out.flush, HB5.out⟩
                    case measure => simp [intOf]; omega
                  | true =>
                    have hdi2 := HDN.out rfl
                    have HZ2 := Lib.hid (show z = valK (Dk.kindAt l ((dn + 1 : Nat) : Int)) by rw [hdi2]; exact HZ.out)
                    have HOE := Lib.hid (show D.opE = z by rw [arms_e HAr.out, HZ2.out]; rfl)
                    have HFS := Lib.hid (show D.fs.length = q by rw [HAr.out.fs, HN.out])
                    have HAF := Lib.hid (arms_flush HAr.out)
                    by_cases hz1 : Dk.kindAt l ((dn + 1 : Nat) : Int) = 1
                    · obtain rfl : z = 104 := by rw [HZ2.out, hz1]; rfl
                      have HAF2 := Lib.hid (show Arms D.flushD l false (dn + 1) by have h := HAF.out; rw [hz1] at h; exact h)
                      have HPo := Lib.hid (show (!D.flushD.off) = false by rw [HAF2.out.off]; rfl)
                      have HDo := Lib.hid (show ((D.flushD.done : Nat) : Int) = (dn : Int) + 1 by rw [HAF2.out.done]; rfl)
                      clear hz1
                      go_wp2_with fail
                      refine (dkFlush w wr p L3 D _ i HWf.out (by omega) (by rw [HFS.out]; omega) HB.out).mono ?_
                      rintro e W5 ⟨L4, he, hB5⟩
                      rw [HOE.out] at he
                      subst he
                      have HB5 := Lib.hid hB5
                      clear hB5 HB
                      go_wp2_with fail
                      refine (numOf _ _).mono ?_
                      rintro e w' ⟨rfl, rfl⟩
                      go_wp2_with fail
                      refine (dkPower HB5.out).mono ?_
                      rintro e w' ⟨he, hw⟩
                      obtain rfl := hw
                      rw [HPo.out] at he
                      subst he
                      go_wp2_with fail
                      refine (dkDone HB5.out).mono ?_
                      rintro e w' ⟨he, hw⟩
                      obtain rfl := hw
                      rw [HDo.out] at he
                      subst he
                      go_wp2_with fail
                      go_roundw
                      case rel => exact ⟨i + 1, false, dn + 1, D.flushD, L4, by omega, by omega, by go_num, rfl, by go_num, (fun h => by cases h), by omega, HAF2.out, HWf.out.flush, HB5.out⟩
                      case measure => simp [intOf]; omega
                    · have hz4 : (z != 104) = true := by
                        rw [bne_iff_ne, HZ2.out]
                        unfold valK
                        rw [if_neg hz1]
                        split <;> decide
                      have HAF2 := Lib.hid (show Arms D.flushD l true (dn + 1) by have h := HAF.out; rw [decide_eq_true hz1] at h; exact h)
                      have HPo := Lib.hid (show (!D.flushD.off) = true by rw [HAF2.out.off]; rfl)
                      have HDo := Lib.hid (show ((D.flushD.done : Nat) : Int) = (dn : Int) + 1 by rw [HAF2.out.done]; rfl)
                      have hzz : (z != z) = false := by simp
                      clear hz1
                      go_wp2_with fail
                      refine (dkFlush w wr p L3 D _ i HWf.out (by omega) (by rw [HFS.out]; omega) HB.out).mono ?_
                      rintro e W5 ⟨L4, he, hB5⟩
                      rw [HOE.out] at he
                      subst he
                      have HB5 := Lib.hid hB5
                      clear hB5 HB
                      go_wp2_with fail
                      refine (numOf _ _).mono ?_
                      rintro e w' ⟨rfl, rfl⟩
                      go_wp2_with fail
                      refine (dkPower HB5.out).mono ?_
                      rintro e w' ⟨he, hw⟩
                      obtain rfl := hw
                      rw [HPo.out] at he
                      subst he
                      go_wp2_with fail
                      refine (dkDone HB5.out).mono ?_
                      rintro e w' ⟨he, hw⟩
                      obtain rfl := hw
                      rw [HDo.out] at he
                      subst he
                      go_wp2_with fail
                      go_roundw
                      case rel => exact ⟨i + 1, true, dn + 1, D.flushD, L4, by omega, by omega, by go_num, rfl, by go_num, (fun _ => by omega), by omega, HAF2.out, HWf.out.flush, HB5.out⟩
                      case measure => simp [intOf]; omega
            · skip
              have hee : ((i : Int) ≤ count ∧ ¬ i ≤ 60) ∨ ¬ (i : Int) ≤ count := by omega
              have HFS := Lib.hid (show D.fs.length ≤ 10000000000000 by rw [HAr.out.fs, HN.out]; omega)
              clear hgo
              rcases hee with ⟨e1, e2⟩ | e1
              all_goals
                go_wp2_with fail
                refine (dkArm w wr p L3 D _ ao2 l2 n2 c2 HN2.out hb2 hc2 HA2.out (fun W' D' h => HR2.out W' h.below) HB.out).mono ?_
                rintro e W5 ⟨L4, he, hB5⟩
                by_cases h0 : D.armE l2 = 0
                · rw [h0] at he
                  subst he
                  have hoff : D.off = false := by
                    unfold Dk.armE at h0
                    split at h0
                    · split at h0
                      · cases h0
                      · rename_i h; simpa using h
                    · cases h0
                  have hon : on = true := by
                    have := HAr.out.off
                    rw [hoff] at this
                    simpa using this.symm
                  subst hon
                  have HD0 := Lib.hid (show (D.armD l2).done = 0 by unfold Dk.armD; rw [if_pos h0])
                  have HB5 := Lib.hid hB5
                  clear hB5 HB hoff h0
                  go_wp2_with fail
                  refine (numOf _ _).mono ?_
                  rintro e w' ⟨rfl, rfl⟩
                  go_wp2_with fail
                  refine (dkDone HB5.out).mono ?_
                  rintro e w' ⟨he, hw⟩
                  obtain rfl := hw
                  rw [HD0.out] at he
                  obtain rfl : e = .returned (.int .i64 0) := he
                  go_wp2_with fail
                  go_ret
                  exact ⟨rfl, HB5.out.below⟩
                · have hne : (D.armE l2 == 0) = false := by rw [beq_eq_false_iff_ne]; exact h0
                  have hD : D.armD l2 = D := by unfold Dk.armD; rw [if_neg h0]
                  rw [hD] at hB5
                  obtain ⟨ee, hee⟩ : ∃ x, D.armE l2 = x := ⟨_, rfl⟩
                  rw [hee] at he hne
                  subst he
                  have HB5 := Lib.hid hB5
                  clear hB5 HB h0 hD hee
                  go_wp2_with fail
                  refine (numOf _ _).mono ?_
                  rintro e w' ⟨rfl, rfl⟩
                  go_wp2_with fail
                  refine (dkDone HB5.out).mono ?_
                  rintro e w' ⟨he, hw⟩
                  obtain rfl := hw
                  rw [HAr.out.done] at he
                  subst he
                  go_wp2_with fail
                  refine (dkCrash w W5 p L4 D _ i none [] 0 0 rfl (by omega) HWf.out (by omega) (fun W' D' _ => Bo.nil _ _) HB5.out).mono ?_
                  rintro e W6 ⟨L5, v, rfl, hB6⟩
                  have HB6 := Lib.hid hB6
                  clear hB6 HB5
                  go_wp2_with fail
                  refine (dkDone HB6.out).mono ?_
                  rintro e w' ⟨he, hw⟩
                  obtain rfl := hw
                  obtain rfl : e = .returned (.int .i64 0) := he
                  go_wp2_with fail
                  refine (dkFlush w W6 p L5 (D.crashD []) _ i (HWf.out.crash []) (by omega) (by simp [Dk.crashD]) HB6.out).mono ?_
                  rintro e W7 ⟨L6, he, hB7⟩
                  have ho : (D.crashD []).opE = 0 := by simp [Dk.opE, Dk.crashD, Dk.kindAt]
                  have hp : (!(D.crashD []).flushD.off) = true := by
                    unfold Dk.flushD
                    rw [if_pos ho]
                    simp [Dk.opD, Dk.crashD, Dk.kindAt]
                  rw [ho] at he
                  subst he
                  have HB7 := Lib.hid hB7
                  have HPP := Lib.hid hp
                  clear hB7 HB6 ho hp
                  go_wp2_with fail
                  refine (dkPower HB7.out).mono ?_
                  rintro e w' ⟨he, hw⟩
                  obtain rfl := hw
                  rw [HPP.out] at he
                  subst he
                  go_wp2_with fail
                  refine (numOf _ _).mono ?_
                  rintro e w' ⟨rfl, rfl⟩
                  go_wp2_with fail
                  go_ret
                  exact ⟨rfl, HB7.out.below⟩
end Go.Proofs.Ytkndlpihhfjcpaa
