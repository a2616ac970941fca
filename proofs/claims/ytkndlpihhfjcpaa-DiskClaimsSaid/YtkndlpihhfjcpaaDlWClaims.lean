/- The walk of DiskClaims. -/
import Derived.Test.YtkndlpihhfjcpaaDlArgs
namespace Go.Proofs.Ytkndlpihhfjcpaa
open Go.RowKit
theorem readD_claim (D : Dk) (i : Int) : (D.readD i).claim = D.claim := by unfold Dk.readD; split; exact D.opD_claim; rfl
theorem writeD_claim (D : Dk) (i : Int) (b : List (BitVec 8)) : (D.writeD i b).claim = D.claim := by
  unfold Dk.writeD
  split
  · split
    · split
      · exact D.opD_claim
      · exact D.opD_claim
    · rfl
  · rfl
theorem flushD_claim (D : Dk) : D.flushD.claim = D.claim := by unfold Dk.flushD; split; exact D.opD_claim; exact D.opD_claim
theorem armD_claim (D : Dk) (l : List (Int × Int)) : (D.armD l).claim = D.claim := by unfold Dk.armD; split <;> rfl
theorem act_claim (D : Dk) (k i : Int) (data : List (BitVec 8)) (fs : List (Int × Int)) (keep : List Bool) (h : ¬ k = 11) : (D.act k i data fs keep).claim = D.claim := by
  unfold Dk.act
  by_cases h1 : k = 1
  · rw [if_pos h1]; exact readD_claim D _
  rw [if_neg h1]
  by_cases h2 : k = 2
  · rw [if_pos h2]; exact writeD_claim D _ _
  rw [if_neg h2]
  by_cases h3 : k = 3
  · rw [if_pos h3]; exact writeD_claim D _ _
  rw [if_neg h3]
  by_cases h4 : k = 4
  · rw [if_pos h4]; exact flushD_claim D
  rw [if_neg h4]
  by_cases h5 : k = 5
  · rw [if_pos h5]; exact armD_claim D _
  rw [if_neg h5]
  by_cases h6 : k = 6
  · rw [if_pos h6]; rfl
  rw [if_neg h6, if_neg h]
set_option maxRecDepth 100000 in
set_option maxHeartbeats 4000000 in
theorem lawDiskClaims (l : List OpA) (ao : Option Addr) (n cap : Nat) (w : World) (hn : l.length = n) (hn1 : n ≤ 140737488351232) (hr : Oa w ao l) :
   Calls Try.prog 4 #[.slice ao n cap] w fun e w' => e = .returned (.bool true) ∧ Below w.heap.size w w' := by
  have HR := Lib.hid (fun (w' : World) (hb : Below w.heap.size w w') => hr.on hb)
  have HN := Lib.hid hn
  clear hr hn
  go_enter Try.func4, Try.ntmps4
  go_wp2_with fail
  refine (dlFirst w).mono ?_
  rintro e W1 ⟨rfl, hb⟩
  have HB1 := Lib.hid ((Bag.start w).call hb)
  clear hb
  go_wp2_with fail
  refine (dkNew 32 W1 (by omega) (by omega)).mono ?_
  rintro e W2 ⟨p, L, rfl, hB⟩
  have HB := Lib.hid (HB1.out.join hB)
  clear hB HB1
  go_wp2_with fail
  have h0 := HB.out.alloc #[.slice none 0 0, .slice none 0 0, .slice none 0 0, .slice none 0 0, .slice none 0 0, .slice none 0 0, .slice none 0 0, .slice none 0 0, .slice none 0 0, .slice none 0 0, .slice none 0 0, .slice none 0 0, .slice none 0 0, .slice none 0 0, .slice none 0 0, .slice none 0 0, .slice none 0 0, .slice none 0 0, .slice none 0 0, .slice none 0 0, .slice none 0 0, .slice none 0 0, .slice none 0 0, .slice none 0 0, .slice none 0 0, .slice none 0 0, .slice none 0 0, .slice none 0 0, .slice none 0 0, .slice none 0 0, .slice none 0 0, .slice none 0 0, .slice none 0 0] 41
  generalize hU : W2.alloc (.cells #[.slice none 0 0, .slice none 0 0, .slice none 0 0, .slice none 0 0, .slice none 0 0, .slice none 0 0, .slice none 0 0, .slice none 0 0, .slice none 0 0, .slice none 0 0, .slice none 0 0, .slice none 0 0, .slice none 0 0, .slice none 0 0, .slice none 0 0, .slice none 0 0, .slice none 0 0, .slice none 0 0, .slice none 0 0, .slice none 0 0, .slice none 0 0, .slice none 0 0, .slice none 0 0, .slice none 0 0, .slice none 0 0, .slice none 0 0, .slice none 0 0, .slice none 0 0, .slice none 0 0, .slice none 0 0, .slice none 0 0, .slice none 0 0, .slice none 0 0] 41 (0, 0)) = U at h0 ⊢
  generalize hq : W2.heap.size = q at h0 ⊢
  have HI := Lib.hid (born_in (n := 0) h0)
  clear h0 hU hq HB
  go_loopw [6, 7] (fun a t wr => ∃ (j : Nat) (D : Dk), j ≤ 300 ∧ j ≤ n ∧ t = .int .i64 j ∧ a = .int .i64 (D.claim : Nat) ∧ InStep w p q j D [] wr) (fun _ t _ => 300 - (intOf t).toNat)
  case atStart => exact ⟨0, Dk.new 32, by omega, by omega, rfl, rfl, HI.out⟩
  case round =>
    obtain ⟨j, D, hj, hjn, rfl, rfl, hI⟩ := hrel
    clear HI
    have HI := Lib.hid hI
    obtain ⟨i1, i2, i3, L1, M1, hB⟩ := hI
    have hcl := i1.claims
    have HB := Lib.hid hB
    clear i1 i2 i3 hB
    by_cases hlt : j < n ∧ j < 300
    · obtain ⟨hln, hl3⟩ := hlt
      obtain ⟨A, hA⟩ : ∃ A, l[j]? = some A := ⟨l[j]'(by rw [HN.out]; exact hln), List.getElem?_eq_getElem _⟩
      obtain ⟨hf, _, _, _, b, o, rfl, c0, c1, c2, c3, c4, c5⟩ := HR.out wr HB.out.below j A hA
      have HF := Lib.hid hf
      have HA := Lib.hid hA
      have hj0 : (0 : Int) ≤ (j : Int) := by omega
      clear hf hA
      obtain ⟨cl, hcl'⟩ : ∃ c, D.claim = c := ⟨_, rfl⟩
      rw [hcl'] at hcl
      have HC := Lib.hid hcl'
      have hci : (0 : Int) ≤ (cl : Int) := by omega
      rw [hcl']
      clear hcl'
      by_cases hk : A.kind = 11
      · rw [hk] at c0
        go_wp2_with fail
        refine (dkClaim (by rw [HC.out]; omega) HB.out).mono ?_
        rintro e W3 ⟨rfl, hB3⟩
        have HI3 := Lib.hid (show InStep w p q (j + 1) D.claimD [] W3 from ⟨HI.out.1.take, HI.out.2.1, HI.out.2.2.1, L1, M1, hB3⟩)
        have HC3 := Lib.hid (show D.claimD.claim = cl + 1 by show D.claim + 1 = _; rw [HC.out])
        rw [HC3.out]
        have hcc : (((cl + 1 : Nat) : Int) != (cl : Int) + 1) = false := by rw [bne_eq_false_iff_eq]; omega
        clear hB3 HB c0 c1 c2 c3 c4 c5
        go_wp2_with fail
        go_roundw
        case rel => exact ⟨j + 1, D.claimD, by omega, by omega, by go_num, by rw [HC3.out]; go_num, HI3.out⟩
        case measure => simp [intOf]; omega
      · have hne : (A.kind == 11) = false := by rw [beq_eq_false_iff_ne]; exact hk
        have HCL := Lib.hid (act_claim D A.kind A.i A.data A.fs A.keep hk)
        have hfo := follows w wr p q D [] j A HF.out (by omega) (fun W' h => by obtain ⟨_, h1, h2, h3, _⟩ := HR.out W' h.below j A HA.out; exact ⟨h1, h2, h3⟩) HI.out
        unfold OpA.val at hfo
        clear hk
        go_wp2_with fail
        refine hfo.mono ?_
        rintro e W3 ⟨rfl, hI3⟩
        have HI3 := Lib.hid hI3
        obtain ⟨_, _, _, L3, M3, hB3⟩ := hI3
        obtain ⟨D3, hD3⟩ : ∃ D3, D.act A.kind A.i A.data A.fs A.keep = D3 := ⟨_, rfl⟩
        rw [hD3] at hB3 HI3 HCL
        have HB3 := Lib.hid hB3
        have HC3 := Lib.hid (show D3.claim = cl by rw [HCL.out, HC.out])
        clear hB3 hD3 HB hfo c0 c1 c2 c3 c4 c5
        go_wp2_with fail
        refine (dkClaimed HB3.out).mono ?_
        rintro e w' ⟨rfl, hw⟩
        obtain rfl := hw
        rw [HC3.out]
        go_wp2_with fail
        go_roundw
        case rel => exact ⟨j + 1, D3, by omega, by omega, by go_num, by rw [HC3.out], HI3.out⟩
        case measure => simp [intOf]; omega
    · have hjj : (j < n ∧ ¬ j < 300) ∨ ¬ j < n := by omega
      clear hlt
      rcases hjj with ⟨h1, h2⟩ | h1
      all_goals
        go_wp2_with fail
        refine (dkClaimed HB.out).mono ?_
        rintro e w' ⟨rfl, hw⟩
        obtain rfl := hw
        go_wp2_with fail
        go_ret
        exact ⟨rfl, HB.out.below⟩
end Go.Proofs.Ytkndlpihhfjcpaa
