/- The walk of DiskLasts. -/
import Derived.Test.YtkndlpihhfjcpaaDlSameP
namespace Go.Proofs.Ytkndlpihhfjcpaa
open Go.RowKit
set_option maxRecDepth 100000 in
set_option maxHeartbeats 4000000 in
theorem lawDiskLasts (l : List OpA) (ao : Option Addr) (n cap : Nat) (w : World) (hn : l.length = n) (hn1 : n ≤ 140737488351232) (hr : Oa w ao l) :
   Calls Try.prog 5 #[.slice ao n cap] w fun e w' => e = .returned (.bool true) ∧ Below w.heap.size w w' := by
  have HR := Lib.hid (fun (w' : World) (hb : Below w.heap.size w w') => hr.on hb)
  have HN := Lib.hid hn
  clear hr hn
  go_enter Try.func5, Try.ntmps5
  go_wp2_with fail
  refine (dlFirst w).mono ?_
  rintro e W1 ⟨rfl, hb⟩
  have HB1 := Lib.hid ((Bag.start w).call hb)
  clear hb
  go_wp2_with fail
  refine (dkNew 32 W1 (by omega) (by omega)).mono ?_
  rintro e W2 ⟨p, L, rfl, hB⟩
  have HB := Lib.hid (HB1.out.join hB)
  clear hB HB1
  go_wp2_with fail
  have h0 := HB.out.alloc #[.slice none 0 0, .slice none 0 0, .slice none 0 0, .slice none 0 0, .slice none 0 0, .slice none 0 0, .slice none 0 0, .slice none 0 0, .slice none 0 0, .slice none 0 0, .slice none 0 0, .slice none 0 0, .slice none 0 0, .slice none 0 0, .slice none 0 0, .slice none 0 0, .slice none 0 0, .slice none 0 0, .slice none 0 0, .slice none 0 0, .slice none 0 0, .slice none 0 0, .slice none 0 0, .slice none 0 0, .slice none 0 0, .slice none 0 0, .slice none 0 0, .slice none 0 0, .slice none 0 0, .slice none 0 0, .slice none 0 0, .slice none 0 0, .slice none 0 0] 41
  generalize hU : W2.alloc (.cells #[.slice none 0 0, .slice none 0 0, .slice none 0 0, .slice none 0 0, .slice none 0 0, .slice none 0 0, .slice none 0 0, .slice none 0 0, .slice none 0 0, .slice none 0 0, .slice none 0 0, .slice none 0 0, .slice none 0 0, .slice none 0 0, .slice none 0 0, .slice none 0 0, .slice none 0 0, .slice none 0 0, .slice none 0 0, .slice none 0 0, .slice none 0 0, .slice none 0 0, .slice none 0 0, .slice none 0 0, .slice none 0 0, .slice none 0 0, .slice none 0 0, .slice none 0 0, .slice none 0 0, .slice none 0 0, .slice none 0 0, .slice none 0 0, .slice none 0 0] 41 (0, 0)) = U at h0 ⊢
  generalize hq : W2.heap.size = q at h0 ⊢
  have HI := Lib.hid (born_in (n := 0) h0)
  clear h0 hU hq HB
  go_loopw [6] (fun t wr => ∃ (j : Nat) (D : Dk), j ≤ 300 ∧ j ≤ n ∧ t = .int .i64 j ∧ InStep w p q j D [] wr) (fun t _ => 300 - (intOf t).toNat)
  case atStart => exact ⟨0, Dk.new 32, by omega, by omega, rfl, HI.out⟩
  case round =>
    obtain ⟨j, D, hj, hjn, rfl, hI⟩ := hrel
    clear HI
    have HI := Lib.hid hI
    have hbl : Below w.heap.size w wr := by obtain ⟨_, _, _, L1, M1, hB⟩ := hI; exact hB.below
    have HBl := Lib.hid hbl
    clear hI hbl
    by_cases hlt : j < n ∧ j < 300
    · obtain ⟨hln, hl3⟩ := hlt
      obtain ⟨A, hA⟩ : ∃ A, l[j]? = some A := ⟨l[j]'(by rw [HN.out]; exact hln), List.getElem?_eq_getElem _⟩
      obtain ⟨hf, _, _, _, b, o, rfl, c0, c1, c2, c3, c4, c5⟩ := HR.out wr HBl.out j A hA
      have HA := Lib.hid hA
      have hj0 : (0 : Int) ≤ (j : Int) := by omega
      have hfo := follows w wr p q D [] j A hf (by omega) (fun W' h => by obtain ⟨_, h1, h2, h3, _⟩ := HR.out W' h.below j A HA.out; exact ⟨h1, h2, h3⟩) HI.out
      unfold OpA.val at hfo
      clear hf hA
      go_wp2_with fail
      refine hfo.mono ?_
      rintro e W3 ⟨rfl, hI3⟩
      obtain ⟨D3, hD3⟩ : ∃ D3, D.act A.kind A.i A.data A.fs A.keep = D3 := ⟨_, rfl⟩
      rw [hD3] at hI3
      have HI3 := Lib.hid hI3
      have hbl : Below w.heap.size w W3 := by obtain ⟨_, _, _, L1, M1, hB⟩ := hI3; exact hB.below
      clear c0 c1 c2 c3 c4 c5 hfo hD3 hI3 HI
      obtain ⟨_, _, _, _, b2, o2, hbo, c0, _⟩ := HR.out W3 hbl j A HA.out
      simp only [Option.some.injEq, Addr.mk.injEq, and_true] at hbo
      obtain ⟨rfl, rfl⟩ := hbo
      clear hbl
      by_cases hk : A.kind = 6 ∨ A.kind = 4
      · have hk' : A.kind = 6 ∨ (A.kind == 6) = false ∧ A.kind = 4 := by
          rcases hk with h | h
          · exact Or.inl h
          · exact Or.inr ⟨by rw [h]; rfl, h⟩
        clear hk
        rcases hk' with hk | ⟨_, hk⟩
        all_goals
          rw [hk] at c0
          go_wp2_with fail
          obtain ⟨wf, _, l32, LL, MM, hB⟩ := HI3.out
          refine (dkDurable w _ p LL D3 _ _ wf hB).mono ?_
          rintro e WDa ⟨ada, cda, he, hBd⟩
          rw [l32] at he
          subst he
          obtain ⟨gda, rfl⟩ := hBd.mineSome 0 rfl (by rw [flat_len _ wf.sec, l32]; omega)
          have hcap := hBd.mineLe 0 rfl
          rw [flat_len _ wf.sec, l32] at hcap
          have HBd := Lib.hid (dm_swap (dm_in hBd))
          have HWF := Lib.hid wf
          have HL32 := Lib.hid l32
          clear wf l32 hB hBd
          go_wp2_with fail
          refine (mkIs w WDa q MM D3.ls D3.ps _ (some ⟨gda, 0, none⟩) cda HWF.out.sec hcap (fun W' h => h.mineRd 10 rfl) HBd.out).mono ?_
          rintro e WIa ⟨rfl, hBi⟩
          have HBi := Lib.hid (dm_out (dm_back hBi)).tail
          clear hBi HBd hcap
          go_wp2_with fail
          go_roundw
          case rel => exact ⟨j + 1, D3, by omega, by omega, by go_num, HI3.out.1, HI3.out.2.1, HI3.out.2.2.1, LL, MM, HBi.out⟩
          case measure => simp [intOf]; omega
      · have n6 : (A.kind == 6) = false := by rw [beq_eq_false_iff_ne]; exact fun h => hk (Or.inl h)
        have n4 : (A.kind == 4) = false := by rw [beq_eq_false_iff_ne]; exact fun h => hk (Or.inr h)
        clear hk
        go_wp2_with fail
        go_roundw
        case rel => exact ⟨j + 1, D3, by omega, by omega, by go_num, HI3.out⟩
        case measure => simp [intOf]; omega
    · have hjj : (j < n ∧ ¬ j < 300) ∨ ¬ j < n := by omega
      clear hlt
      rcases hjj with ⟨h1, h2⟩ | h1
      all_goals
        go_wp2_with fail
        obtain ⟨wf, hfl, l32, L1, M1, hB⟩ := HI.out
        refine (dkPending w wr p L1 D _ j wf (by omega) hB).mono ?_
        rintro e W4 ⟨vp, gs, rfl, hBp⟩
        obtain ⟨s, hs⟩ : ∃ s, D.ps.length = s := ⟨_, rfl⟩
        rw [hs] at hBp
        have h5 : ∀ p ∈ D.ps, p.2.length = 512 := fun p hp => (wf.at_ p hp).2
        obtain ⟨a1, k1, rfl, P1⟩ := pdl_pd hs h5 hBp
        obtain ⟨a2, k2, hpv, P2⟩ := mkl_pd hs h5 (dm_swap hBp.tail.tail)
        have q32 := mkPends (dm_swap hBp.tail.tail)
        rw [hpv] at q32
        have HS := Lib.hid hs
        have hsj : s ≤ j := by rw [← hs]; exact wf.pend
        have HP1 := Lib.hid P1
        have HP2 := Lib.hid P2
        have HB4 := Lib.hid hBp.tail.tail
        have HWF0 := Lib.hid wf
        clear wf hB hBp hs h5 hpv P1 P2
        go_wp2_with fail
        refine (samePend a1 a2 D.ps s k1 k2 W4 HS.out (by omega) HP1.out HP2.out).mono ?_
        rintro e W5 ⟨rfl, hst⟩
        have HI5 := Lib.hid (show InStep w p q j D [] W5 from ⟨HWF0.out, hfl, l32, L1, M1, HB4.out.still hst⟩)
        clear hst q32 HB4 HI hfl l32
        go_wp2_with fail
        obtain ⟨wf, _, l32, LL, MM, hB⟩ := HI5.out
        refine (dkDurable w _ p LL D _ _ wf hB).mono ?_
        rintro e WDb ⟨adb, cdb, he, hBd⟩
        rw [l32] at he
        subst he
        obtain ⟨gdb, rfl⟩ := hBd.mineSome 0 rfl (by rw [flat_len _ wf.sec, l32]; omega)
        have hcap := hBd.mineLe 0 rfl
        rw [flat_len _ wf.sec, l32] at hcap
        have HBd := Lib.hid (dm_swap (dm_in hBd))
        have HWF := Lib.hid wf
        have HL32 := Lib.hid l32
        clear wf l32 hB hBd
        go_wp2_with fail
        refine (mkIs w WDb q MM D.ls D.ps _ (some ⟨gdb, 0, none⟩) cdb HWF.out.sec hcap (fun W' h => h.mineRd 10 rfl) HBd.out).mono ?_
        rintro e WIb ⟨rfl, hBi⟩
        have HBi := Lib.hid (dm_out (dm_back hBi)).tail
        clear hBi HBd hcap
        go_wp2_with fail
        go_ret
        exact ⟨rfl, HBi.out.below⟩
end Go.Proofs.Ytkndlpihhfjcpaa
