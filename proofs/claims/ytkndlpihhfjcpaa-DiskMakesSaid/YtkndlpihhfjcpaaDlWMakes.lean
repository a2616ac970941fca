/- The walk of DiskMakes. -/
import Derived.Test.YtkndlpihhfjcpaaDlFresh
import Derived.Test.YtkndlpihhfjcpaaDlFirst
import Derived.Test.YtkndlpihhfjcpaaDkImage
namespace Go.Proofs.Ytkndlpihhfjcpaa
open Go.RowKit
@[go_sem] theorem xor8_85 (a : BitVec 8) : bits .xor .u8 (n8 a) 85 = n8 (a ^^^ 85#8) := by
  have : (85 : Int) = n8 85#8 := by unfold n8; rfl
  rw [this, xor8]
theorem ownsMine' {w : World} {B e n : Nat} {v : Value} {l : List (BitVec 8)} (h : w.ownsRow B e 1 v n (bts l)) (hl : l.length = n) : ∃ ao cap, v = .slice ao n cap ∧ Mine w B e ao cap l := by
  subst hl
  exact owns_mine h
theorem new_latest (k i : Nat) (hi : i < k) : Dk.latest (Dk.new k).ls (Dk.new k).ps i = Dk.zs := by
  unfold Dk.latest Dk.new
  simp only [List.reverse_nil, List.find?_nil]
  rw [List.getD, List.getElem?_replicate, if_pos hi]
  rfl
theorem readD_ls' (D : Dk) (i : Int) : (D.readD i).ls = D.ls := by unfold Dk.readD; split; exact D.opD_ls; rfl
theorem readD_claim' (D : Dk) (i : Int) : (D.readD i).claim = D.claim := by unfold Dk.readD; split; exact D.opD_claim; rfl
set_option maxRecDepth 100000 in
set_option maxHeartbeats 16000000 in
theorem lawDiskMakes (n : Int) (l : List (BitVec 8)) (ao : Option Addr) (n0 cap : Nat) (w : World) (hi0 : -9223372036854775808 ≤ n) (hi1 : n ≤ 9223372036854775807) (hn : l.length = n0) (hn1 : n0 ≤ 140737488351232) (hc : n0 ≤ cap) (hr : Rd w ao l) :
   Calls Try.prog 8 #[.int .i64 n, .slice ao n0 cap] w fun e w' => e = .returned (.bool true) ∧ Below w.heap.size w w' := by
  have HR := Lib.hid (fun (w' : World) (hb : Below w.heap.size w w') => hr.on hb)
  have HN := Lib.hid hn
  clear hr hn
  go_enter Try.func8, Try.ntmps8
  go_wp2_with fail
  refine (dlFirst w).mono ?_
  rintro e W1 ⟨rfl, hb⟩
  have HBw0 := Lib.hid hb
  clear hb
  by_cases hin : 32 ≤ n ∧ n ≤ 8192
  · obtain ⟨k, rfl⟩ : ∃ k : Nat, n = k := ⟨n.toNat, by omega⟩
    have hk0 : 32 ≤ k := by omega
    have hk1 : k ≤ 8192 := by omega
    have hk0i : (32 : Int) ≤ (k : Int) := by omega
    have hk1i : (k : Int) ≤ 8192 := by omega
    clear hin
    go_wp2_with fail
    refine (dkNew k W1 hk0 hk1).mono ?_
    rintro e W2 ⟨p, L, rfl, hB⟩
    have HB := Lib.hid (disk_iff.1 (((Bag.start w).call HBw0.out).join hB))
    clear hB
    have HWf := Lib.hid (Dk.Wf.new k 0 (by omega) hk1)
    go_wp2_with fail
    have hr0 : (Dk.new k).readE ((k : Int) - 1) = 0 := by
      unfold Dk.readE Dk.inn
      rw [show (Dk.new k).ls.length = k from List.length_replicate .., decide_eq_true (by omega)]
      rfl
    have hrb : (Dk.new k).readB ((k : Int) - 1) = Dk.zs := by
      unfold Dk.readB
      rw [if_pos hr0, show ((k : Int) - 1).toNat = k - 1 by omega]
      exact new_latest k (k - 1) (by omega)
    have hread := dkRead w W2 p L (Dk.new k) _ 0 ((k : Int) - 1) HWf.out (by omega) (by simp [Dk.new]) (by omega) (by omega) HB.out
    unfold ReadR at hread
    rw [hr0, hrb, Dk.zs_len] at hread
    refine hread.mono ?_
    rintro e W3 ⟨a1, k1, rfl, hB1⟩
    have HB1 := Lib.hid (dkl_in hB1)
    obtain ⟨D1, hD1⟩ : ∃ D1, (Dk.new k).readD ((k : Int) - 1) = D1 := ⟨_, rfl⟩
    rw [hD1] at HB1
    have HW1 := Lib.hid (show D1.Wf 1 by rw [← hD1]; exact HWf.out.read _)
    have HL1 := Lib.hid (show D1.ls.length = k by rw [← hD1, readD_ls']; exact List.length_replicate ..)
    have HC1 := Lib.hid (show D1.claim = 0 by rw [← hD1, readD_claim']; rfl)
    clear hB1 hread hr0 hrb hD1 HB
    have hfull := fullOf 0#8 W3
    rw [← n8_zero] at hfull
    go_wp2_with fail
    refine hfull.mono ?_
    rintro e W4 ⟨g4, rfl, hg, hO, hb⟩
    have HB2 := Lib.hid (dkl_in (HB1.out.own hb hO hg))
    clear hfull hg hO hb HB1
    unfold slv
    go_wp2_with fail
    refine (sameTrue a1 (some ⟨g4, 0, none⟩) Dk.zs 512 512 k1 512 W4 Dk.zs_len Dk.zs_len (by omega) (HB2.out.mineRd 7 rfl) (by have h := HB2.out.mineRd 6 rfl; rw [fullB_zero] at h; exact h)).mono ?_
    rintro e W5 ⟨rfl, hst⟩
    have HB3 := Lib.hid (HB2.out.still hst)
    clear hst HB2
    go_wp2_with fail
    refine (dkCrash w W5 p L D1 _ 1 none [] 0 0 rfl (by omega) HW1.out (by omega) (fun W' D' _ => Bo.nil _ _) HB3.out).mono ?_
    rintro e W6 ⟨L5, v, rfl, hB6⟩
    have HB6 := Lib.hid hB6
    clear hB6 HB3
    go_wp2_with fail
    refine (dkFresh w W6 p L5 (D1.crashD []) _ 1 k (HW1.out.crash []) (by omega) rfl rfl rfl HC1.out (by simp only [Dk.crashD, Dk.layK_len]; exact HL1.out) HB6.out).mono ?_
    rintro e W0 ⟨rfl, hB7⟩
    have HBw := Lib.hid hB7.below
    clear hB7 HB6 HBw0
    go_wp2_with fail
    refine (numOf _ _).mono ?_
    rintro e w' ⟨rfl, rfl⟩
    by_cases hbig : 262144 < n0
    · have hbig' : (262144 : Int) < (n0 : Int) := by omega
      obtain ⟨s, hs⟩ : ∃ s : Nat, s = 262144 := ⟨_, rfl⟩
      have hsi : (262144 : Int) = (s : Int) := by omega
      obtain ⟨B, hB0⟩ : ∃ B, l.take s = B := ⟨_, rfl⟩
      have HBL := Lib.hid (show B.length = s by rw [← hB0, List.length_take, HN.out]; omega)
      have HRB := Lib.hid (fun (W : World) (hb : Below w.heap.size w W) => (show Rd W ao B by rw [← hB0]; exact (HR.out W hb).take s))
      have hsc : s ≤ cap := by omega
      have hs2 : s ≤ 262144 := by omega
      have HSI := Lib.hid hsi
      have HSN := Lib.hid hs.symm
      clear hs hsi hB0
      go_wp2_with fail
      rw [HSI.out, HSN.out]
      have hBl : B.length ≤ 140737488351232 := by rw [HBL.out]; omega
      have hbo := bytesOf' ao B s cap W0 HBL.out hBl (HRB.out W0 HBw.out)
      clear hBl
      refine hbo.mono ?_
      clear hbo
      rintro e W20 ⟨v, rfl, hown, hb⟩
      obtain ⟨av, cv, rfl, hmi⟩ := ownsMine' hown HBL.out
      have HB := Lib.hid (((Bag.start w).call HBw.out).mine hb hmi)
      clear hown hb hmi
      go_wp2_with fail
      by_cases hmay : s % 512 = 0 ∧ 32 ≤ s / 512
      · have hm1 : ((s : Int) % 512 == 0) = true := by rw [beq_iff_eq]; omega
        have hm2 : (16384 : Int) ≤ (s : Int) := by omega
        obtain ⟨k, hk⟩ : ∃ k, s = k * 512 := ⟨s / 512, by omega⟩
        have HK := Lib.hid hk
        have hk32 : 32 ≤ k := by omega
        have hk8 : k ≤ 8192 := by omega
        have hdv : (s : Int) / 512 = (k : Int) := by omega
        have HDV := Lib.hid hdv
        clear hmay hk hdv
        refine (dkImage av B s cv k W20 HBL.out HK.out (by have := HB.out.mineLe 0 rfl; rw [HBL.out] at this; exact this) hk32 hk8 (HB.out.mineRd 0 rfl)).mono ?_
        rintro e W21 ⟨p2, L2, rfl, hB2⟩
        have HB3 := Lib.hid (disk_iff.1 (HB.out.join hB2))
        clear HB hB2
        go_wp2_with fail
        refine (numOf _ _).mono ?_
        rintro e w' ⟨rfl, rfl⟩
        go_wp2_with fail
        refine (sameTrue av ao B s s cv cap W21 HBL.out HBL.out (by omega) (HB3.out.mineRd 6 rfl) (HRB.out W21 HB3.out.below)).mono ?_
        rintro e W22 ⟨rfl, hst⟩
        have HB := Lib.hid (HB3.out.still hst)
        clear HB3 hst
        go_wp2_with fail
        go_loopw [15] (fun t wr => ∃ (j : Nat) (mm : List (BitVec 8)), j ≤ s ∧ mm.length = s ∧ t = .int .i64 j ∧ Bag w wr (dkl p2 L2 (Dk.image B k) [.mine 5 av cv mm])) (fun t _ => s - (intOf t).toNat)
        case atStart => exact ⟨0, B, Nat.zero_le _, HBL.out, rfl, HB.out⟩
        case round =>
          obtain ⟨j, mm, hj, hmm, rfl, hB⟩ := hrel
          clear HB
          have HB := Lib.hid hB
          have HMM := Lib.hid hmm
          clear hB hmm
          by_cases hlt : j < s
          · obtain ⟨g, rfl⟩ := HB.out.mineSome 6 rfl (by rw [HMM.out]; omega)
            have hO := HB.out.mineOwn 6 rfl
            have c := hO.cell j (by rw [HMM.out]; exact hlt)
            have hf := hO.free j
            obtain ⟨y, hy⟩ : ∃ y, mm.getD j 0#8 = y := ⟨_, rfl⟩
            rw [hy] at c
            have HB2 := Lib.hid (HB.out.byte 6 rfl j (y ^^^ 85#8))
            clear hO hy HB
            go_wp2_with fail
            go_roundw
            case rel => exact ⟨j + 1, mm.set j (y ^^^ 85#8), by omega, by rw [List.length_set]; exact HMM.out, by go_num, HB2.out⟩
            case measure => simp [intOf]; omega
          · obtain rfl : j = s := by omega
            go_wp2_with fail
            refine (dkDurable w wr p2 L2 (Dk.image B k) _ 0 (Dk.Wf.image 0 (by rw [HBL.out]; exact HK.out) (by omega) hk8) HB.out).mono ?_
            rintro e W23 ⟨ad, cd, he, hBd⟩
            have hll : (Dk.image B k).ls.length = k := by simp [Dk.image]
            rw [hll, ← HK.out] at he
            subst he
            have hfl : (Dk.image B k).ls.flatten = B := flat_chunks B k (by rw [HBL.out]; exact HK.out)
            rw [hfl] at hBd
            have HBd := Lib.hid hBd
            have HLL := Lib.hid hll
            clear hBd hll hfl HB
            go_wp2_with fail
            refine (sameTrue ad ao B j j cd cap W23 HBL.out HBL.out (by omega) (HBd.out.mineRd 0 rfl) (HRB.out W23 HBd.out.below)).mono ?_
            rintro e W24 ⟨rfl, hst⟩
            have HB4 := Lib.hid (HBd.out.still hst).tail
            clear HBd hst
            go_wp2_with fail
            rw [HDV.out]
            refine (dkFresh w W24 p2 L2 (Dk.image B k) _ 0 k (Dk.Wf.image 0 (by rw [HBL.out]; exact HK.out) (by omega) hk8) (by omega) rfl rfl rfl rfl HLL.out HB4.out).mono ?_
            rintro e W25 ⟨rfl, hB5⟩
            have HB5 := Lib.hid hB5.below
            clear hB5 HB4
            go_wp2_with fail
            go_ret
            exact ⟨rfl, HB5.out⟩
      · have hno : (((s : Int) % 512 == 0) = false) ∨ (((s : Int) % 512 == 0) = true ∧ decide ((16384 : Int) ≤ (s : Int)) = false) := by
          by_cases h : s % 512 = 0
          · exact Or.inr ⟨by rw [beq_iff_eq]; omega, decide_eq_false (by omega)⟩
          · exact Or.inl (by rw [beq_eq_false_iff_ne]; omega)
        refine (dkImageNo av s cv W20 (by omega) (fun h => hmay ⟨h.1, h.2.1⟩)).mono ?_
        rintro e W21 ⟨rfl, hb⟩
        have HB3 := Lib.hid (HB.out.call hb)
        clear HB hb hmay
        rcases hno with hm1 | ⟨hm1, hm2⟩
        all_goals
          go_wp2_with fail
          refine (numOf _ _).mono ?_
          rintro e w' ⟨rfl, rfl⟩
          go_wp2_with fail
          try (refine (numOf _ _).mono ?_; rintro e w' ⟨rfl, rfl⟩; go_wp2_with fail)
          refine (sameTrue av ao B s s cv cap W21 HBL.out HBL.out (by omega) (HB3.out.mineRd 0 rfl) (HRB.out W21 HB3.out.below)).mono ?_
          rintro e W22 ⟨rfl, hst⟩
          have HB := Lib.hid (HB3.out.still hst)
          clear HB3 hst
          go_wp2_with fail
          go_loopw [15] (fun t wr => ∃ (j : Nat) (mm : List (BitVec 8)), j ≤ s ∧ mm.length = s ∧ t = .int .i64 j ∧ Bag w wr [.mine 5 av cv mm]) (fun t _ => s - (intOf t).toNat)
          case atStart => exact ⟨0, B, Nat.zero_le _, HBL.out, rfl, HB.out⟩
          case round =>
            obtain ⟨j, mm, hj, hmm, rfl, hB⟩ := hrel
            clear HB
            have HB := Lib.hid hB
            have HMM := Lib.hid hmm
            clear hB hmm
            by_cases hlt : j < s
            · obtain ⟨g, rfl⟩ := HB.out.mineSome 0 rfl (by rw [HMM.out]; omega)
              have hO := HB.out.mineOwn 0 rfl
              have c := hO.cell j (by rw [HMM.out]; exact hlt)
              have hf := hO.free j
              obtain ⟨y, hy⟩ : ∃ y, mm.getD j 0#8 = y := ⟨_, rfl⟩
              rw [hy] at c
              have HB2 := Lib.hid (HB.out.byte 0 rfl j (y ^^^ 85#8))
              clear hO hy HB
              go_wp2_with fail
              go_roundw
              case rel => exact ⟨j + 1, mm.set j (y ^^^ 85#8), by omega, by rw [List.length_set]; exact HMM.out, by go_num, HB2.out⟩
              case measure => simp [intOf]; omega
            · obtain rfl : j = s := by omega
              go_wp2_with fail
              go_ret
              exact ⟨rfl, HB.out.below⟩
    · obtain ⟨s, hs⟩ : ∃ s : Nat, n0 = s := ⟨_, rfl⟩
      subst hs
      obtain ⟨s, hs⟩ : ∃ s : Nat, n0 = s := ⟨_, rfl⟩
      subst hs
      obtain ⟨B, hB0⟩ : ∃ B, l.take n0 = B := ⟨_, rfl⟩
      have HBL := Lib.hid (show B.length = n0 by rw [← hB0, List.length_take, HN.out]; omega)
      have HRB := Lib.hid (fun (W : World) (hb : Below w.heap.size w W) => (show Rd W ao B by rw [← hB0]; exact (HR.out W hb).take n0))
      have hs2 : n0 ≤ 262144 := by omega
      clear hB0
      go_wp2_with fail
      have hBl : B.length ≤ 140737488351232 := by rw [HBL.out]; omega
      have hbo := bytesOf' ao B n0 cap W0 HBL.out hBl (HRB.out W0 HBw.out)
      clear hBl
      refine hbo.mono ?_
      clear hbo
      rintro e W20 ⟨v, rfl, hown, hb⟩
      obtain ⟨av, cv, rfl, hmi⟩ := ownsMine' hown HBL.out
      have HB := Lib.hid (((Bag.start w).call HBw.out).mine hb hmi)
      clear hown hb hmi
      go_wp2_with fail
      by_cases hmay : n0 % 512 = 0 ∧ 32 ≤ n0 / 512
      · have hm1 : ((n0 : Int) % 512 == 0) = true := by rw [beq_iff_eq]; omega
        have hm2 : (16384 : Int) ≤ (n0 : Int) := by omega
        obtain ⟨k, hk⟩ : ∃ k, n0 = k * 512 := ⟨n0 / 512, by omega⟩
        have HK := Lib.hid hk
        have hk32 : 32 ≤ k := by omega
        have hk8 : k ≤ 8192 := by omega
        have hdv : (n0 : Int) / 512 = (k : Int) := by omega
        have HDV := Lib.hid hdv
        clear hmay hk hdv
        refine (dkImage av B n0 cv k W20 HBL.out HK.out (by have := HB.out.mineLe 0 rfl; rw [HBL.out] at this; exact this) hk32 hk8 (HB.out.mineRd 0 rfl)).mono ?_
        rintro e W21 ⟨p2, L2, rfl, hB2⟩
        have HB3 := Lib.hid (disk_iff.1 (HB.out.join hB2))
        clear HB hB2
        go_wp2_with fail
        refine (numOf _ _).mono ?_
        rintro e w' ⟨rfl, rfl⟩
        go_wp2_with fail
        refine (sameTrue av ao B n0 n0 cv cap W21 HBL.out HBL.out (by omega) (HB3.out.mineRd 6 rfl) (HRB.out W21 HB3.out.below)).mono ?_
        rintro e W22 ⟨rfl, hst⟩
        have HB := Lib.hid (HB3.out.still hst)
        clear HB3 hst
        go_wp2_with fail
        go_loopw [15] (fun t wr => ∃ (j : Nat) (mm : List (BitVec 8)), j ≤ n0 ∧ mm.length = n0 ∧ t = .int .i64 j ∧ Bag w wr (dkl p2 L2 (Dk.image B k) [.mine 5 av cv mm])) (fun t _ => n0 - (intOf t).toNat)
        case atStart => exact ⟨0, B, Nat.zero_le _, HBL.out, rfl, HB.out⟩
        case round =>
          obtain ⟨j, mm, hj, hmm, rfl, hB⟩ := hrel
          clear HB
          have HB := Lib.hid hB
          have HMM := Lib.hid hmm
          clear hB hmm
          by_cases hlt : j < n0
          · obtain ⟨g, rfl⟩ := HB.out.mineSome 6 rfl (by rw [HMM.out]; omega)
            have hO := HB.out.mineOwn 6 rfl
            have c := hO.cell j (by rw [HMM.out]; exact hlt)
            have hf := hO.free j
            obtain ⟨y, hy⟩ : ∃ y, mm.getD j 0#8 = y := ⟨_, rfl⟩
            rw [hy] at c
            have HB2 := Lib.hid (HB.out.byte 6 rfl j (y ^^^ 85#8))
            clear hO hy HB
            go_wp2_with fail
            go_roundw
            case rel => exact ⟨j + 1, mm.set j (y ^^^ 85#8), by omega, by rw [List.length_set]; exact HMM.out, by go_num, HB2.out⟩
            case measure => simp [intOf]; omega
          · obtain rfl : j = n0 := by omega
            go_wp2_with fail
            refine (dkDurable w wr p2 L2 (Dk.image B k) _ 0 (Dk.Wf.image 0 (by rw [HBL.out]; exact HK.out) (by omega) hk8) HB.out).mono ?_
            rintro e W23 ⟨ad, cd, he, hBd⟩
            have hll : (Dk.image B k).ls.length = k := by simp [Dk.image]
            rw [hll, ← HK.out] at he
            subst he
            have hfl : (Dk.image B k).ls.flatten = B := flat_chunks B k (by rw [HBL.out]; exact HK.out)
            rw [hfl] at hBd
            have HBd := Lib.hid hBd
            have HLL := Lib.hid hll
            clear hBd hll hfl HB
            go_wp2_with fail
            refine (sameTrue ad ao B j j cd cap W23 HBL.out HBL.out (by omega) (HBd.out.mineRd 0 rfl) (HRB.out W23 HBd.out.below)).mono ?_
            rintro e W24 ⟨rfl, hst⟩
            have HB4 := Lib.hid (HBd.out.still hst).tail
            clear HBd hst
            go_wp2_with fail
            rw [HDV.out]
            refine (dkFresh w W24 p2 L2 (Dk.image B k) _ 0 k (Dk.Wf.image 0 (by rw [HBL.out]; exact HK.out) (by omega) hk8) (by omega) rfl rfl rfl rfl HLL.out HB4.out).mono ?_
            rintro e W25 ⟨rfl, hB5⟩
            have HB5 := Lib.hid hB5.below
            clear hB5 HB4
            go_wp2_with fail
            go_ret
            exact ⟨rfl, HB5.out⟩
      · have hno : (((n0 : Int) % 512 == 0) = false) ∨ (((n0 : Int) % 512 == 0) = true ∧ decide ((16384 : Int) ≤ (n0 : Int)) = false) := by
          by_cases h : n0 % 512 = 0
          · exact Or.inr ⟨by rw [beq_iff_eq]; omega, decide_eq_false (by omega)⟩
          · exact Or.inl (by rw [beq_eq_false_iff_ne]; omega)
        refine (dkImageNo av n0 cv W20 (by omega) (fun h => hmay ⟨h.1, h.2.1⟩)).mono ?_
        rintro e W21 ⟨rfl, hb⟩
        have HB3 := Lib.hid (HB.out.call hb)
        clear HB hb hmay
        rcases hno with hm1 | ⟨hm1, hm2⟩
        all_goals
          go_wp2_with fail
          refine (numOf _ _).mono ?_
          rintro e w' ⟨rfl, rfl⟩
          go_wp2_with fail
          try (refine (numOf _ _).mono ?_; rintro e w' ⟨rfl, rfl⟩; go_wp2_with fail)
          refine (sameTrue av ao B n0 n0 cv cap W21 HBL.out HBL.out (by omega) (HB3.out.mineRd 0 rfl) (HRB.out W21 HB3.out.below)).mono ?_
          rintro e W22 ⟨rfl, hst⟩
          have HB := Lib.hid (HB3.out.still hst)
          clear HB3 hst
          go_wp2_with fail
          go_loopw [15] (fun t wr => ∃ (j : Nat) (mm : List (BitVec 8)), j ≤ n0 ∧ mm.length = n0 ∧ t = .int .i64 j ∧ Bag w wr [.mine 5 av cv mm]) (fun t _ => n0 - (intOf t).toNat)
          case atStart => exact ⟨0, B, Nat.zero_le _, HBL.out, rfl, HB.out⟩
          case round =>
            obtain ⟨j, mm, hj, hmm, rfl, hB⟩ := hrel
            clear HB
            have HB := Lib.hid hB
            have HMM := Lib.hid hmm
            clear hB hmm
            by_cases hlt : j < n0
            · obtain ⟨g, rfl⟩ := HB.out.mineSome 0 rfl (by rw [HMM.out]; omega)
              have hO := HB.out.mineOwn 0 rfl
              have c := hO.cell j (by rw [HMM.out]; exact hlt)
              have hf := hO.free j
              obtain ⟨y, hy⟩ : ∃ y, mm.getD j 0#8 = y := ⟨_, rfl⟩
              rw [hy] at c
              have HB2 := Lib.hid (HB.out.byte 0 rfl j (y ^^^ 85#8))
              clear hO hy HB
              go_wp2_with fail
              go_roundw
              case rel => exact ⟨j + 1, mm.set j (y ^^^ 85#8), by omega, by rw [List.length_set]; exact HMM.out, by go_num, HB2.out⟩
              case measure => simp [intOf]; omega
            · obtain rfl : j = n0 := by omega
              go_wp2_with fail
              go_ret
              exact ⟨rfl, HB.out.below⟩
  · have hin' : n < 32 ∨ (32 ≤ n ∧ 8192 < n) := by omega
    have HNo := Lib.hid (show n < 32 ∨ 8192 < n by omega)
    clear hin
    rcases hin' with h1 | ⟨h1, h2⟩
    all_goals
      go_wp2_with fail
      refine (dkNewNo n W1 HNo.out).mono ?_
      rintro e w' ⟨rfl, rfl⟩
      obtain ⟨W0, hW0⟩ : ∃ W0, W1 = W0 := ⟨_, rfl⟩
      rw [hW0] at HBw0 ⊢
      have HBw := Lib.hid HBw0.out
      clear hW0 HBw0
      by_cases hbig : 262144 < n0
      · have hbig' : (262144 : Int) < (n0 : Int) := by omega
        obtain ⟨s, hs⟩ : ∃ s : Nat, s = 262144 := ⟨_, rfl⟩
        have hsi : (262144 : Int) = (s : Int) := by omega
        obtain ⟨B, hB0⟩ : ∃ B, l.take s = B := ⟨_, rfl⟩
        have HBL := Lib.hid (show B.length = s by rw [← hB0, List.length_take, HN.out]; omega)
        have HRB := Lib.hid (fun (W : World) (hb : Below w.heap.size w W) => (show Rd W ao B by rw [← hB0]; exact (HR.out W hb).take s))
        have hsc : s ≤ cap := by omega
        have hs2 : s ≤ 262144 := by omega
        have HSI := Lib.hid hsi
        have HSN := Lib.hid hs.symm
        clear hs hsi hB0
        go_wp2_with fail
        rw [HSI.out, HSN.out]
        have hBl : B.length ≤ 140737488351232 := by rw [HBL.out]; omega
        have hbo := bytesOf' ao B s cap W0 HBL.out hBl (HRB.out W0 HBw.out)
        clear hBl
        refine hbo.mono ?_
        clear hbo
        rintro e W20 ⟨v, rfl, hown, hb⟩
        obtain ⟨av, cv, rfl, hmi⟩ := ownsMine' hown HBL.out
        have HB := Lib.hid (((Bag.start w).call HBw.out).mine hb hmi)
        clear hown hb hmi
        go_wp2_with fail
        by_cases hmay : s % 512 = 0 ∧ 32 ≤ s / 512
        · have hm1 : ((s : Int) % 512 == 0) = true := by rw [beq_iff_eq]; omega
          have hm2 : (16384 : Int) ≤ (s : Int) := by omega
          obtain ⟨k, hk⟩ : ∃ k, s = k * 512 := ⟨s / 512, by omega⟩
          have HK := Lib.hid hk
          have hk32 : 32 ≤ k := by omega
          have hk8 : k ≤ 8192 := by omega
          have hdv : (s : Int) / 512 = (k : Int) := by omega
          have HDV := Lib.hid hdv
          clear hmay hk hdv
          refine (dkImage av B s cv k W20 HBL.out HK.out (by have := HB.out.mineLe 0 rfl; rw [HBL.out] at this; exact this) hk32 hk8 (HB.out.mineRd 0 rfl)).mono ?_
          rintro e W21 ⟨p2, L2, rfl, hB2⟩
          have HB3 := Lib.hid (disk_iff.1 (HB.out.join hB2))
          clear HB hB2
          go_wp2_with fail
          refine (numOf _ _).mono ?_
          rintro e w' ⟨rfl, rfl⟩
          go_wp2_with fail
          refine (sameTrue av ao B s s cv cap W21 HBL.out HBL.out (by omega) (HB3.out.mineRd 6 rfl) (HRB.out W21 HB3.out.below)).mono ?_
          rintro e W22 ⟨rfl, hst⟩
          have HB := Lib.hid (HB3.out.still hst)
          clear HB3 hst
          go_wp2_with fail
          go_loopw [15] (fun t wr => ∃ (j : Nat) (mm : List (BitVec 8)), j ≤ s ∧ mm.length = s ∧ t = .int .i64 j ∧ Bag w wr (dkl p2 L2 (Dk.image B k) [.mine 5 av cv mm])) (fun t _ => s - (intOf t).toNat)
          case atStart => exact ⟨0, B, Nat.zero_le _, HBL.out, rfl, HB.out⟩
          case round =>
            obtain ⟨j, mm, hj, hmm, rfl, hB⟩ := hrel
            clear HB
            have HB := Lib.hid hB
            have HMM := Lib.hid hmm
            clear hB hmm
            by_cases hlt : j < s
            · obtain ⟨g, rfl⟩ := HB.out.mineSome 6 rfl (by rw [HMM.out]; omega)
              have hO := HB.out.mineOwn 6 rfl
              have c := hO.cell j (by rw [HMM.out]; exact hlt)
              have hf := hO.free j
              obtain ⟨y, hy⟩ : ∃ y, mm.getD j 0#8 = y := ⟨_, rfl⟩
              rw [hy] at c
              have HB2 := Lib.hid (HB.out.byte 6 rfl j (y ^^^ 85#8))
              clear hO hy HB
              go_wp2_with fail
              go_roundw
              case rel => exact ⟨j + 1, mm.set j (y ^^^ 85#8), by omega, by rw [List.length_set]; exact HMM.out, by go_num, HB2.out⟩
              case measure => simp [intOf]; omega
            · obtain rfl : j = s := by omega
              go_wp2_with fail
              refine (dkDurable w wr p2 L2 (Dk.image B k) _ 0 (Dk.Wf.image 0 (by rw [HBL.out]; exact HK.out) (by omega) hk8) HB.out).mono ?_
              rintro e W23 ⟨ad, cd, he, hBd⟩
              have hll : (Dk.image B k).ls.length = k := by simp [Dk.image]
              rw [hll, ← HK.out] at he
              subst he
              have hfl : (Dk.image B k).ls.flatten = B := flat_chunks B k (by rw [HBL.out]; exact HK.out)
              rw [hfl] at hBd
              have HBd := Lib.hid hBd
              have HLL := Lib.hid hll
              clear hBd hll hfl HB
              go_wp2_with fail
              refine (sameTrue ad ao B j j cd cap W23 HBL.out HBL.out (by omega) (HBd.out.mineRd 0 rfl) (HRB.out W23 HBd.out.below)).mono ?_
              rintro e W24 ⟨rfl, hst⟩
              have HB4 := Lib.hid (HBd.out.still hst).tail
              clear HBd hst
              go_wp2_with fail
              rw [HDV.out]
              refine (dkFresh w W24 p2 L2 (Dk.image B k) _ 0 k (Dk.Wf.image 0 (by rw [HBL.out]; exact HK.out) (by omega) hk8) (by omega) rfl rfl rfl rfl HLL.out HB4.out).mono ?_
              rintro e W25 ⟨rfl, hB5⟩
              have HB5 := Lib.hid hB5.below
              clear hB5 HB4
              go_wp2_with fail
              go_ret
              exact ⟨rfl, HB5.out⟩
        · have hno : (((s : Int) % 512 == 0) = false) ∨ (((s : Int) % 512 == 0) = true ∧ decide ((16384 : Int) ≤ (s : Int)) = false) := by
            by_cases h : s % 512 = 0
            · exact Or.inr ⟨by rw [beq_iff_eq]; omega, decide_eq_false (by omega)⟩
            · exact Or.inl (by rw [beq_eq_false_iff_ne]; omega)
          refine (dkImageNo av s cv W20 (by omega) (fun h => hmay ⟨h.1, h.2.1⟩)).mono ?_
          rintro e W21 ⟨rfl, hb⟩
          have HB3 := Lib.hid (HB.out.call hb)
          clear HB hb hmay
          rcases hno with hm1 | ⟨hm1, hm2⟩
          all_goals
            go_wp2_with fail
            refine (numOf _ _).mono ?_
            rintro e w' ⟨rfl, rfl⟩
            go_wp2_with fail
            try (refine (numOf _ _).mono ?_; rintro e w' ⟨rfl, rfl⟩; go_wp2_with fail)
            refine (sameTrue av ao B s s cv cap W21 HBL.out HBL.out (by omega) (HB3.out.mineRd 0 rfl) (HRB.out W21 HB3.out.below)).mono ?_
            rintro e W22 ⟨rfl, hst⟩
            have HB := Lib.hid (HB3.out.still hst)
            clear HB3 hst
            go_wp2_with fail
            go_loopw [15] (fun t wr => ∃ (j : Nat) (mm : List (BitVec 8)), j ≤ s ∧ mm.length = s ∧ t = .int .i64 j ∧ Bag w wr [.mine 5 av cv mm]) (fun t _ => s - (intOf t).toNat)
            case atStart => exact ⟨0, B, Nat.zero_le _, HBL.out, rfl, HB.out⟩
            case round =>
              obtain ⟨j, mm, hj, hmm, rfl, hB⟩ := hrel
              clear HB
              have HB := Lib.hid hB
              have HMM := Lib.hid hmm
              clear hB hmm
              by_cases hlt : j < s
              · obtain ⟨g, rfl⟩ := HB.out.mineSome 0 rfl (by rw [HMM.out]; omega)
                have hO := HB.out.mineOwn 0 rfl
                have c := hO.cell j (by rw [HMM.out]; exact hlt)
                have hf := hO.free j
                obtain ⟨y, hy⟩ : ∃ y, mm.getD j 0#8 = y := ⟨_, rfl⟩
                rw [hy] at c
                have HB2 := Lib.hid (HB.out.byte 0 rfl j (y ^^^ 85#8))
                clear hO hy HB
                go_wp2_with fail
                go_roundw
                case rel => exact ⟨j + 1, mm.set j (y ^^^ 85#8), by omega, by rw [List.length_set]; exact HMM.out, by go_num, HB2.out⟩
                case measure => simp [intOf]; omega
              · obtain rfl : j = s := by omega
                go_wp2_with fail
                go_ret
                exact ⟨rfl, HB.out.below⟩
      · obtain ⟨s, hs⟩ : ∃ s : Nat, n0 = s := ⟨_, rfl⟩
        subst hs
        obtain ⟨s, hs⟩ : ∃ s : Nat, n0 = s := ⟨_, rfl⟩
        subst hs
        obtain ⟨B, hB0⟩ : ∃ B, l.take n0 = B := ⟨_, rfl⟩
        have HBL := Lib.hid (show B.length = n0 by rw [← hB0, List.length_take, HN.out]; omega)
        have HRB := Lib.hid (fun (W : World) (hb : Below w.heap.size w W) => (show Rd W ao B by rw [← hB0]; exact (HR.out W hb).take n0))
        have hs2 : n0 ≤ 262144 := by omega
        clear hB0
        go_wp2_with fail
        have hBl : B.length ≤ 140737488351232 := by rw [HBL.out]; omega
        have hbo := bytesOf' ao B n0 cap W0 HBL.out hBl (HRB.out W0 HBw.out)
        clear hBl
        refine hbo.mono ?_
        clear hbo
        rintro e W20 ⟨v, rfl, hown, hb⟩
        obtain ⟨av, cv, rfl, hmi⟩ := ownsMine' hown HBL.out
        have HB := Lib.hid (((Bag.start w).call HBw.out).mine hb hmi)
        clear hown hb hmi
        go_wp2_with fail
        by_cases hmay : n0 % 512 = 0 ∧ 32 ≤ n0 / 512
        · have hm1 : ((n0 : Int) % 512 == 0) = true := by rw [beq_iff_eq]; omega
          have hm2 : (16384 : Int) ≤ (n0 : Int) := by omega
          obtain ⟨k, hk⟩ : ∃ k, n0 = k * 512 := ⟨n0 / 512, by omega⟩
          have HK := Lib.hid hk
          have hk32 : 32 ≤ k := by omega
          have hk8 : k ≤ 8192 := by omega
          have hdv : (n0 : Int) / 512 = (k : Int) := by omega
          have HDV := Lib.hid hdv
          clear hmay hk hdv
          refine (dkImage av B n0 cv k W20 HBL.out HK.out (by have := HB.out.mineLe 0 rfl; rw [HBL.out] at this; exact this) hk32 hk8 (HB.out.mineRd 0 rfl)).mono ?_
          rintro e W21 ⟨p2, L2, rfl, hB2⟩
          have HB3 := Lib.hid (disk_iff.1 (HB.out.join hB2))
          clear HB hB2
          go_wp2_with fail
          refine (numOf _ _).mono ?_
          rintro e w' ⟨rfl, rfl⟩
          go_wp2_with fail
          refine (sameTrue av ao B n0 n0 cv cap W21 HBL.out HBL.out (by omega) (HB3.out.mineRd 6 rfl) (HRB.out W21 HB3.out.below)).mono ?_
          rintro e W22 ⟨rfl, hst⟩
          have HB := Lib.hid (HB3.out.still hst)
          clear HB3 hst
          go_wp2_with fail
          go_loopw [15] (fun t wr => ∃ (j : Nat) (mm : List (BitVec 8)), j ≤ n0 ∧ mm.length = n0 ∧ t = .int .i64 j ∧ Bag w wr (dkl p2 L2 (Dk.image B k) [.mine 5 av cv mm])) (fun t _ => n0 - (intOf t).toNat)
          case atStart => exact ⟨0, B, Nat.zero_le _, HBL.out, rfl, HB.out⟩
          case round =>
            obtain ⟨j, mm, hj, hmm, rfl, hB⟩ := hrel
            clear HB
            have HB := Lib.hid hB
            have HMM := Lib.hid hmm
            clear hB hmm
            by_cases hlt : j < n0
            · obtain ⟨g, rfl⟩ := HB.out.mineSome 6 rfl (by rw [HMM.out]; omega)
              have hO := HB.out.mineOwn 6 rfl
              have c := hO.cell j (by rw [HMM.out]; exact hlt)
              have hf := hO.free j
              obtain ⟨y, hy⟩ : ∃ y, mm.getD j 0#8 = y := ⟨_, rfl⟩
              rw [hy] at c
              have HB2 := Lib.hid (HB.out.byte 6 rfl j (y ^^^ 85#8))
              clear hO hy HB
              go_wp2_with fail
              go_roundw
              case rel => exact ⟨j + 1, mm.set j (y ^^^ 85#8), by omega, by rw [List.length_set]; exact HMM.out, by go_num, HB2.out⟩
              case measure => simp [intOf]; omega
            · obtain rfl : j = n0 := by omega
              go_wp2_with fail
              refine (dkDurable w wr p2 L2 (Dk.image B k) _ 0 (Dk.Wf.image 0 (by rw [HBL.out]; exact HK.out) (by omega) hk8) HB.out).mono ?_
              rintro e W23 ⟨ad, cd, he, hBd⟩
              have hll : (Dk.image B k).ls.length = k := by simp [Dk.image]
              rw [hll, ← HK.out] at he
              subst he
              have hfl : (Dk.image B k).ls.flatten = B := flat_chunks B k (by rw [HBL.out]; exact HK.out)
              rw [hfl] at hBd
              have HBd := Lib.hid hBd
              have HLL := Lib.hid hll
              clear hBd hll hfl HB
              go_wp2_with fail
              refine (sameTrue ad ao B j j cd cap W23 HBL.out HBL.out (by omega) (HBd.out.mineRd 0 rfl) (HRB.out W23 HBd.out.below)).mono ?_
              rintro e W24 ⟨rfl, hst⟩
              have HB4 := Lib.hid (HBd.out.still hst).tail
              clear HBd hst
              go_wp2_with fail
              rw [HDV.out]
              refine (dkFresh w W24 p2 L2 (Dk.image B k) _ 0 k (Dk.Wf.image 0 (by rw [HBL.out]; exact HK.out) (by omega) hk8) (by omega) rfl rfl rfl rfl HLL.out HB4.out).mono ?_
              rintro e W25 ⟨rfl, hB5⟩
              have HB5 := Lib.hid hB5.below
              clear hB5 HB4
              go_wp2_with fail
              go_ret
              exact ⟨rfl, HB5.out⟩
        · have hno : (((n0 : Int) % 512 == 0) = false) ∨ (((n0 : Int) % 512 == 0) = true ∧ decide ((16384 : Int) ≤ (n0 : Int)) = false) := by
            by_cases h : n0 % 512 = 0
            · exact Or.inr ⟨by rw [beq_iff_eq]; omega, decide_eq_false (by omega)⟩
            · exact Or.inl (by rw [beq_eq_false_iff_ne]; omega)
          refine (dkImageNo av n0 cv W20 (by omega) (fun h => hmay ⟨h.1, h.2.1⟩)).mono ?_
          rintro e W21 ⟨rfl, hb⟩
          have HB3 := Lib.hid (HB.out.call hb)
          clear HB hb hmay
          rcases hno with hm1 | ⟨hm1, hm2⟩
          all_goals
            go_wp2_with fail
            refine (numOf _ _).mono ?_
            rintro e w' ⟨rfl, rfl⟩
            go_wp2_with fail
            try (refine (numOf _ _).mono ?_; rintro e w' ⟨rfl, rfl⟩; go_wp2_with fail)
            refine (sameTrue av ao B n0 n0 cv cap W21 HBL.out HBL.out (by omega) (HB3.out.mineRd 0 rfl) (HRB.out W21 HB3.out.below)).mono ?_
            rintro e W22 ⟨rfl, hst⟩
            have HB := Lib.hid (HB3.out.still hst)
            clear HB3 hst
            go_wp2_with fail
            go_loopw [15] (fun t wr => ∃ (j : Nat) (mm : List (BitVec 8)), j ≤ n0 ∧ mm.length = n0 ∧ t = .int .i64 j ∧ Bag w wr [.mine 5 av cv mm]) (fun t _ => n0 - (intOf t).toNat)
            case atStart => exact ⟨0, B, Nat.zero_le _, HBL.out, rfl, HB.out⟩
            case round =>
              obtain ⟨j, mm, hj, hmm, rfl, hB⟩ := hrel
              clear HB
              have HB := Lib.hid hB
              have HMM := Lib.hid hmm
              clear hB hmm
              by_cases hlt : j < n0
              · obtain ⟨g, rfl⟩ := HB.out.mineSome 0 rfl (by rw [HMM.out]; omega)
                have hO := HB.out.mineOwn 0 rfl
                have c := hO.cell j (by rw [HMM.out]; exact hlt)
                have hf := hO.free j
                obtain ⟨y, hy⟩ : ∃ y, mm.getD j 0#8 = y := ⟨_, rfl⟩
                rw [hy] at c
                have HB2 := Lib.hid (HB.out.byte 0 rfl j (y ^^^ 85#8))
                clear hO hy HB
                go_wp2_with fail
                go_roundw
                case rel => exact ⟨j + 1, mm.set j (y ^^^ 85#8), by omega, by rw [List.length_set]; exact HMM.out, by go_num, HB2.out⟩
                case measure => simp [intOf]; omega
              · obtain rfl : j = n0 := by omega
                go_wp2_with fail
                go_ret
                exact ⟨rfl, HB.out.below⟩
end Go.Proofs.Ytkndlpihhfjcpaa
