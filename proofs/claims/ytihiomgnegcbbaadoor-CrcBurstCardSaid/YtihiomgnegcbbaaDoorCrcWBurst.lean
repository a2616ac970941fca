/- The walk of CrcBurst. -/
import Derived.Test.YtihiomgnegcbbaaDoorCrcTurn
namespace Go.Proofs.YtihiomgnegcbbaaDoor
open Go.RowKit
theorem odd_bit (p : BitVec 32) (k : Nat) : (n32 (p >>> k) % 2 == 1) = p.getLsbD k := by
  have h : p.getLsbD k = ((p >>> k).getLsbD 0) := by rw [BitVec.getLsbD_ushiftRight, Nat.add_zero]
  rw [h, Bool.eq_iff_iff, beq_iff_eq]
  generalize p >>> k = q
  have : q.getLsbD 0 = decide (q.toNat % 2 = 1) := by simp [BitVec.getLsbD, Nat.testBit_zero]
  rw [this, decide_eq_true_iff]
  unfold n32
  omega
theorem bks_step (b : Nat) (p : BitVec 32) (n k : Nat) (h1 : p.getLsbD k = true) (h2 : b + k < n) : Crc.bks b p n (k + 1) = Crc.bks b p n k ++ [b + k] := by simp [Crc.bks, h1, h2]
theorem bks_skip (b : Nat) (p : BitVec 32) (n k : Nat) (h : p.getLsbD k = false ∨ ¬ b + k < n) : Crc.bks b p n (k + 1) = Crc.bks b p n k := by
  rcases h with h | h <;> simp [Crc.bks, h]
set_option maxHeartbeats 1000000 in
theorem lawBurst (ao : Option Addr) (l : List (BitVec 8)) (cap : Nat) (xb : Int) (p : BitVec 32) (w : World) (hl : l.length ≤ 140737488351232) (hr : Rd w ao l) (ht : Tab w) (hw : 0 < w.heap.size) :
   Calls Tryd.prog 8 #[.slice ao l.length cap, .int .i64 xb, .int .u32 (n32 p)] w fun e w' => e = .returned (.bool true) ∧ Below w.heap.size w w' := by
  go_enter Tryd.func8, Tryd.ntmps8
  go_wp2_with fail
  refine (lawFirst w ht hw).mono ?_
  rintro e w1 ⟨rfl, hb1⟩
  by_cases hlen : 65536 < l.length
  · clear hr ht
    go_wp2
    go_ret
    exact ⟨rfl, hb1⟩
  by_cases h0 : l.length = 0
  · have hz : ((l.length : Int) == 0) = true := by rw [beq_iff_eq]; omega
    clear hr ht
    go_wp2
    go_ret
    exact ⟨rfl, hb1⟩
  have hz : ((l.length : Int) == 0) = false := by rw [beq_eq_false_iff_ne]; omega
  have hle : l.length ≤ 65536 := by omega
  have hpos : 0 < l.length := by omega
  obtain ⟨i1, i2, b, hb, hbb⟩ := place xb (8 * l.length) (by omega)
  have e8 : ((8 * l.length : Nat) : Int) = 8 * (l.length : Int) := by omega
  rw [e8] at i1 i2 hbb
  have HR := Lib.hid (fun (w' : World) (hb : Below w.heap.size w w') => hr.on hb)
  have HT := Lib.hid (fun (w' : World) (hb : Below w.heap.size w w') => ht.below hb hw)
  clear hlen hr ht h0 e8
  go_wp2_with fail
  rw [hbb]
  clear hbb i1 i2
  refine (bytesOf ao l cap w1 (by omega) (HR.out _ hb1)).mono ?_
  rintro e w2 ⟨v, rfl, hown, hb2⟩
  obtain ⟨g, c, rfl, hg, hc, hm, ho⟩ := owns_own hown hpos
  have hB2 := hb1.trans (hb2.mono hb1.size)
  have hgB : w.heap.size ≤ g := Nat.le_trans hb1.size hg
  have HO := Lib.hid ho
  clear hown hb2 hg ho
  go_wp2_with fail
  go_loopw [2, 10, 11] (fun pv tv iv wr => ∃ (k : Nat) (t : Bool), k ≤ 32 ∧ iv = .int .i64 k ∧ pv = .int .u32 (n32 (p >>> k)) ∧ tv = .bool t ∧ t = !(Crc.bks b p (8 * l.length) k).isEmpty ∧ Own wr g c 5 (Crc.turns l (Crc.bks b p (8 * l.length) k)) ∧ Below w.heap.size w wr) (fun _ _ iv _ => 32 - (intOf iv).toNat)
  case atStart => exact ⟨0, false, Nat.zero_le _, rfl, by simp, rfl, rfl, HO.out, hB2⟩
  case round =>
    obtain ⟨k, t, hk, rfl, rfl, rfl, htt, ho, hB⟩ := hrel
    have HO1 := Lib.hid ho
    have HTT := Lib.hid htt
    have L1 := Lib.hid (Crc.turns_length (Crc.bks b p (8 * l.length) k) l)
    have hsr := Lib.hid (show (p >>> k) >>> 1 = p >>> (k + 1) from (BitVec.shiftRight_add p k 1).symm)
    clear ho htt
    by_cases hlt : k < 32
    · have hodd := odd_bit p k
      have hlo := n32_lo (p >>> k)
      have hhi := n32_hi (p >>> k)
      cases hbit : p.getLsbD k
      · rw [hbit] at hodd
        have HK := Lib.hid (bks_skip b p (8 * l.length) k (Or.inl hbit))
        clear hbit
        go_wp2
        go_roundw
        case rel => exact ⟨k + 1, t, by omega, by go_num, by rw [div32_2, hsr.out], rfl, by rw [HK.out]; exact HTT.out, by rw [HK.out]; exact HO1.out, hB⟩
        case measure => simp [intOf]; omega
      · rw [hbit] at hodd
        by_cases hin : b + k < 8 * l.length
        · have HK := Lib.hid (bks_step b p (8 * l.length) k hbit hin)
          clear hbit
          go_wp2_with fail
          have k1 := lawTurn g c (Crc.turns l (Crc.bks b p (8 * l.length) k)) (b + k) wr (by rw [L1.out]; exact hin) (by rw [L1.out]; omega) HO1.out
          rw [L1.out, show ((b + k : Nat) : Int) = (b : Int) + (k : Int) by omega] at k1
          refine k1.mono ?_
          clear k1
          rintro e w3 ⟨rfl, ho3, hB3⟩
          have hB4 := hB.trans (hB3 _ hgB)
          rw [← Crc.turns_snoc, ← HK.out] at ho3
          have HO3 := Lib.hid ho3
          clear hB3 ho3 HO1
          go_wp2
          go_roundw
          case rel => exact ⟨k + 1, true, by omega, by go_num, by rw [div32_2, hsr.out], rfl, by rw [HK.out]; simp, HO3.out, hB4⟩
          case measure => simp [intOf]; omega
        · have HK := Lib.hid (bks_skip b p (8 * l.length) k (Or.inr hin))
          clear hbit
          go_wp2
          go_roundw
          case rel => exact ⟨k + 1, t, by omega, by go_num, by rw [div32_2, hsr.out], rfl, by rw [HK.out]; exact HTT.out, by rw [HK.out]; exact HO1.out, hB⟩
          case measure => simp [intOf]; omega
    · have h32 : k = 32 := by omega
      rw [h32] at HO1 HTT L1
      have q0 := Crc.sum_burst l b p hb
      rw [← HTT.out] at q0
      go_wp2_with fail
      refine (crcSum ao l cap wr (by omega) (HR.out _ hB) (HT.out _ hB)).mono ?_
      rintro e w5 ⟨rfl, rfl⟩
      go_wp2_with fail
      refine (crcSum' _ (Crc.turns l (Crc.bks b p (8 * l.length) 32)) _ c wr L1.out (by rw [L1.out]; omega) HO1.out.rd (HT.out _ hB)).mono ?_
      rintro e w5 ⟨rfl, rfl⟩
      have q1 : (n32 (Crc.sum l) != n32 (Crc.sum (Crc.turns l (Crc.bks b p (8 * l.length) 32)))) = t := by rw [← q0, bne, bne, n32_beq]
      clear q0 h32
      cases t
      · go_wp2
        go_ret
        exact ⟨rfl, hB⟩
      · go_wp2
        go_ret
        exact ⟨rfl, hB⟩
end Go.Proofs.YtihiomgnegcbbaaDoor
