/- The walk of CrcTwo. -/
import Derived.Test.YtihiomgnegcbbaaDoorCrcTurn
namespace Go.Proofs.YtihiomgnegcbbaaDoor
open Go.RowKit
set_option maxRecDepth 100000 in
set_option maxHeartbeats 1000000 in
theorem lawTwo (ao : Option Addr) (l : List (BitVec 8)) (cap : Nat) (xi xk xf : Int) (w : World) (hl : l.length ≤ 140737488351232) (hr : Rd w ao l) (ht : Tab w) (hw : 0 < w.heap.size) :
   Calls Tryd.prog 10 #[.slice ao l.length cap, .int .i64 xi, .int .i64 xk, .int .i64 xf] w fun e w' => e = .returned (.bool true) ∧ Below w.heap.size w w' := by
  go_enter Tryd.func10, Tryd.ntmps10
  go_wp2_with fail
  refine (lawFirst w ht hw).mono ?_
  rintro e w1 ⟨rfl, hb1⟩
  by_cases hlen : 65536 < l.length
  · clear hr ht
    go_wp2
    go_ret
    exact ⟨rfl, hb1⟩
  by_cases h0 : l.length = 0
  · have hz : ((l.length : Int) == 0) = true := by rw [beq_iff_eq]; omega
    clear hr ht
    go_wp2
    go_ret
    exact ⟨rfl, hb1⟩
  have hle : l.length ≤ 65536 := by omega
  have hz : ((l.length : Int) == 0) = false := by rw [beq_eq_false_iff_ne]; omega
  have hpos : 0 < l.length := by omega
  obtain ⟨i1, i2, i, hi, hii⟩ := place xi (8 * l.length) (by omega)
  obtain ⟨k1, k2, k, hk, hkk⟩ := place xk (8 * l.length) (by omega)
  obtain ⟨f1, f2, f, hf, hff⟩ := place xf 268435454 (by omega)
  rw [show ((268435454 : Nat) : Int) = 268435454 from rfl] at f1 f2 hff
  have HR := Lib.hid (fun (w' : World) (hb : Below w.heap.size w w') => hr.on hb)
  have HT := Lib.hid (fun (w' : World) (hb : Below w.heap.size w w') => ht.below hb hw)
  have e8 : ((8 * l.length : Nat) : Int) = 8 * (l.length : Int) := by omega
  rw [e8] at i1 i2 hii k1 k2 hkk
  have hff' : (xf.tmod 268435454 + 268435456 - 2) % 268435454 = (f : Int) := by rw [← hff]; congr 1; omega
  clear hlen hr ht h0 e8
  go_wp2_with fail
  rw [hii, hkk]
  have HF := Lib.hid hff'
  clear hii hkk hff hff' i1 i2 k1 k2
  refine (bytesOf ao l cap w1 (by omega) (HR.out _ hb1)).mono ?_
  rintro e w2 ⟨v, rfl, hown, hb2⟩
  obtain ⟨g, c, rfl, hg, hc, hm, ho⟩ := owns_own hown hpos
  have hB2 := hb1.trans (hb2.mono hb1.size)
  have hgB : w.heap.size ≤ g := Nat.le_trans hb1.size hg
  clear hown hb2 hg
  go_wp2_with fail
  refine (lawTurn g c l i w2 (by omega) (by omega) ho).mono ?_
  rintro e w3 ⟨rfl, ho3, hB3⟩
  have hB3 := hB2.trans (hB3 _ hgB)
  have l3 : (Crc.turn l i).length = l.length := Crc.turn_length l i
  have H3 := Lib.hid ho3
  clear ho3 hB2 ho
  go_wp2_with fail
  have k1 := lawTurn g c (Crc.turn l i) k w3 (by omega) (by omega) H3.out
  rw [l3] at k1
  refine k1.mono ?_
  clear k1
  rintro e w4 ⟨rfl, ho4, hB4⟩
  have hB4 := hB3.trans (hB4 _ hgB)
  have l4 : (Crc.turn (Crc.turn l i) k).length = l.length := by rw [Crc.turn_length, l3]
  have H4 := Lib.hid ho4
  have L4 := Lib.hid l4
  clear ho4 hB3 H3 l3 l4
  go_wp2_with fail
  refine (crcSum ao l cap w4 (by omega) (HR.out _ hB4) (HT.out _ hB4)).mono ?_
  rintro e w5 ⟨rfl, rfl⟩
  go_wp2_with fail
  refine (crcSum' _ (Crc.turn (Crc.turn l i) k) _ c w4 L4.out (by rw [L4.out]; omega) H4.out.rd (HT.out _ hB4)).mono ?_
  rintro e w5 ⟨rfl, rfl⟩
  have ht2 := Crc.sum_two l i k hi hk (by omega)
  go_wp2_with fail
  rw [HF.out]
  clear f1 f2
  obtain ⟨m, hm8, him⟩ : ∃ m : Nat, m < 8 ∧ i % 8 = m := ⟨i % 8, Nat.mod_lt _ (by omega), rfl⟩
  have hB5 := hB4.alloc hB4.size (.cells #[Value.int .u8 1] 5)
  have e1 : bts [1#8] = [.int .u8 1] := by unfold bts n8; rfl
  have e0 : bts [0#8] = [.int .u8 0] := by unfold bts n8; rfl
  refine (crcSum' _ [1#8] 1 1 _ rfl (by simp) (Rd_new w4 _ #[Value.int .u8 1] _ _ e1.symm) (HT.out _ hB5)).mono ?_
  rintro e w6 ⟨rfl, rfl⟩
  generalize w4.alloc (.cells #[Value.int .u8 1] 5) = w5 at hB5 ⊢
  go_wp2_with fail
  have k1 := crcJoin (Crc.sum [1#8]) 0#32 ((f : Int) + 1) (by omega) w5
  rw [show n32 0#32 = 0 from by unfold n32; rfl] at k1
  refine k1.mono ?_
  clear k1
  rintro e w6 ⟨rfl, hb6⟩
  have hB6 := hB5.trans (hb6.mono hB5.size)
  clear hb6 hB5 hB4
  go_wp2_with fail
  have hB7 := hB6.alloc hB6.size (.cells #[Value.int .u8 0] 5)
  refine (crcSum' _ [0#8] 1 1 _ rfl (by simp) (Rd_new w6 _ #[Value.int .u8 0] _ _ e0.symm) (HT.out _ hB7)).mono ?_
  rintro e w7 ⟨rfl, rfl⟩
  generalize w6.alloc (.cells #[Value.int .u8 0] 5) = w7 at hB7 ⊢
  go_wp2_with fail
  have k1 := crcJoin (Crc.sum [0#8]) 0#32 ((f : Int) + 1) (by omega) w7
  rw [show n32 0#32 = 0 from by unfold n32; rfl] at k1
  refine k1.mono ?_
  clear k1
  rintro e w8 ⟨rfl, hb8⟩
  have hB8 := hB7.trans (hb8.mono hB7.size)
  clear hb8 hB7 hB6
  have hfar := Crc.far_ne f m hm8 hf
  rw [show ((f + 1 : Nat) : Int) = (f : Int) + 1 by omega] at hfar
  have hsh := shl8 m
  have hii : (i : Int) % 8 = (m : Int) := by omega
  go_wp2_with fail
  have hB9 := hB8.alloc hB8.size (.cells #[Value.int .u8 (n8 (1#8 <<< m))] 5)
  refine (crcSum' _ [1#8 <<< m] 1 1 _ rfl (by simp) (Rd_new w8 _ #[Value.int .u8 (n8 (1#8 <<< m))] _ _ rfl) (HT.out _ hB9)).mono ?_
  rintro e w9 ⟨rfl, rfl⟩
  generalize w8.alloc (.cells #[Value.int .u8 (n8 (1#8 <<< m))] 5) = w9 at hB9 ⊢
  clear hsh hii
  go_wp2_with fail
  have hBa := hB9.alloc hB9.size (.cells #[Value.int .u8 0] 5)
  refine (crcSum' _ [0#8] 1 1 _ rfl (by simp) (Rd_new w9 _ #[Value.int .u8 0] _ _ e0.symm) (HT.out _ hBa)).mono ?_
  rintro e wa ⟨rfl, rfl⟩
  generalize w9.alloc (.cells #[Value.int .u8 0] 5) = wa at hBa ⊢
  have q1 : (n32 (Crc.sum l) != n32 (Crc.sum (Crc.turn (Crc.turn l i) k))) = (i != k) := by rw [← ht2, bne, bne, n32_beq]
  have q3 : (n32 (Crc.join (Crc.sum [1#8]) 0#32 ((f : Int) + 1) ^^^ Crc.join (Crc.sum [0#8]) 0#32 ((f : Int) + 1)) != n32 (Crc.sum [1#8 <<< m] ^^^ Crc.sum [0#8])) = true := by
    rw [bne_iff_ne]; exact fun h => hfar (n32_inj h)
  obtain ⟨a1, ha1⟩ : ∃ x, Crc.sum l = x := ⟨_, rfl⟩
  obtain ⟨a2, ha2⟩ : ∃ x, Crc.sum (Crc.turn (Crc.turn l i) k) = x := ⟨_, rfl⟩
  obtain ⟨a3, ha3⟩ : ∃ x, Crc.join (Crc.sum [1#8]) 0#32 ((f : Int) + 1) = x := ⟨_, rfl⟩
  obtain ⟨a4, ha4⟩ : ∃ x, Crc.join (Crc.sum [0#8]) 0#32 ((f : Int) + 1) = x := ⟨_, rfl⟩
  obtain ⟨a5, ha5⟩ : ∃ x, Crc.sum [1#8 <<< m] = x := ⟨_, rfl⟩
  obtain ⟨a6, ha6⟩ : ∃ x, Crc.sum [0#8] = x := ⟨_, rfl⟩
  rw [ha1, ha2] at q1
  rw [ha3, ha4, ha5, ha6] at q3
  rw [ha1, ha2, ha3, ha4, ha5, ha6]
  clear ha1 ha2 ha3 ha4 ha5 ha6 hfar ht2 HR HT HF L4 H4 hB9 hB8 e0 e1 him hb1
  by_cases hik : i = k
  · have q2 : ((i : Int) != (k : Int)) = false := by simp [hik]
    rw [show (i != k) = false by simp [hik]] at q1
    clear hik
    go_wp2
    go_ret
    exact ⟨rfl, hBa⟩
  · have q2 : ((i : Int) != (k : Int)) = true := by rw [bne_iff_ne]; omega
    rw [show (i != k) = true by simp [hik]] at q1
    clear hik
    go_wp2
    go_ret
    exact ⟨rfl, hBa⟩
end Go.Proofs.YtihiomgnegcbbaaDoor
