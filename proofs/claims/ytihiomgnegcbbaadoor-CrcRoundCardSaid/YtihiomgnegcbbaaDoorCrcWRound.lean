/- The walk of CrcRound. -/
import Derived.Test.YtihiomgnegcbbaaDoorCrcTurn
namespace Go.Proofs.YtihiomgnegcbbaaDoor
open Go.RowKit
set_option maxHeartbeats 1000000 in
theorem lawRound (a b : BitVec 32) (xn xm xt : Int) (w : World) (ht : Tab w) (hw : 0 < w.heap.size) :
   Calls Tryd.prog 12 #[.int .u32 (n32 a), .int .u32 (n32 b), .int .i64 xn, .int .i64 xm, .int .i64 xt] w fun e w' => e = .returned (.bool true) ∧ Below w.heap.size w w' := by
  go_enter Tryd.func12, Tryd.ntmps12
  go_wp2_with fail
  refine (lawFirst w ht hw).mono ?_
  rintro e w1 ⟨rfl, hb1⟩
  obtain ⟨n1, n2, n, hn, hnn⟩ := place xn 1099511627776 (by omega)
  obtain ⟨m1, m2, m, hm, hmm⟩ := place xm 1099511627776 (by omega)
  obtain ⟨t1, t2, t, htt, ht3⟩ := place xt 1000 (by omega)
  rw [show ((1099511627776 : Nat) : Int) = 1099511627776 from rfl] at n1 n2 hnn m1 m2 hmm
  rw [show ((1000 : Nat) : Int) = 1000 from rfl] at t1 t2 ht3
  clear ht
  go_wp2_with fail
  rw [hnn, hmm, ht3]
  clear hnn hmm ht3 n1 n2 m1 m2 t1 t2
  refine (crcJoin a b (n : Int) (by omega) w1).mono ?_
  rintro e w2 ⟨rfl, hb2⟩
  have hB2 := hb1.trans (hb2.mono hb1.size)
  clear hb2 hb1
  go_wp2_with fail
  have k1 := crcJoin a b ((n : Int) + (t : Int) * 2147483647) (by omega) w2
  rw [show (n : Int) + (t : Int) * 2147483647 = ((n + t * 2147483647 : Nat) : Int) by omega, Crc.join_round, show ((n + t * 2147483647 : Nat) : Int) = (n : Int) + (t : Int) * 2147483647 by omega] at k1
  refine k1.mono ?_
  clear k1
  rintro e w3 ⟨rfl, hb3⟩
  have hB3 := hB2.trans (hb3.mono hB2.size)
  clear hb3 hB2
  go_wp2_with fail
  have k1 := crcJoin a 0#32 (n : Int) (by omega) w3
  rw [show n32 0#32 = 0 from by unfold n32; rfl] at k1
  refine k1.mono ?_
  clear k1
  rintro e w4 ⟨rfl, hb4⟩
  have hB4 := hB3.trans (hb4.mono hB3.size)
  clear hb4 hB3
  go_wp2_with fail
  have k1 := crcJoin (Crc.join a 0#32 n) 0#32 (m : Int) (by omega) w4
  rw [show n32 0#32 = 0 from by unfold n32; rfl, Crc.join_join] at k1
  refine k1.mono ?_
  clear k1
  rintro e w5 ⟨rfl, hb5⟩
  have hB5 := hB4.trans (hb5.mono hB4.size)
  clear hb5 hB4
  rw [show ((n + m : Nat) : Int) = (n : Int) + (m : Int) by omega]
  go_wp2_with fail
  have k1 := crcJoin a 0#32 ((n : Int) + (m : Int)) (by omega) w5
  rw [show n32 0#32 = 0 from by unfold n32; rfl] at k1
  refine k1.mono ?_
  clear k1
  rintro e w6 ⟨rfl, hb6⟩
  have hB6 := hB5.trans (hb6.mono hB5.size)
  clear hb6 hB5
  obtain ⟨p, hp⟩ : ∃ p, Crc.join a b n = p := ⟨_, rfl⟩
  obtain ⟨q, hq⟩ : ∃ q, Crc.join a 0#32 ((n : Int) + (m : Int)) = q := ⟨_, rfl⟩
  rw [hp, hq]
  clear hp hq
  have q1 : (n32 p == n32 p) = true := beq_self_eq_true _
  have q2 : (n32 q == n32 q) = true := beq_self_eq_true _
  go_wp2
  go_ret
  exact ⟨rfl, hB6⟩
end Go.Proofs.YtihiomgnegcbbaaDoor
