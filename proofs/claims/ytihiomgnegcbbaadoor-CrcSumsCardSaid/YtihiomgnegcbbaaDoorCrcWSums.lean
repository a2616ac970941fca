/- The walk of CrcSums. -/
import Derived.Test.YtihiomgnegcbbaaDoorCrcRoom
namespace Go.Proofs.YtihiomgnegcbbaaDoor
open Go.RowKit
set_option maxHeartbeats 1000000 in
theorem lawSums (ao : Option Addr) (l : List (BitVec 8)) (cap : Nat) (at_ : Int) (x : BitVec 8) (w : World)
   (hll : l.length ≤ 140737488351232) (hr : Rd w ao l) (ht : Tab w) (hw : 0 < w.heap.size) :
   Calls Tryd.prog 3 #[.slice ao l.length cap, .int .i64 at_, .int .u8 (n8 x)] w fun e w' => e = .returned (.bool true) ∧ Below w.heap.size w w' := by
  go_enter Tryd.func3, Tryd.ntmps3
  go_wp2_with fail
  refine (lawFirst w ht hw).mono ?_
  rintro e w1 ⟨rfl, hb1⟩
  by_cases hlen : 65536 < l.length
  · clear hr ht
    go_wp2
    go_ret
    exact ⟨rfl, hb1⟩
  have hle : l.length ≤ 65536 := by omega
  have HR := Lib.hid (fun (w' : World) (hb : Below w.heap.size w w') => hr.on hb)
  have HT := Lib.hid (fun (w' : World) (hb : Below w.heap.size w w') => ht.below hb hw)
  clear hlen hr ht
  go_wp2_with fail
  refine (lawRoom ao l cap w1 (by omega) (HR.out _ hb1)).mono ?_
  rintro e w2 ⟨g, c, rfl, hc, hm, hg, ho, hb2⟩
  have hB2 := hb1.trans (hb2.mono hb1.size)
  unfold maxLen at hm
  have HO := Lib.hid ho
  clear ho hb2
  go_wp2_with fail
  refine (crcSum' _ l _ _ w2 rfl (by omega) HO.out.pre.rd (HT.out _ hB2)).mono ?_
  rintro e w3 ⟨rfl, rfl⟩
  go_wp2_with fail
  refine (refSum ao l cap w2 (by omega) (HR.out _ hB2)).mono ?_
  rintro e w3 ⟨rfl, rfl⟩
  go_wp2_with fail
  refine (lawRoom ao l cap w2 (by omega) (HR.out _ hB2)).mono ?_
  rintro e w3 ⟨g2, c2, rfl, hc2, hm2, hg2, ho2, hb3⟩
  have hB3 := hB2.trans (hb3.mono hB2.size)
  have HO3 := Lib.hid (HO.out.below hb3 HO.out.lt)
  have HO2 := Lib.hid ho2
  unfold maxLen at hm2
  clear ho2 hb3 HO
  go_wp2_with fail
  have h3 : (l ++ t3).length = l.length + 3 := by simp [t3]
  refine (sameBytes' _ _ (l ++ t3) (l ++ t3) _ _ _ _ w3 h3 h3 (by omega) (by omega) HO3.out.rd HO2.out.rd).mono ?_
  rintro e w4 ⟨rfl, hst⟩
  have hB4 := hB3.trans (hst.below _)
  have HO4 := Lib.hid (HO3.out.still hst)
  clear h3 hst HO3 HO2 hB3 hB2
  rw [beq_self_eq_true]
  have hn0 : (n32 (Crc.sum l) != n32 (Crc.sum l)) = false := by simp
  by_cases h0 : l.length = 0
  · have hz : ((l.length : Int) == 0) = true := by rw [beq_iff_eq]; omega
    clear h0
    go_wp2
    go_ret
    exact ⟨rfl, hB4⟩
  have hz : ((l.length : Int) == 0) = false := by rw [beq_eq_false_iff_ne]; omega
  have hpos : 0 < l.length := by omega
  have hb1' : -(l.length : Int) < at_.tmod l.length := by have := Int.lt_tmod_of_pos at_ (b := (l.length : Int)) (by omega); omega
  have hb2' : at_.tmod l.length < (l.length : Int) := Int.tmod_lt_of_pos at_ (by omega)
  obtain ⟨i, hi, hidx⟩ : ∃ i : Nat, i < l.length ∧ (at_.tmod (l.length : Int) + (l.length : Int)) % (l.length : Int) = (i : Int) := by
    have h1 := Int.emod_nonneg (at_.tmod (l.length : Int) + (l.length : Int)) (b := (l.length : Int)) (by omega)
    have h2 := Int.emod_lt_of_pos (at_.tmod (l.length : Int) + (l.length : Int)) (b := (l.length : Int)) (by omega)
    exact ⟨_, by omega, (Int.toNat_of_nonneg h1).symm⟩
  have hcell := HO4.out.pre.cell i hi
  have hfree := HO4.out.pre.free i
  obtain ⟨y, hy⟩ : ∃ y, l.getD i 0#8 = y := ⟨_, rfl⟩
  rw [hy] at hcell
  clear h0 hy
  go_wp2_with fail
  have hgB : w.heap.size ≤ g := Nat.le_trans hb1.size hg
  have HO5 := Lib.hid (HO4.out.pre.set i (y ^^^ x))
  have hB5 := hB4.setCell (p := ⟨g, i, none⟩) hgB (.int .u8 (n8 (y ^^^ x)))
  have hls : (l.set i (y ^^^ x)).length = l.length := List.length_set
  refine (crcSum' _ (l.set i (y ^^^ x)) _ _ _ hls (by omega) HO5.out.rd (HT.out _ hB5)).mono ?_
  rintro e w5 ⟨rfl, rfl⟩
  go_wp2_with fail
  refine (refSum' _ (l.set i (y ^^^ x)) _ _ _ hls (by omega) HO5.out.rd).mono ?_
  rintro e w5 ⟨rfl, rfl⟩
  clear hls hcell hfree
  go_wp2
  go_ret
  exact ⟨rfl, hB5⟩
end Go.Proofs.YtihiomgnegcbbaaDoor
