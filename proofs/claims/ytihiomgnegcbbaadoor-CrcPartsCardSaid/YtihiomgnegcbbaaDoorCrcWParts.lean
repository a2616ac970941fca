/- The walk of CrcParts. -/
import Derived.Test.YtihiomgnegcbbaaDoorCrcRoom
import Derived.Test.YtihiomgnegcbbaaDoorAppend
namespace Go.Proofs.YtihiomgnegcbbaaDoor
open Go.RowKit
set_option maxRecDepth 100000 in
set_option maxHeartbeats 1000000 in
theorem lawParts (ax ay az : Option Addr) (x y z : List (BitVec 8)) (cx cy cz : Nat) (w : World)
   (hx : x.length ≤ 140737488351232) (hy : y.length ≤ 140737488351232) (hz : z.length ≤ 140737488351232) (rx : Rd w ax x) (ry : Rd w ay y) (rz : Rd w az z)
   (ny : ay = none → cy = 0) (nz : az = none → cz = 0) (ht : Tab w) (hw : 0 < w.heap.size) :
   Calls Tryd.prog 6 #[.slice ax x.length cx, .slice ay y.length cy, .slice az z.length cz] w fun e w' => e = .returned (.bool true) ∧ Below w.heap.size w w' := by
  obtain ⟨i0, hi, hz0, hz1, hz2⟩ := info_parts info_u8
  go_enter Tryd.func6, Tryd.ntmps6
  go_wp2_with fail
  refine (lawFirst w ht hw).mono ?_
  rintro e w1 ⟨rfl, hb1⟩
  by_cases l1 : 65536 < x.length
  · clear rx ry rz ny nz ht
    go_wp2
    go_ret
    exact ⟨rfl, hb1⟩
  by_cases l2 : 65536 < y.length
  · clear rx ry rz ny nz ht
    go_wp2
    go_ret
    exact ⟨rfl, hb1⟩
  by_cases l3 : 65536 < z.length
  · clear rx ry rz ny nz ht
    go_wp2
    go_ret
    exact ⟨rfl, hb1⟩
  have e1 : x.length ≤ 65536 := by omega
  have e2 : y.length ≤ 65536 := by omega
  have e3 : z.length ≤ 65536 := by omega
  have HX := Lib.hid (fun (w' : World) (hb : Below w.heap.size w w') => rx.on hb)
  have HY := Lib.hid (fun (w' : World) (hb : Below w.heap.size w w') => ry.on hb)
  have HZ := Lib.hid (fun (w' : World) (hb : Below w.heap.size w w') => rz.on hb)
  have HT := Lib.hid (fun (w' : World) (hb : Below w.heap.size w w') => ht.below hb hw)
  have NY := Lib.hid ny
  have NZ := Lib.hid nz
  clear l1 l2 l3 rx ry rz ht ny nz hx hy hz
  go_wp2_with fail
  refine (bytesOf ax x cx w1 (by omega) (HX.out _ hb1)).mono ?_
  rintro e w2 ⟨v1, rfl, ho1, hb2⟩
  have hB2 := hb1.trans (hb2.mono hb1.size)
  have hsz2 : w1.heap.size ≤ w2.heap.size := hb2.size
  clear hb2
  go_wp2_with (at_builtin; refine wpList_append_bytes rfl _ _ 22 rfl w1.heap.size 5 i0 Tryd.underlying22 hi hz0 hz1 hz2 _ _ x rfl ho1 ay _ cy y rfl rfl (HY.out _ hB2) NY.out (by omega) w.heap.size hB2 hb1.size hsz2 ?_)
  intro v2 w3 ho2 hB3
  have HLT := Lib.hid ho2.lt
  obtain ⟨hn2, a2, c2, rfl, r2, _, _, _, _⟩ := owns_rdn ho2
  obtain ⟨xy, hxy⟩ : ∃ xy, x ++ y = xy := ⟨_, rfl⟩
  rw [hxy] at hn2 r2 ho2
  have HN2 := Lib.hid hn2
  have R3 := Lib.hid r2
  have HXY := Lib.hid hxy
  clear hn2 r2 ho2 ho1 hB2 hsz2 hxy
  go_wp2_with fail
  refine (bytesOf' a2 xy _ c2 w3 HN2.out (by have := HN2.out; omega) R3.out).mono ?_
  rintro e w4 ⟨v3, rfl, ho3, hb4⟩
  have hsz4 : w3.heap.size ≤ w4.heap.size := hb4.size
  go_wp2_with (at_builtin; refine wpList_append_bytes rfl _ _ 22 rfl w3.heap.size 5 i0 Tryd.underlying22 hi hz0 hz1 hz2 _ _ xy rfl ho3 az _ cz z rfl rfl (HZ.out _ (hB3.trans (hb4.mono hB3.size))) NZ.out (by omega) w3.heap.size hb4 (Nat.le_refl _) hsz4 ?_)
  intro v4 w5 ho4 hb5
  obtain ⟨hn4, a4, c4, rfl, r4, _, _, _, _⟩ := owns_rdn ho4
  have hB5 := hB3.trans (hb5.mono hB3.size)
  have R5 := Lib.hid (R3.out.on hb5)
  have R6 := Lib.hid r4
  have U1 := Lib.hid (show Crc.upd (Crc.sum x) y = Crc.sum xy by rw [Crc.upd_sum, HXY.out])
  have U2 := Lib.hid (Crc.upd_sum xy z)
  have J1 := Lib.hid (show Crc.join (Crc.sum x) (Crc.sum y) (y.length : Int) = Crc.sum xy by rw [Crc.join_sum, HXY.out])
  have J2 := Lib.hid (Crc.join_sum y z)
  have J3 := Lib.hid (Crc.join_sum xy z)
  have J4 := Lib.hid (show Crc.join (Crc.sum x) (Crc.sum (y ++ z)) ((y.length : Int) + (z.length : Int)) = Crc.sum (xy ++ z) by
    have := Crc.join_sum x (y ++ z)
    rw [← List.append_assoc, HXY.out] at this
    rw [← this]; congr 1; simp)
  have J5 := Lib.hid (Crc.join_zero (Crc.sum x))
  obtain ⟨all, hall⟩ : ∃ all, xy ++ z = all := ⟨_, rfl⟩
  obtain ⟨yz, hyz⟩ : ∃ yz, y ++ z = yz := ⟨_, rfl⟩
  rw [hall] at hn4 R6 U2 J3 J4
  rw [hyz] at J2 J4
  have HN4 := Lib.hid hn4
  have S5 := Lib.hid (HX.out _ hB5)
  have S6 := Lib.hid (HY.out _ hB5)
  have S7 := Lib.hid (HZ.out _ hB5)
  have T5 := Lib.hid (HT.out _ hB5)
  clear ho4 ho3 hb4 hb5 r4 hn4 hall hyz HX HY HZ HT HXY HLT NY NZ hi hz0 hz1 hz2 R3 hB3 hb1
  go_wp2_with fail
  refine (crcSum ax x cx w5 (by omega) S5.out T5.out).mono ?_
  rintro e w6 ⟨rfl, rfl⟩
  go_wp2_with fail
  refine (crcSum ay y cy w5 (by omega) S6.out T5.out).mono ?_
  rintro e w6 ⟨rfl, rfl⟩
  go_wp2_with fail
  refine (crcSum az z cz w5 (by omega) S7.out T5.out).mono ?_
  rintro e w6 ⟨rfl, rfl⟩
  go_wp2_with fail
  refine (crcSum' a2 xy _ c2 w5 HN2.out (by have := HN2.out; omega) R5.out T5.out).mono ?_
  rintro e w6 ⟨rfl, rfl⟩
  go_wp2_with fail
  refine (crcSum' a4 all _ c4 w5 HN4.out (by have := HN4.out; omega) R6.out T5.out).mono ?_
  rintro e w6 ⟨rfl, rfl⟩
  go_wp2_with fail
  have k1 := crcUpdate (Crc.sum x) ay y cy w5 (by omega) S6.out T5.out
  rw [U1.out] at k1
  refine k1.mono ?_
  clear k1
  rintro e w6 ⟨rfl, rfl⟩
  go_wp2_with fail
  have k1 := crcUpdate (Crc.sum xy) az z cz w5 (by omega) S7.out T5.out
  rw [U2.out] at k1
  refine k1.mono ?_
  clear k1
  rintro e w6 ⟨rfl, rfl⟩
  go_wp2_with fail
  have k1 := crcJoin (Crc.sum x) (Crc.sum y) (y.length : Int) (by omega) w5
  rw [J1.out] at k1
  refine k1.mono ?_
  clear k1
  rintro e w6 ⟨rfl, hb6⟩
  have hB6 := hB5.trans (hb6.mono hB5.size)
  clear hb6 hB5
  go_wp2_with fail
  have k1 := crcJoin (Crc.sum y) (Crc.sum z) (z.length : Int) (by omega) w6
  rw [J2.out] at k1
  refine k1.mono ?_
  clear k1
  rintro e w7 ⟨rfl, hb7⟩
  have hB7 := hB6.trans (hb7.mono hB6.size)
  clear hb7 hB6
  go_wp2_with fail
  have k1 := crcJoin (Crc.sum xy) (Crc.sum z) (z.length : Int) (by omega) w7
  rw [J3.out] at k1
  refine k1.mono ?_
  clear k1
  rintro e w8 ⟨rfl, hb8⟩
  have hB8 := hB7.trans (hb8.mono hB7.size)
  clear hb8 hB7
  go_wp2_with fail
  have k1 := crcJoin (Crc.sum x) (Crc.sum yz) ((y.length : Int) + (z.length : Int)) (by omega) w8
  rw [J4.out] at k1
  refine k1.mono ?_
  clear k1
  rintro e w9 ⟨rfl, hb9⟩
  have hB9 := hB8.trans (hb9.mono hB8.size)
  clear hb9 hB8
  go_wp2_with fail
  have k1 := crcJoin (Crc.sum x) 0#32 0 (by omega) w9
  rw [J5.out, show n32 0#32 = 0 from by unfold n32; rfl] at k1
  refine k1.mono ?_
  clear k1
  rintro e w10 ⟨rfl, hb10⟩
  have hB10 := hB9.trans (hb10.mono hB9.size)
  clear hb10 hB9
  have q1 : (n32 (Crc.sum xy) == n32 (Crc.sum xy)) = true := beq_self_eq_true _
  have q2 : (n32 (Crc.sum all) == n32 (Crc.sum all)) = true := beq_self_eq_true _
  have q3 : (n32 (Crc.sum x) == n32 (Crc.sum x)) = true := beq_self_eq_true _
  go_wp2
  go_ret
  exact ⟨rfl, hB10⟩
end Go.Proofs.YtihiomgnegcbbaaDoor
