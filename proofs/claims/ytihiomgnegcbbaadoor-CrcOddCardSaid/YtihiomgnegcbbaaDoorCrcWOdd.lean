/- The walk of CrcOdd. -/
import Derived.Test.YtihiomgnegcbbaaDoorCrcTurn
namespace Go.Proofs.YtihiomgnegcbbaaDoor
open Go.RowKit
/-- A place among M bits. -/
def plc (M : Nat) (x : Int) : Nat := ((x.tmod (M : Int) + (M : Int)) % (M : Int)).toNat
theorem plc_lt (M : Nat) (x : Int) (hM : 0 < M) : plc M x < M := by
  obtain ⟨_, _, i, hi, he⟩ := place x M hM
  unfold plc; rw [he]; simpa using hi
theorem plc_eq (M : Nat) (x : Int) (hM : 0 < M) : (x.tmod (M : Int) + (M : Int)) % (M : Int) = (plc M x : Int) := by
  obtain ⟨_, _, i, hi, he⟩ := place x M hM
  unfold plc; rw [he]; simp
set_option maxHeartbeats 1000000 in
theorem lawOdd (ao ap : Option Addr) (l : List (BitVec 8)) (ps : List Int) (cap capp : Nat) (w : World) (hl : l.length ≤ 140737488351232) (hlp : ps.length ≤ 140737488351232)
   (hpi : ∀ x ∈ ps, -9223372036854775808 ≤ x ∧ x ≤ 9223372036854775807) (hr : Rd w ao l) (hp : Rn w ap ps) (ht : Tab w) (hw : 0 < w.heap.size) :
   Calls Tryd.prog 9 #[.slice ao l.length cap, .slice ap ps.length capp] w fun e w' => e = .returned (.bool true) ∧ Below w.heap.size w w' := by
  have HPI := Lib.hid hpi
  clear hpi
  go_enter Tryd.func9, Tryd.ntmps9
  go_wp2_with fail
  refine (lawFirst w ht hw).mono ?_
  rintro e w1 ⟨rfl, hb1⟩
  by_cases hlen : 65536 < l.length
  · clear hr hp ht
    go_wp2
    go_ret
    exact ⟨rfl, hb1⟩
  by_cases h0 : l.length = 0
  · have hz : ((l.length : Int) == 0) = true := by rw [beq_iff_eq]; omega
    clear hr ht hp
    go_wp2
    go_ret
    exact ⟨rfl, hb1⟩
  have hz : ((l.length : Int) == 0) = false := by rw [beq_eq_false_iff_ne]; omega
  by_cases hodd : ps.length % 2 = 0
  · have hd : ((ps.length : Int) % 2 == 0) = true := by rw [beq_iff_eq]; omega
    clear hr ht hp hodd
    go_wp2
    go_ret
    exact ⟨rfl, hb1⟩
  have hd : ((ps.length : Int) % 2 == 0) = false := by rw [beq_eq_false_iff_ne]; omega
  by_cases hbig : 1001 < ps.length
  · clear hr ht hp hodd
    go_wp2
    go_ret
    exact ⟨rfl, hb1⟩
  have hle : l.length ≤ 65536 := by omega
  have hlp : ps.length ≤ 1001 := by omega
  have hpos : 0 < l.length := by omega
  have HR := Lib.hid (fun (w' : World) (hb : Below w.heap.size w w') => hr.on hb)
  have HP := Lib.hid (fun (w' : World) (hb : Below w.heap.size w w') => hp.on hb)
  have HT := Lib.hid (fun (w' : World) (hb : Below w.heap.size w w') => ht.below hb hw)
  have HODD := Lib.hid hodd
  clear hlen hr ht hp h0 hodd hbig
  go_wp2_with fail
  refine (bytesOf ao l cap w1 (by omega) (HR.out _ hb1)).mono ?_
  rintro e w2 ⟨v, rfl, hown, hb2⟩
  obtain ⟨g, c, rfl, hg, hc, hm, ho⟩ := owns_own hown hpos
  have hB2 := hb1.trans (hb2.mono hb1.size)
  have hgB : w.heap.size ≤ g := Nat.le_trans hb1.size hg
  have HO := Lib.hid ho
  clear hown hb2 hg ho
  go_wp2_with fail
  go_loopw [8] (fun i wr => ∃ k : Nat, k ≤ ps.length ∧ i = .int .i64 k ∧ Own wr g c 5 (Crc.turns l ((ps.take k).map (plc (8 * l.length)))) ∧ Below w.heap.size w wr) (fun i _ => ps.length - (intOf i).toNat)
  case atStart => exact ⟨0, Nat.zero_le _, rfl, HO.out, hB2⟩
  case round =>
    obtain ⟨k, hk, rfl, ho, hB⟩ := hrel
    by_cases hlt : k < ps.length
    · obtain ⟨b, o, rfl, hcc⟩ := (HP.out _ hB).resolve_left (by intro h; rw [h] at hlt; simp at hlt)
      have hcell := hcc k hlt
      obtain ⟨x, hx⟩ : ∃ x, ps.getD k 0 = x := ⟨_, rfl⟩
      rw [hx] at hcell
      have hS : (ps.take (k + 1)).map (plc (8 * l.length)) = (ps.take k).map (plc (8 * l.length)) ++ [plc (8 * l.length) x] := by
        rw [List.take_succ_eq_append_getElem hlt, List.map_append, ← hx]; simp [List.getD, hlt]
      have hxb : -9223372036854775808 ≤ x ∧ x ≤ 9223372036854775807 := HPI.out x (by rw [← hx]; simp [List.getD, hlt])
      obtain ⟨hx1, hx2⟩ := hxb
      obtain ⟨i1, i2, _⟩ := place x (8 * l.length) (by omega)
      have hpl := plc_eq (8 * l.length) x (by omega)
      have hpl2 := plc_lt (8 * l.length) x (by omega)
      have e8 : ((8 * l.length : Nat) : Int) = 8 * (l.length : Int) := by omega
      rw [e8] at i1 i2 hpl
      obtain ⟨q, hq⟩ : ∃ q, plc (8 * l.length) x = q := ⟨_, rfl⟩
      rw [hq] at hpl hpl2 hS
      have HS := Lib.hid hS
      have HO1 := Lib.hid ho
      have L1 := Lib.hid (Crc.turns_length ((ps.take k).map (plc (8 * l.length))) l)
      clear hcc hx e8 hq hS ho
      go_wp2_with fail
      rw [hpl]
      have k1 := lawTurn g c (Crc.turns l ((ps.take k).map (plc (8 * l.length)))) q wr (by rw [L1.out]; exact hpl2) (by rw [L1.out]; omega) HO1.out
      rw [L1.out] at k1
      refine k1.mono ?_
      clear k1
      rintro e w3 ⟨rfl, ho3, hB3⟩
      have hB4 := hB.trans (hB3 _ hgB)
      rw [← Crc.turns_snoc, ← HS.out] at ho3
      have HO3 := Lib.hid ho3
      clear hB3 ho3 hpl i1 i2 hcell HO1
      go_wp2
      go_roundw
      case rel => exact ⟨k + 1, by omega, by go_num, HO3.out, hB4⟩
      case measure => simp [intOf]; omega
    · rw [List.take_of_length_le (by omega)] at ho
      have HO3 := Lib.hid ho
      have L3 := Lib.hid (Crc.turns_length (ps.map (plc (8 * l.length))) l)
      clear ho
      go_wp2_with fail
      refine (crcSum ao l cap wr (by omega) (HR.out _ hB) (HT.out _ hB)).mono ?_
      rintro e w5 ⟨rfl, rfl⟩
      go_wp2_with fail
      refine (crcSum' _ (Crc.turns l (ps.map (plc (8 * l.length)))) _ c wr L3.out (by rw [L3.out]; omega) HO3.out.rd (HT.out _ hB)).mono ?_
      rintro e w5 ⟨rfl, rfl⟩
      have hne := Crc.sum_odd l (ps.map (plc (8 * l.length))) (fun j hj => by
        obtain ⟨x, _, rfl⟩ := List.mem_map.1 hj
        exact plc_lt _ _ (by omega)) (by rw [List.length_map]; have := HODD.out; omega)
      have q1 : (n32 (Crc.sum l) != n32 (Crc.sum (Crc.turns l (ps.map (plc (8 * l.length)))))) = true := by
        rw [bne_iff_ne]; exact fun h => hne (n32_inj h)
      clear hne
      go_wp2
      go_ret
      exact ⟨rfl, hB⟩
end Go.Proofs.YtihiomgnegcbbaaDoor
