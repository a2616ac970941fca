/- The walk of LanePlace. -/
import Derived.Test.YtihndipgdogebaaLaneSeven
namespace Go.Proofs.Ytihndipgdogebaa
open Go.RowKit
theorem lawPlace_n0 (k m : List (BitVec 8)) (side : Int) (ao bo : Option Addr) (ca cb : Nat) (w : World) (h : ¬ k.length = 32) : Calls Try.prog 12 #[.slice ao k.length ca, .slice bo m.length cb, .int .i64 side] w fun e w' => e = .returned (.bool true) ∧ Below w.heap.size w w' := by
  have e1 : ((k.length : Int) != 32) = true := by rw [bne_iff_ne]; omega
  clear h
  go_enter Try.func12, Try.ntmps12
  go_wp2_with fail
  refine (laneKnown _).mono ?_
  rintro e w1 ⟨rfl, hb⟩
  go_wp2_with fail
  go_ret
  exact ⟨rfl, hb⟩
theorem lawPlace_n1 (k m : List (BitVec 8)) (side : Int) (ao bo : Option Addr) (ca cb : Nat) (w : World) (h : k.length = 32) (h2 : ¬ m.length = 32) : Calls Try.prog 12 #[.slice ao k.length ca, .slice bo m.length cb, .int .i64 side] w fun e w' => e = .returned (.bool true) ∧ Below w.heap.size w w' := by
  have e1 : ((k.length : Int) != 32) = false := by rw [bne_eq_false_iff_eq]; omega
  have e2 : ((m.length : Int) != 32) = true := by rw [bne_iff_ne]; omega
  clear h h2
  go_enter Try.func12, Try.ntmps12
  go_wp2_with fail
  refine (laneKnown _).mono ?_
  rintro e w1 ⟨rfl, hb⟩
  go_wp2_with fail
  go_ret
  exact ⟨rfl, hb⟩
theorem lawPlace_n2 (k m : List (BitVec 8)) (side : Int) (ao bo : Option Addr) (ca cb : Nat) (w : World) (h : k.length = 32) (h2 : m.length = 32) (h3 : ¬ 0 ≤ side) : Calls Try.prog 12 #[.slice ao k.length ca, .slice bo m.length cb, .int .i64 side] w fun e w' => e = .returned (.bool true) ∧ Below w.heap.size w w' := by
  have e1 : ((k.length : Int) != 32) = false := by rw [bne_eq_false_iff_eq]; omega
  have e2 : ((m.length : Int) != 32) = false := by rw [bne_eq_false_iff_eq]; omega
  clear h h2
  go_enter Try.func12, Try.ntmps12
  go_wp2_with fail
  refine (laneKnown _).mono ?_
  rintro e w1 ⟨rfl, hb⟩
  go_wp2_with fail
  go_ret
  exact ⟨rfl, hb⟩
theorem lawPlace_n3 (k m : List (BitVec 8)) (side : Int) (ao bo : Option Addr) (ca cb : Nat) (w : World) (h : k.length = 32) (h2 : m.length = 32) (h3 : 0 ≤ side) (h4 : ¬ side ≤ 1) : Calls Try.prog 12 #[.slice ao k.length ca, .slice bo m.length cb, .int .i64 side] w fun e w' => e = .returned (.bool true) ∧ Below w.heap.size w w' := by
  have e1 : ((k.length : Int) != 32) = false := by rw [bne_eq_false_iff_eq]; omega
  have e2 : ((m.length : Int) != 32) = false := by rw [bne_eq_false_iff_eq]; omega
  clear h h2
  go_enter Try.func12, Try.ntmps12
  go_wp2_with fail
  refine (laneKnown _).mono ?_
  rintro e w1 ⟨rfl, hb⟩
  go_wp2_with fail
  go_ret
  exact ⟨rfl, hb⟩
theorem bytesOf32 (ao : Option Addr) (l : List (BitVec 8)) (cap : Nat) (w : World) (hl : l.length = 32) (hr : Rd w ao l) :
   Calls Try.prog 41 #[.slice ao 32 cap] w fun e w' => ∃ g c, e = .returned (.slice (some ⟨g, 0, none⟩) 32 c) ∧ w.heap.size ≤ g ∧ Own w' g c 5 l ∧ Below w.heap.size w w' := by
  have h := bytesOf ao l cap w (by omega) hr
  rw [hl] at h
  refine h.mono ?_
  rintro e w' ⟨v, rfl, hown, hb⟩
  obtain ⟨g, c, rfl, hg, _, _, hO⟩ := owns_own (n := 32) hown (by omega)
  exact ⟨g, c, by rw [hl], hg, hO, hb⟩
theorem laneSeven32 (key : List (BitVec 8)) (side : Int) (ao : Option Addr) (cap : Nat) (w : World) (hk : key.length = 32) (h0 : 0 ≤ side) (h1 : side ≤ 1) (hr : Rd w ao key) :
   Calls Try.prog 42 #[.slice ao 32 cap, .int .i64 side] w fun e w' => ∃ a0 d0 a1 d1 a2 d2 a3 d3 a4 d4 a5 d5 a6 d6, e = .returned (.agg #[.slice a0 32 d0, .slice a1 32 d1, .slice a2 32 d2, .slice a3 32 d3, .slice a4 32 d4, .slice a5 32 d5, .slice a6 32 d6]) ∧ Mine w' w.heap.size 5 a0 d0 key ∧ Mine w' w.heap.size 5 a1 d1 key ∧ Mine w' w.heap.size 5 a2 d2 key ∧ Mine w' w.heap.size 5 a3 d3 key ∧ Mine w' w.heap.size 5 a4 d4 key ∧ Mine w' w.heap.size 5 a5 d5 key ∧ Mine w' w.heap.size 5 a6 d6 key ∧ Below w.heap.size w w' := by
  have h := laneSeven key side ao cap w hk h0 h1 hr
  rw [hk] at h
  exact h
theorem same32 (a b : Option Addr) (l : List (BitVec 8)) (c1 c2 : Nat) (w : World) (hl : l.length = 32) (hr : Rd w a l) (hs : Rd w b l) :
   Calls Try.prog 38 #[.slice a 32 c1, .slice b 32 c2] w fun e w' => e = .returned (.bool true) ∧ Still w w' := by
  have h := sameBytes a b l l c1 c2 w (by omega) (by omega) hr hs
  rw [hl, show (l == l) = true by simp] at h
  exact h
theorem take_drop_set (m k : List (BitVec 8)) (j : Nat) (hj : j < k.length) (hl : m.length = k.length) : (m.take j ++ k.drop j).set j (m.getD j 0#8) = m.take (j + 1) ++ k.drop (j + 1) := by
  refine List.ext_getElem (by simp; omega) fun i h1 h2 => ?_
  simp only [List.getElem_set, List.getElem_append, List.length_take, List.getElem_take, List.getElem_drop]
  by_cases hik : j = i
  · subst hik
    rw [if_pos rfl, dif_pos (by omega)]
    simp [List.getD, show j < m.length by omega]
  · simp only [hik, if_false]
    by_cases hi2 : i < j
    · rw [dif_pos (by omega), dif_pos (by omega)]
    · rw [dif_neg (by omega), dif_neg (by omega)]
      congr 1
      omega
set_option maxRecDepth 100000 in
set_option maxHeartbeats 3000000 in
theorem lawPlace_y (k m : List (BitVec 8)) (side : Int) (ao bo : Option Addr) (ca cb : Nat) (w : World) (h : k.length = 32) (h2 : m.length = 32) (h3 : 0 ≤ side) (h4 : side ≤ 1) (hr : Rd w ao k) (hs : Rd w bo m) : Calls Try.prog 12 #[.slice ao k.length ca, .slice bo m.length cb, .int .i64 side] w fun e w' => e = .returned (.bool true) ∧ Below w.heap.size w w' := by
  rw [h, h2]
  have HK := Lib.hid h
  have HM := Lib.hid h2
  clear h h2
  go_enter Try.func12, Try.ntmps12
  go_wp2_with fail
  refine (laneKnown _).mono ?_
  rintro e w1 ⟨rfl, hb1⟩
  go_wp2_with fail
  refine (bytesOf32 ao k ca _ HK.out (hr.on hb1)).mono ?_
  rintro e w2 ⟨g, cr, rfl, hg, hO, hb2⟩
  have HB := Lib.hid (hb1.trans (hb2.mono hb1.size))
  have hgw : w.heap.size ≤ g := Nat.le_trans hb1.size hg
  clear hb1 hb2 hg
  go_wp2_with fail
  refine (laneSeven32 k side (some ⟨g, 0, none⟩) cr _ HK.out h3 h4 hO.rd).mono ?_
  rintro e w3 ⟨a0, d0, a1, d1, a2, d2, a3, d3, a4, d4, a5, d5, a6, d6, rfl, M0, M1, M2, M3, M4, M5, M6, hb⟩
  have hO3 := hO.below hb hO.lt
  have hg2 := hO.lt
  have HB3 := Lib.hid (HB.out.trans (hb.mono HB.out.size))
  clear hO HB
  go_wp2_with fail
  generalize hU : w3.alloc (.cells #[.slice a0 32 d0, .slice a1 32 d1, .slice a2 32 d2, .slice a3 32 d3, .slice a4 32 d4, .slice a5 32 d5, .slice a6 32 d6] 73 (0, 0)) = U
  have hz : U.heap.size = w3.heap.size + 1 := by rw [← hU]; exact alloc_size _ _
  have X := Lib.hid (show U.heap[w3.heap.size]? = some (.cells #[.slice a0 32 d0, .slice a1 32 d1, .slice a2 32 d2, .slice a3 32 d3, .slice a4 32 d4, .slice a5 32 d5, .slice a6 32 d6] 73 (0, 0)) by rw [← hU]; exact heap_alloc_new _ _)
  have HBU := Lib.hid (show Below w.heap.size w U by rw [← hU]; exact below_push HB3.out)
  have hOU := hO3.alloc (.cells #[.slice a0 32 d0, .slice a1 32 d1, .slice a2 32 d2, .slice a3 32 d3, .slice a4 32 d4, .slice a5 32 d5, .slice a6 32 d6] 73 (0, 0))
  rw [hU] at hOU
  have N0 := Mine.below M0 (fresh1 w3 (.cells #[.slice a0 32 d0, .slice a1 32 d1, .slice a2 32 d2, .slice a3 32 d3, .slice a4 32 d4, .slice a5 32 d5, .slice a6 32 d6] 73 (0, 0)))
  rw [hU] at N0
  have N1 := Mine.below M1 (fresh1 w3 (.cells #[.slice a0 32 d0, .slice a1 32 d1, .slice a2 32 d2, .slice a3 32 d3, .slice a4 32 d4, .slice a5 32 d5, .slice a6 32 d6] 73 (0, 0)))
  rw [hU] at N1
  have N2 := Mine.below M2 (fresh1 w3 (.cells #[.slice a0 32 d0, .slice a1 32 d1, .slice a2 32 d2, .slice a3 32 d3, .slice a4 32 d4, .slice a5 32 d5, .slice a6 32 d6] 73 (0, 0)))
  rw [hU] at N2
  have N3 := Mine.below M3 (fresh1 w3 (.cells #[.slice a0 32 d0, .slice a1 32 d1, .slice a2 32 d2, .slice a3 32 d3, .slice a4 32 d4, .slice a5 32 d5, .slice a6 32 d6] 73 (0, 0)))
  rw [hU] at N3
  have N4 := Mine.below M4 (fresh1 w3 (.cells #[.slice a0 32 d0, .slice a1 32 d1, .slice a2 32 d2, .slice a3 32 d3, .slice a4 32 d4, .slice a5 32 d5, .slice a6 32 d6] 73 (0, 0)))
  rw [hU] at N4
  have N5 := Mine.below M5 (fresh1 w3 (.cells #[.slice a0 32 d0, .slice a1 32 d1, .slice a2 32 d2, .slice a3 32 d3, .slice a4 32 d4, .slice a5 32 d5, .slice a6 32 d6] 73 (0, 0)))
  rw [hU] at N5
  have N6 := Mine.below M6 (fresh1 w3 (.cells #[.slice a0 32 d0, .slice a1 32 d1, .slice a2 32 d2, .slice a3 32 d3, .slice a4 32 d4, .slice a5 32 d5, .slice a6 32 d6] 73 (0, 0)))
  rw [hU] at N6
  have hg3 : g < w3.heap.size := Nat.lt_of_lt_of_le hg2 hb.size
  clear hU hO3 HB3 M0 M1 M2 M3 M4 M5 M6 hb
  obtain ⟨mb, mo, rfl, hmc⟩ := hs.at (by rw [HM.out]; omega)
  have hmb : mb < w.heap.size := lt_of_rd (hmc 0 (by rw [HM.out]; omega))
  have HMC := Lib.hid hmc
  have HS := Lib.hid hs
  clear hmc hs
  go_loopw [9] (fun i wr => ∃ j : Nat, j ≤ 32 ∧ i = .int .i64 j ∧ Own wr g cr 5 (m.take j ++ k.drop j) ∧ Only (fun b => b = g) U wr) (fun i _ => 32 - (intOf i).toNat)
  case atStart => exact ⟨0, Nat.zero_le _, rfl, by simpa using hOU, Only.refl _ _⟩
  case round =>
    obtain ⟨j, hj, rfl, hO, hOn⟩ := hrel
    by_cases hlt : j < 32
    · have hc : wr.cell? ⟨mb, mo + j, none⟩ = some (.int .u8 (n8 (m.getD j 0#8))) := ((hOn.below (B := w.heap.size) (fun b hb => by omega) HBU.out.size).cell hmb).trans ((HBU.out.cell hmb).trans (HMC.out j (by rw [HM.out]; omega)))
      have hset := hO.set j (m.getD j 0#8)
      rw [take_drop_set m k j (by rw [HK.out]; exact hlt) (by rw [HK.out, HM.out])] at hset
      have hd := hO.cell j (by simp [HM.out, HK.out]; omega)
      have hf := hO.free j
      generalize m.getD j 0#8 = x at hc hset
      generalize (m.take j ++ k.drop j).getD j 0#8 = y at hd
      have HSet := Lib.hid hset
      have HOn := Lib.hid hOn
      have hj0 : (0 : Int) ≤ (j : Int) := by omega
      clear hset hO hOn
      go_wp2_with fail
      go_roundw
      case rel => exact ⟨j + 1, by omega, by go_num, HSet.out, HOn.out.trans (Only.setCell _ _ _ _)⟩
      case measure => simp [intOf]; omega
    · obtain rfl : j = 32 := by omega
      have hO2 : Own wr g cr 5 m := by
        have h := hO
        rw [List.take_of_length_le (by rw [HM.out]; exact Nat.le_refl _), List.drop_of_length_le (by rw [HK.out]; exact Nat.le_refl _), List.append_nil] at h
        exact h
      clear hO hOU hlt
      go_wp2_with fail
      have hBr := HBU.out.trans (hOn.below (B := w.heap.size) (fun b hb => by omega) HBU.out.size)
      have P0 := Mine.only N0 hOn (fun a ha => by have h := Mine.at N0 a ha; omega)
      have P1 := Mine.only N1 hOn (fun a ha => by have h := Mine.at N1 a ha; omega)
      have P2 := Mine.only N2 hOn (fun a ha => by have h := Mine.at N2 a ha; omega)
      have P3 := Mine.only N3 hOn (fun a ha => by have h := Mine.at N3 a ha; omega)
      have P4 := Mine.only N4 hOn (fun a ha => by have h := Mine.at N4 a ha; omega)
      have P5 := Mine.only N5 hOn (fun a ha => by have h := Mine.at N5 a ha; omega)
      have P6 := Mine.only N6 hOn (fun a ha => by have h := Mine.at N6 a ha; omega)
      have X2 : wr.heap[w3.heap.size]? = some (.cells #[.slice a0 32 d0, .slice a1 32 d1, .slice a2 32 d2, .slice a3 32 d3, .slice a4 32 d4, .slice a5 32 d5, .slice a6 32 d6] 73 (0, 0)) := (hOn.block (w3.heap.size) (by omega) (by omega)).trans X.out
      have hzr : w3.heap.size < wr.heap.size := by have := hOn.size; omega
      clear N0 N1 N2 N3 N4 N5 N6 X hOn HBU
      refine (laneSeven32 m side (some ⟨g, 0, none⟩) cr _ HM.out h3 h4 hO2.rd).mono ?_
      rintro e w5 ⟨a'0, d'0, a'1, d'1, a'2, d'2, a'3, d'3, a'4, d'4, a'5, d'5, a'6, d'6, rfl, M0, M1, M2, M3, M4, M5, M6, hb⟩
      have HB5 := Lib.hid (hBr.trans (hb.mono hBr.size))
      have X5 := Lib.hid (show w5.heap[w3.heap.size]? = some (.cells #[.slice a0 32 d0, .slice a1 32 d1, .slice a2 32 d2, .slice a3 32 d3, .slice a4 32 d4, .slice a5 32 d5, .slice a6 32 d6] 73 (0, 0)) from (hb.block _ hzr).trans X2)
      have hz5 : w3.heap.size < w5.heap.size := by have := hb.size; omega
      have Q0 := Mine.below P0 hb
      have Q1 := Mine.below P1 hb
      have Q2 := Mine.below P2 hb
      have Q3 := Mine.below P3 hb
      have Q4 := Mine.below P4 hb
      have Q5 := Mine.below P5 hb
      have Q6 := Mine.below P6 hb
      clear P0 P1 P2 P3 P4 P5 P6 X2 hb hBr hO2
      go_wp2_with fail
      generalize hU : w5.alloc (.cells #[.slice a'0 32 d'0, .slice a'1 32 d'1, .slice a'2 32 d'2, .slice a'3 32 d'3, .slice a'4 32 d'4, .slice a'5 32 d'5, .slice a'6 32 d'6] 73 (0, 0)) = U2
      have HB6 := Lib.hid (show Below w.heap.size w U2 by rw [← hU]; exact below_push HB5.out)
      have XA := Lib.hid (show U2.heap[w3.heap.size]? = some (.cells #[.slice a0 32 d0, .slice a1 32 d1, .slice a2 32 d2, .slice a3 32 d3, .slice a4 32 d4, .slice a5 32 d5, .slice a6 32 d6] 73 (0, 0)) by rw [← hU]; exact (alloc_old _ _ _ hz5).trans X5.out)
      have XB := Lib.hid (show U2.heap[w5.heap.size]? = some (.cells #[.slice a'0 32 d'0, .slice a'1 32 d'1, .slice a'2 32 d'2, .slice a'3 32 d'3, .slice a'4 32 d'4, .slice a'5 32 d'5, .slice a'6 32 d'6] 73 (0, 0)) by rw [← hU]; exact heap_alloc_new _ _)
      have RA0 := (Mine.below Q0 (fresh1 w5 (.cells #[.slice a'0 32 d'0, .slice a'1 32 d'1, .slice a'2 32 d'2, .slice a'3 32 d'3, .slice a'4 32 d'4, .slice a'5 32 d'5, .slice a'6 32 d'6] 73 (0, 0)))).rd
      rw [hU] at RA0
      have RB0 := (Mine.below M0 (fresh1 w5 (.cells #[.slice a'0 32 d'0, .slice a'1 32 d'1, .slice a'2 32 d'2, .slice a'3 32 d'3, .slice a'4 32 d'4, .slice a'5 32 d'5, .slice a'6 32 d'6] 73 (0, 0)))).rd
      rw [hU] at RB0
      have RA1 := (Mine.below Q1 (fresh1 w5 (.cells #[.slice a'0 32 d'0, .slice a'1 32 d'1, .slice a'2 32 d'2, .slice a'3 32 d'3, .slice a'4 32 d'4, .slice a'5 32 d'5, .slice a'6 32 d'6] 73 (0, 0)))).rd
      rw [hU] at RA1
      have RB1 := (Mine.below M1 (fresh1 w5 (.cells #[.slice a'0 32 d'0, .slice a'1 32 d'1, .slice a'2 32 d'2, .slice a'3 32 d'3, .slice a'4 32 d'4, .slice a'5 32 d'5, .slice a'6 32 d'6] 73 (0, 0)))).rd
      rw [hU] at RB1
      have RA2 := (Mine.below Q2 (fresh1 w5 (.cells #[.slice a'0 32 d'0, .slice a'1 32 d'1, .slice a'2 32 d'2, .slice a'3 32 d'3, .slice a'4 32 d'4, .slice a'5 32 d'5, .slice a'6 32 d'6] 73 (0, 0)))).rd
      rw [hU] at RA2
      have RB2 := (Mine.below M2 (fresh1 w5 (.cells #[.slice a'0 32 d'0, .slice a'1 32 d'1, .slice a'2 32 d'2, .slice a'3 32 d'3, .slice a'4 32 d'4, .slice a'5 32 d'5, .slice a'6 32 d'6] 73 (0, 0)))).rd
      rw [hU] at RB2
      have RA3 := (Mine.below Q3 (fresh1 w5 (.cells #[.slice a'0 32 d'0, .slice a'1 32 d'1, .slice a'2 32 d'2, .slice a'3 32 d'3, .slice a'4 32 d'4, .slice a'5 32 d'5, .slice a'6 32 d'6] 73 (0, 0)))).rd
      rw [hU] at RA3
      have RB3 := (Mine.below M3 (fresh1 w5 (.cells #[.slice a'0 32 d'0, .slice a'1 32 d'1, .slice a'2 32 d'2, .slice a'3 32 d'3, .slice a'4 32 d'4, .slice a'5 32 d'5, .slice a'6 32 d'6] 73 (0, 0)))).rd
      rw [hU] at RB3
      have RA4 := (Mine.below Q4 (fresh1 w5 (.cells #[.slice a'0 32 d'0, .slice a'1 32 d'1, .slice a'2 32 d'2, .slice a'3 32 d'3, .slice a'4 32 d'4, .slice a'5 32 d'5, .slice a'6 32 d'6] 73 (0, 0)))).rd
      rw [hU] at RA4
      have RB4 := (Mine.below M4 (fresh1 w5 (.cells #[.slice a'0 32 d'0, .slice a'1 32 d'1, .slice a'2 32 d'2, .slice a'3 32 d'3, .slice a'4 32 d'4, .slice a'5 32 d'5, .slice a'6 32 d'6] 73 (0, 0)))).rd
      rw [hU] at RB4
      have RA5 := (Mine.below Q5 (fresh1 w5 (.cells #[.slice a'0 32 d'0, .slice a'1 32 d'1, .slice a'2 32 d'2, .slice a'3 32 d'3, .slice a'4 32 d'4, .slice a'5 32 d'5, .slice a'6 32 d'6] 73 (0, 0)))).rd
      rw [hU] at RA5
      have RB5 := (Mine.below M5 (fresh1 w5 (.cells #[.slice a'0 32 d'0, .slice a'1 32 d'1, .slice a'2 32 d'2, .slice a'3 32 d'3, .slice a'4 32 d'4, .slice a'5 32 d'5, .slice a'6 32 d'6] 73 (0, 0)))).rd
      rw [hU] at RB5
      have RA6 := (Mine.below Q6 (fresh1 w5 (.cells #[.slice a'0 32 d'0, .slice a'1 32 d'1, .slice a'2 32 d'2, .slice a'3 32 d'3, .slice a'4 32 d'4, .slice a'5 32 d'5, .slice a'6 32 d'6] 73 (0, 0)))).rd
      rw [hU] at RA6
      have RB6 := (Mine.below M6 (fresh1 w5 (.cells #[.slice a'0 32 d'0, .slice a'1 32 d'1, .slice a'2 32 d'2, .slice a'3 32 d'3, .slice a'4 32 d'4, .slice a'5 32 d'5, .slice a'6 32 d'6] 73 (0, 0)))).rd
      rw [hU] at RB6
      have RK := hr.on HB6.out
      have RM := HS.out.on HB6.out
      clear hU HB5 X5 Q0 Q1 Q2 Q3 Q4 Q5 Q6 M0 M1 M2 M3 M4 M5 M6
      go_loopw [11] (fun i wr => ∃ j : Nat, j ≤ 7 ∧ i = .int .i64 j ∧ Still U2 wr) (fun i _ => 7 - (intOf i).toNat)
      case atStart => exact ⟨0, by omega, rfl, Still.refl _⟩
      case round =>
        obtain ⟨j, hj, rfl, n, rfl⟩ := hrel
        have hc : j = 0 ∨ j = 1 ∨ j = 2 ∨ j = 3 ∨ j = 4 ∨ j = 5 ∨ j = 6 ∨ j = 7 := by omega
        rcases hc with rfl | rfl | rfl | rfl | rfl | rfl | rfl | rfl
        · have qa : (U2.drewN n).cell? ⟨w3.heap.size, 0, none⟩ = some (.slice a0 32 d0) := cell_of_row _ _ _ _ _ _ XA.out
          have qb (p : Nat) : (U2.drewN p).cell? ⟨w5.heap.size, 0, none⟩ = some (.slice a'0 32 d'0) := cell_of_row _ _ _ _ _ _ XB.out
          go_wp2_with fail
          refine (same32 a0 ao k d0 ca _ HK.out (by exact RA0) (by exact RK)).mono ?_
          rintro e V ⟨rfl, n1, rfl⟩
          go_wp2_with fail
          refine (same32 a'0 (some ⟨mb, mo, none⟩) m d'0 cb _ HM.out (by exact RB0) (by exact RM)).mono ?_
          rintro e V ⟨rfl, n2, rfl⟩
          go_wp2_with fail
          go_roundw
          case rel => exact ⟨1, by omega, rfl, ⟨_, rfl⟩⟩
          case measure => simp [intOf]
        · have qa : (U2.drewN n).cell? ⟨w3.heap.size, 1, none⟩ = some (.slice a1 32 d1) := cell_of_row _ _ _ _ _ _ XA.out
          have qb (p : Nat) : (U2.drewN p).cell? ⟨w5.heap.size, 1, none⟩ = some (.slice a'1 32 d'1) := cell_of_row _ _ _ _ _ _ XB.out
          go_wp2_with fail
          refine (same32 a1 ao k d1 ca _ HK.out (by exact RA1) (by exact RK)).mono ?_
          rintro e V ⟨rfl, n1, rfl⟩
          go_wp2_with fail
          refine (same32 a'1 (some ⟨mb, mo, none⟩) m d'1 cb _ HM.out (by exact RB1) (by exact RM)).mono ?_
          rintro e V ⟨rfl, n2, rfl⟩
          go_wp2_with fail
          go_roundw
          case rel => exact ⟨2, by omega, rfl, ⟨_, rfl⟩⟩
          case measure => simp [intOf]
        · have qa : (U2.drewN n).cell? ⟨w3.heap.size, 2, none⟩ = some (.slice a2 32 d2) := cell_of_row _ _ _ _ _ _ XA.out
          have qb (p : Nat) : (U2.drewN p).cell? ⟨w5.heap.size, 2, none⟩ = some (.slice a'2 32 d'2) := cell_of_row _ _ _ _ _ _ XB.out
          go_wp2_with fail
          refine (same32 a2 ao k d2 ca _ HK.out (by exact RA2) (by exact RK)).mono ?_
          rintro e V ⟨rfl, n1, rfl⟩
          go_wp2_with fail
          refine (same32 a'2 (some ⟨mb, mo, none⟩) m d'2 cb _ HM.out (by exact RB2) (by exact RM)).mono ?_
          rintro e V ⟨rfl, n2, rfl⟩
          go_wp2_with fail
          go_roundw
          case rel => exact ⟨3, by omega, rfl, ⟨_, rfl⟩⟩
          case measure => simp [intOf]
        · have qa : (U2.drewN n).cell? ⟨w3.heap.size, 3, none⟩ = some (.slice a3 32 d3) := cell_of_row _ _ _ _ _ _ XA.out
          have qb (p : Nat) : (U2.drewN p).cell? ⟨w5.heap.size, 3, none⟩ = some (.slice a'3 32 d'3) := cell_of_row _ _ _ _ _ _ XB.out
          go_wp2_with fail
          refine (same32 a3 ao k d3 ca _ HK.out (by exact RA3) (by exact RK)).mono ?_
          rintro e V ⟨rfl, n1, rfl⟩
          go_wp2_with fail
          refine (same32 a'3 (some ⟨mb, mo, none⟩) m d'3 cb _ HM.out (by exact RB3) (by exact RM)).mono ?_
          rintro e V ⟨rfl, n2, rfl⟩
          go_wp2_with fail
          go_roundw
          case rel => exact ⟨4, by omega, rfl, ⟨_, rfl⟩⟩
          case measure => simp [intOf]
        · have qa : (U2.drewN n).cell? ⟨w3.heap.size, 4, none⟩ = some (.slice a4 32 d4) := cell_of_row _ _ _ _ _ _ XA.out
          have qb (p : Nat) : (U2.drewN p).cell? ⟨w5.heap.size, 4, none⟩ = some (.slice a'4 32 d'4) := cell_of_row _ _ _ _ _ _ XB.out
          go_wp2_with fail
          refine (same32 a4 ao k d4 ca _ HK.out (by exact RA4) (by exact RK)).mono ?_
          rintro e V ⟨rfl, n1, rfl⟩
          go_wp2_with fail
          refine (same32 a'4 (some ⟨mb, mo, none⟩) m d'4 cb _ HM.out (by exact RB4) (by exact RM)).mono ?_
          rintro e V ⟨rfl, n2, rfl⟩
          go_wp2_with fail
          go_roundw
          case rel => exact ⟨5, by omega, rfl, ⟨_, rfl⟩⟩
          case measure => simp [intOf]
        · have qa : (U2.drewN n).cell? ⟨w3.heap.size, 5, none⟩ = some (.slice a5 32 d5) := cell_of_row _ _ _ _ _ _ XA.out
          have qb (p : Nat) : (U2.drewN p).cell? ⟨w5.heap.size, 5, none⟩ = some (.slice a'5 32 d'5) := cell_of_row _ _ _ _ _ _ XB.out
          go_wp2_with fail
          refine (same32 a5 ao k d5 ca _ HK.out (by exact RA5) (by exact RK)).mono ?_
          rintro e V ⟨rfl, n1, rfl⟩
          go_wp2_with fail
          refine (same32 a'5 (some ⟨mb, mo, none⟩) m d'5 cb _ HM.out (by exact RB5) (by exact RM)).mono ?_
          rintro e V ⟨rfl, n2, rfl⟩
          go_wp2_with fail
          go_roundw
          case rel => exact ⟨6, by omega, rfl, ⟨_, rfl⟩⟩
          case measure => simp [intOf]
        · have qa : (U2.drewN n).cell? ⟨w3.heap.size, 6, none⟩ = some (.slice a6 32 d6) := cell_of_row _ _ _ _ _ _ XA.out
          have qb (p : Nat) : (U2.drewN p).cell? ⟨w5.heap.size, 6, none⟩ = some (.slice a'6 32 d'6) := cell_of_row _ _ _ _ _ _ XB.out
          go_wp2_with fail
          refine (same32 a6 ao k d6 ca _ HK.out (by exact RA6) (by exact RK)).mono ?_
          rintro e V ⟨rfl, n1, rfl⟩
          go_wp2_with fail
          refine (same32 a'6 (some ⟨mb, mo, none⟩) m d'6 cb _ HM.out (by exact RB6) (by exact RM)).mono ?_
          rintro e V ⟨rfl, n2, rfl⟩
          go_wp2_with fail
          go_roundw
          case rel => exact ⟨7, by omega, rfl, ⟨_, rfl⟩⟩
          case measure => simp [intOf]
        · go_wp2_with fail
          go_ret
          exact ⟨rfl, HB6.out.trans ((Still.below ⟨n, rfl⟩ _).mono HB6.out.size)⟩
theorem lawPlace (k m : List (BitVec 8)) (side : Int) (ao bo : Option Addr) (ca cb : Nat) (w : World) (hr : Rd w ao k) (hs : Rd w bo m) : Calls Try.prog 12 #[.slice ao k.length ca, .slice bo m.length cb, .int .i64 side] w fun e w' => e = .returned (.bool true) ∧ Below w.heap.size w w' := by
  by_cases h : k.length = 32
  · by_cases h2 : m.length = 32
    · by_cases h3 : 0 ≤ side
      · by_cases h4 : side ≤ 1
        · exact lawPlace_y k m side ao bo ca cb w h h2 h3 h4 hr hs
        · exact lawPlace_n3 k m side ao bo ca cb w h h2 h3 h4
      · exact lawPlace_n2 k m side ao bo ca cb w h h2 h3
    · exact lawPlace_n1 k m side ao bo ca cb w h h2
  · exact lawPlace_n0 k m side ao bo ca cb w h
end Go.Proofs.Ytihndipgdogebaa
