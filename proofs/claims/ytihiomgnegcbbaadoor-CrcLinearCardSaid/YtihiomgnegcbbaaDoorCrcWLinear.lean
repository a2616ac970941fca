/- The walk of CrcLinear. -/
import Derived.Test.YtihiomgnegcbbaaDoorCrcRoom
import Derived.Test.YtihiomgnegcbbaaDoorAppend
import Derived.BigRegion
namespace Go.Proofs.YtihiomgnegcbbaaDoor
open Go.RowKit
theorem xr_get (x y z : List (BitVec 8)) (N k : Nat) (hk : k < N) (h1 : N ≤ x.length) (h2 : N ≤ y.length) (h3 : N ≤ z.length) :
    (Crc.xr (Crc.xr (x.take N) (y.take N)) (z.take N)).getD k 0#8 = x.getD k 0#8 ^^^ y.getD k 0#8 ^^^ z.getD k 0#8 := by
  simp [Crc.xr, List.getD, List.getElem?_zipWith, hk, show k < x.length by omega, show k < y.length by omega, show k < z.length by omega]
theorem xr_len (x y z : List (BitVec 8)) (N : Nat) (h1 : N ≤ x.length) (h2 : N ≤ y.length) (h3 : N ≤ z.length) : (Crc.xr (Crc.xr (x.take N) (y.take N)) (z.take N)).length = N := by
  simp [Crc.xr_length]; omega
/-- The three lists cut to one length, and their xor. -/
theorem three (x y z : List (BitVec 8)) (N : Nat) (h1 : N ≤ x.length) (h2 : N ≤ y.length) (h3 : N ≤ z.length) :
    ∃ L X Y Z : List (BitVec 8), L.length = N ∧ (∀ k, k < N → L.getD k 0#8 = x.getD k 0#8 ^^^ y.getD k 0#8 ^^^ z.getD k 0#8) ∧ X.length = N ∧ Y.length = N ∧ Z.length = N ∧
      (∀ (w : World) (a : Option Addr), Rd w a x → Rd w a X) ∧ (∀ (w : World) (a : Option Addr), Rd w a y → Rd w a Y) ∧ (∀ (w : World) (a : Option Addr), Rd w a z → Rd w a Z) ∧
      Crc.sum L = Crc.sum X ^^^ Crc.sum Y ^^^ Crc.sum Z :=
  ⟨Crc.xr (Crc.xr (x.take N) (y.take N)) (z.take N), x.take N, y.take N, z.take N, xr_len x y z N h1 h2 h3, fun k hk => xr_get x y z N k hk h1 h2 h3, by simp; omega, by simp; omega, by simp; omega,
    fun _ _ h => h.take N, fun _ _ h => h.take N, fun _ _ h => h.take N, Crc.sum_three _ _ _ (by simp; omega) (by simp; omega)⟩
set_option maxHeartbeats 4000000 in
theorem lawLinear (ax ay az : Option Addr) (x y z : List (BitVec 8)) (cx cy cz : Nat) (w : World)
   (hx : x.length ≤ 140737488351232) (hy : y.length ≤ 140737488351232) (hz : z.length ≤ 140737488351232) (rx : Rd w ax x) (ry : Rd w ay y) (rz : Rd w az z)
   (kx : x.length ≤ cx) (ky : y.length ≤ cy) (kz : z.length ≤ cz) (ht : Tab w) (hw : 0 < w.heap.size) :
   Calls Tryd.prog 7 #[.slice ax x.length cx, .slice ay y.length cy, .slice az z.length cz] w fun e w' => e = .returned (.bool true) ∧ Below w.heap.size w w' := by
  obtain ⟨i0, hi, hz0, hz1, hz2⟩ := info_parts info_u8
  go_enter Tryd.func7, Tryd.ntmps7
  go_wp2_with fail
  refine (lawFirst w ht hw).mono ?_
  rintro e w1 ⟨rfl, hb1⟩
  have HX := Lib.hid (fun (w' : World) (hb : Below w.heap.size w w') => rx.on hb)
  have HY := Lib.hid (fun (w' : World) (hb : Below w.heap.size w w') => ry.on hb)
  have HZ := Lib.hid (fun (w' : World) (hb : Below w.heap.size w w') => rz.on hb)
  have HT := Lib.hid (fun (w' : World) (hb : Below w.heap.size w w') => ht.below hb hw)
  clear rx ry rz ht
  by_cases h1 : y.length < x.length
  · by_cases h2 : z.length < y.length
    · have n1 : z.length ≤ x.length := by omega
      have n2 : z.length ≤ y.length := by omega
      have n3 : z.length ≤ z.length := by omega
      by_cases hbig : 65536 < z.length
      · go_wp2
        go_ret
        exact ⟨rfl, hb1⟩
      have hle : z.length ≤ 65536 := by omega
      obtain ⟨L, X, Y, Z, hLl, hLg, hXl, hYl, hZl, hXr, hYr, hZr, hLs⟩ := three x y z z.length n1 n2 n3
      have HLEN := Lib.hid hLl
      have HLG := Lib.hid hLg
      have HXL := Lib.hid hXl
      have HYL := Lib.hid hYl
      have HZL := Lib.hid hZl
      have HXR := Lib.hid hXr
      have HYR := Lib.hid hYr
      have HZR := Lib.hid hZr
      have HLS := Lib.hid hLs
      clear hLl hLg hXl hYl hZl hXr hYr hZr hLs
      clear hbig
      go_wp2_with fail
      go_loopw [9, 10] (fun v i wr => ∃ k : Nat, k ≤ z.length ∧ i = .int .i64 k ∧ wr.ownsRow w1.heap.size 5 1 v k (bts (L.take k)) ∧ w1.heap.size ≤ wr.heap.size ∧ Below w.heap.size w wr) (fun _ i _ => z.length - (intOf i).toNat)
      case atStart => exact ⟨0, Nat.zero_le _, rfl, World.ownsRow_nil _ _ _ _, Nat.le_refl _, hb1⟩
      case round =>
        obtain ⟨k, hk, rfl, hown, hsz, hB⟩ := hrel
        by_cases hlt : k < z.length
        · obtain ⟨bx, ox, rfl, c1⟩ := (HX.out _ hB).at (by omega)
          obtain ⟨by', oy, rfl, c2⟩ := (HY.out _ hB).at (by omega)
          obtain ⟨bz, oz, rfl, c3⟩ := (HZ.out _ hB).at (by omega)
          have hc1 := c1 k (by omega)
          have hc2 := c2 k (by omega)
          have hc3 := c3 k (by omega)
          have hS := List.take_succ_eq_append_getElem (l := L) (i := k) (by rw [HLEN.out]; exact hlt)
          have hg := HLG.out k hlt
          rw [show L.getD k 0#8 = L[k]'(by rw [HLEN.out]; exact hlt) by simp [List.getD, HLEN.out, hlt]] at hg
          rw [hg] at hS
          obtain ⟨p, hp⟩ : ∃ p, x.getD k 0#8 = p := ⟨_, rfl⟩
          obtain ⟨q, hq⟩ : ∃ p, y.getD k 0#8 = p := ⟨_, rfl⟩
          obtain ⟨r, hr⟩ : ∃ p, z.getD k 0#8 = p := ⟨_, rfl⟩
          rw [hp] at hc1 hS
          rw [hq] at hc2 hS
          rw [hr] at hc3 hS
          have HS := Lib.hid hS
          have l1 : (k : Int) < (x.length : Int) := by omega
          have l2 : (k : Int) < (y.length : Int) := by omega
          have l3 : (k : Int) < (z.length : Int) := by omega
          clear c1 c2 c3 hg hS hp hq hr
          go_wp2_with fail
          go_region_law (refine step_append_bytes rfl (.tmp 42) (.tmp 57) 22 rfl w1.heap.size 5 i0 Tryd.underlying22 hi hz0 hz1 hz2 u9 k _ (by simp [Act.eval]) (by exact hown.alloc _) ⟨wr.heap.size, 0, none⟩ 1 1 [p ^^^ q ^^^ r] (by simp [Act.eval]) rfl (by exact Rd_new wr _ #[Value.int .u8 (n8 (p ^^^ q ^^^ r))] _ _ rfl) (by decide) (by omega) w.heap.size (by exact (hB.alloc hB.size _).drew) hb1.size (by simp; omega) ?_; intro g2 cap2 w3 ho2 hB3 hsz3)
          all_goals
            have hz3 : w1.heap.size ≤ w3.heap.size := by simp at hsz3; omega
            rw [← HS.out] at ho2
            clear hown
            go_wp2
            go_roundw
            case rel => exact ⟨k + 1, by omega, by go_num, ho2, hz3, hB3⟩
            case measure => simp [intOf]; omega
        · have hkn : k = z.length := by omega
          rw [hkn, List.take_of_length_le (by rw [HLEN.out]; omega)] at hown
          obtain ⟨hln, ao, cap, rfl, r4, _, _, _, _⟩ := owns_rdn hown
          have R4 := Lib.hid r4
          have HLN := Lib.hid hln
          clear hkn hown hln r4
          go_wp2_with fail
          refine (crcSum' ao L _ cap wr HLN.out (by rw [HLN.out]; omega) R4.out (HT.out _ hB)).mono ?_
          rintro e w5 ⟨rfl, rfl⟩
          have e3 := HLS.out
          obtain ⟨s0, hs0⟩ : ∃ s, Crc.sum L = s := ⟨_, rfl⟩
          rw [hs0] at e3 ⊢
          go_wp2_with fail
          refine (crcSum' ax X _ _ wr HXL.out (by rw [HXL.out]; omega) (HXR.out _ _ (HX.out _ hB)) (HT.out _ hB)).mono ?_
          rintro e w5 ⟨rfl, rfl⟩
          obtain ⟨s1, hs1⟩ : ∃ s, Crc.sum X = s := ⟨_, rfl⟩
          rw [hs1] at e3 ⊢
          go_wp2_with fail
          refine (crcSum' ay Y _ _ wr HYL.out (by rw [HYL.out]; omega) (HYR.out _ _ (HY.out _ hB)) (HT.out _ hB)).mono ?_
          rintro e w5 ⟨rfl, rfl⟩
          obtain ⟨s2, hs2⟩ : ∃ s, Crc.sum Y = s := ⟨_, rfl⟩
          rw [hs2] at e3 ⊢
          go_wp2_with fail
          refine (crcSum' az Z _ _ wr HZL.out (by rw [HZL.out]; omega) (HZR.out _ _ (HZ.out _ hB)) (HT.out _ hB)).mono ?_
          rintro e w5 ⟨rfl, rfl⟩
          obtain ⟨s3, hs3⟩ : ∃ s, Crc.sum Z = s := ⟨_, rfl⟩
          rw [hs3] at e3 ⊢
          have q1 : (n32 (s1 ^^^ s2 ^^^ s3) == n32 (s1 ^^^ s2 ^^^ s3)) = true := beq_self_eq_true _
          clear e3 hs0 hs1 hs2 hs3
          go_wp2
          go_ret
          exact ⟨rfl, hB⟩
    · have n1 : y.length ≤ x.length := by omega
      have n2 : y.length ≤ y.length := by omega
      have n3 : y.length ≤ z.length := by omega
      by_cases hbig : 65536 < y.length
      · go_wp2
        go_ret
        exact ⟨rfl, hb1⟩
      have hle : y.length ≤ 65536 := by omega
      obtain ⟨L, X, Y, Z, hLl, hLg, hXl, hYl, hZl, hXr, hYr, hZr, hLs⟩ := three x y z y.length n1 n2 n3
      have HLEN := Lib.hid hLl
      have HLG := Lib.hid hLg
      have HXL := Lib.hid hXl
      have HYL := Lib.hid hYl
      have HZL := Lib.hid hZl
      have HXR := Lib.hid hXr
      have HYR := Lib.hid hYr
      have HZR := Lib.hid hZr
      have HLS := Lib.hid hLs
      clear hLl hLg hXl hYl hZl hXr hYr hZr hLs
      clear hbig
      go_wp2_with fail
      go_loopw [9, 10] (fun v i wr => ∃ k : Nat, k ≤ y.length ∧ i = .int .i64 k ∧ wr.ownsRow w1.heap.size 5 1 v k (bts (L.take k)) ∧ w1.heap.size ≤ wr.heap.size ∧ Below w.heap.size w wr) (fun _ i _ => y.length - (intOf i).toNat)
      case atStart => exact ⟨0, Nat.zero_le _, rfl, World.ownsRow_nil _ _ _ _, Nat.le_refl _, hb1⟩
      case round =>
        obtain ⟨k, hk, rfl, hown, hsz, hB⟩ := hrel
        by_cases hlt : k < y.length
        · obtain ⟨bx, ox, rfl, c1⟩ := (HX.out _ hB).at (by omega)
          obtain ⟨by', oy, rfl, c2⟩ := (HY.out _ hB).at (by omega)
          obtain ⟨bz, oz, rfl, c3⟩ := (HZ.out _ hB).at (by omega)
          have hc1 := c1 k (by omega)
          have hc2 := c2 k (by omega)
          have hc3 := c3 k (by omega)
          have hS := List.take_succ_eq_append_getElem (l := L) (i := k) (by rw [HLEN.out]; exact hlt)
          have hg := HLG.out k hlt
          rw [show L.getD k 0#8 = L[k]'(by rw [HLEN.out]; exact hlt) by simp [List.getD, HLEN.out, hlt]] at hg
          rw [hg] at hS
          obtain ⟨p, hp⟩ : ∃ p, x.getD k 0#8 = p := ⟨_, rfl⟩
          obtain ⟨q, hq⟩ : ∃ p, y.getD k 0#8 = p := ⟨_, rfl⟩
          obtain ⟨r, hr⟩ : ∃ p, z.getD k 0#8 = p := ⟨_, rfl⟩
          rw [hp] at hc1 hS
          rw [hq] at hc2 hS
          rw [hr] at hc3 hS
          have HS := Lib.hid hS
          have l1 : (k : Int) < (x.length : Int) := by omega
          have l2 : (k : Int) < (y.length : Int) := by omega
          have l3 : (k : Int) < (z.length : Int) := by omega
          clear c1 c2 c3 hg hS hp hq hr
          go_wp2_with fail
          go_region_law (refine step_append_bytes rfl (.tmp 42) (.tmp 57) 22 rfl w1.heap.size 5 i0 Tryd.underlying22 hi hz0 hz1 hz2 u9 k _ (by simp [Act.eval]) (by exact hown.alloc _) ⟨wr.heap.size, 0, none⟩ 1 1 [p ^^^ q ^^^ r] (by simp [Act.eval]) rfl (by exact Rd_new wr _ #[Value.int .u8 (n8 (p ^^^ q ^^^ r))] _ _ rfl) (by decide) (by omega) w.heap.size (by exact (hB.alloc hB.size _).drew) hb1.size (by simp; omega) ?_; intro g2 cap2 w3 ho2 hB3 hsz3)
          all_goals
            have hz3 : w1.heap.size ≤ w3.heap.size := by simp at hsz3; omega
            rw [← HS.out] at ho2
            clear hown
            go_wp2
            go_roundw
            case rel => exact ⟨k + 1, by omega, by go_num, ho2, hz3, hB3⟩
            case measure => simp [intOf]; omega
        · have hkn : k = y.length := by omega
          rw [hkn, List.take_of_length_le (by rw [HLEN.out]; omega)] at hown
          obtain ⟨hln, ao, cap, rfl, r4, _, _, _, _⟩ := owns_rdn hown
          have R4 := Lib.hid r4
          have HLN := Lib.hid hln
          clear hkn hown hln r4
          go_wp2_with fail
          refine (crcSum' ao L _ cap wr HLN.out (by rw [HLN.out]; omega) R4.out (HT.out _ hB)).mono ?_
          rintro e w5 ⟨rfl, rfl⟩
          have e3 := HLS.out
          obtain ⟨s0, hs0⟩ : ∃ s, Crc.sum L = s := ⟨_, rfl⟩
          rw [hs0] at e3 ⊢
          go_wp2_with fail
          refine (crcSum' ax X _ _ wr HXL.out (by rw [HXL.out]; omega) (HXR.out _ _ (HX.out _ hB)) (HT.out _ hB)).mono ?_
          rintro e w5 ⟨rfl, rfl⟩
          obtain ⟨s1, hs1⟩ : ∃ s, Crc.sum X = s := ⟨_, rfl⟩
          rw [hs1] at e3 ⊢
          go_wp2_with fail
          refine (crcSum' ay Y _ _ wr HYL.out (by rw [HYL.out]; omega) (HYR.out _ _ (HY.out _ hB)) (HT.out _ hB)).mono ?_
          rintro e w5 ⟨rfl, rfl⟩
          obtain ⟨s2, hs2⟩ : ∃ s, Crc.sum Y = s := ⟨_, rfl⟩
          rw [hs2] at e3 ⊢
          go_wp2_with fail
          refine (crcSum' az Z _ _ wr HZL.out (by rw [HZL.out]; omega) (HZR.out _ _ (HZ.out _ hB)) (HT.out _ hB)).mono ?_
          rintro e w5 ⟨rfl, rfl⟩
          obtain ⟨s3, hs3⟩ : ∃ s, Crc.sum Z = s := ⟨_, rfl⟩
          rw [hs3] at e3 ⊢
          have q1 : (n32 (s1 ^^^ s2 ^^^ s3) == n32 (s1 ^^^ s2 ^^^ s3)) = true := beq_self_eq_true _
          clear e3 hs0 hs1 hs2 hs3
          go_wp2
          go_ret
          exact ⟨rfl, hB⟩
  · by_cases h2 : z.length < x.length
    · have n1 : z.length ≤ x.length := by omega
      have n2 : z.length ≤ y.length := by omega
      have n3 : z.length ≤ z.length := by omega
      by_cases hbig : 65536 < z.length
      · go_wp2
        go_ret
        exact ⟨rfl, hb1⟩
      have hle : z.length ≤ 65536 := by omega
      obtain ⟨L, X, Y, Z, hLl, hLg, hXl, hYl, hZl, hXr, hYr, hZr, hLs⟩ := three x y z z.length n1 n2 n3
      have HLEN := Lib.hid hLl
      have HLG := Lib.hid hLg
      have HXL := Lib.hid hXl
      have HYL := Lib.hid hYl
      have HZL := Lib.hid hZl
      have HXR := Lib.hid hXr
      have HYR := Lib.hid hYr
      have HZR := Lib.hid hZr
      have HLS := Lib.hid hLs
      clear hLl hLg hXl hYl hZl hXr hYr hZr hLs
      clear hbig
      go_wp2_with fail
      go_loopw [9, 10] (fun v i wr => ∃ k : Nat, k ≤ z.length ∧ i = .int .i64 k ∧ wr.ownsRow w1.heap.size 5 1 v k (bts (L.take k)) ∧ w1.heap.size ≤ wr.heap.size ∧ Below w.heap.size w wr) (fun _ i _ => z.length - (intOf i).toNat)
      case atStart => exact ⟨0, Nat.zero_le _, rfl, World.ownsRow_nil _ _ _ _, Nat.le_refl _, hb1⟩
      case round =>
        obtain ⟨k, hk, rfl, hown, hsz, hB⟩ := hrel
        by_cases hlt : k < z.length
        · obtain ⟨bx, ox, rfl, c1⟩ := (HX.out _ hB).at (by omega)
          obtain ⟨by', oy, rfl, c2⟩ := (HY.out _ hB).at (by omega)
          obtain ⟨bz, oz, rfl, c3⟩ := (HZ.out _ hB).at (by omega)
          have hc1 := c1 k (by omega)
          have hc2 := c2 k (by omega)
          have hc3 := c3 k (by omega)
          have hS := List.take_succ_eq_append_getElem (l := L) (i := k) (by rw [HLEN.out]; exact hlt)
          have hg := HLG.out k hlt
          rw [show L.getD k 0#8 = L[k]'(by rw [HLEN.out]; exact hlt) by simp [List.getD, HLEN.out, hlt]] at hg
          rw [hg] at hS
          obtain ⟨p, hp⟩ : ∃ p, x.getD k 0#8 = p := ⟨_, rfl⟩
          obtain ⟨q, hq⟩ : ∃ p, y.getD k 0#8 = p := ⟨_, rfl⟩
          obtain ⟨r, hr⟩ : ∃ p, z.getD k 0#8 = p := ⟨_, rfl⟩
          rw [hp] at hc1 hS
          rw [hq] at hc2 hS
          rw [hr] at hc3 hS
          have HS := Lib.hid hS
          have l1 : (k : Int) < (x.length : Int) := by omega
          have l2 : (k : Int) < (y.length : Int) := by omega
          have l3 : (k : Int) < (z.length : Int) := by omega
          clear c1 c2 c3 hg hS hp hq hr
          go_wp2_with fail
          go_region_law (refine step_append_bytes rfl (.tmp 42) (.tmp 57) 22 rfl w1.heap.size 5 i0 Tryd.underlying22 hi hz0 hz1 hz2 u9 k _ (by simp [Act.eval]) (by exact hown.alloc _) ⟨wr.heap.size, 0, none⟩ 1 1 [p ^^^ q ^^^ r] (by simp [Act.eval]) rfl (by exact Rd_new wr _ #[Value.int .u8 (n8 (p ^^^ q ^^^ r))] _ _ rfl) (by decide) (by omega) w.heap.size (by exact (hB.alloc hB.size _).drew) hb1.size (by simp; omega) ?_; intro g2 cap2 w3 ho2 hB3 hsz3)
          all_goals
            have hz3 : w1.heap.size ≤ w3.heap.size := by simp at hsz3; omega
            rw [← HS.out] at ho2
            clear hown
            go_wp2
            go_roundw
            case rel => exact ⟨k + 1, by omega, by go_num, ho2, hz3, hB3⟩
            case measure => simp [intOf]; omega
        · have hkn : k = z.length := by omega
          rw [hkn, List.take_of_length_le (by rw [HLEN.out]; omega)] at hown
          obtain ⟨hln, ao, cap, rfl, r4, _, _, _, _⟩ := owns_rdn hown
          have R4 := Lib.hid r4
          have HLN := Lib.hid hln
          clear hkn hown hln r4
          go_wp2_with fail
          refine (crcSum' ao L _ cap wr HLN.out (by rw [HLN.out]; omega) R4.out (HT.out _ hB)).mono ?_
          rintro e w5 ⟨rfl, rfl⟩
          have e3 := HLS.out
          obtain ⟨s0, hs0⟩ : ∃ s, Crc.sum L = s := ⟨_, rfl⟩
          rw [hs0] at e3 ⊢
          go_wp2_with fail
          refine (crcSum' ax X _ _ wr HXL.out (by rw [HXL.out]; omega) (HXR.out _ _ (HX.out _ hB)) (HT.out _ hB)).mono ?_
          rintro e w5 ⟨rfl, rfl⟩
          obtain ⟨s1, hs1⟩ : ∃ s, Crc.sum X = s := ⟨_, rfl⟩
          rw [hs1] at e3 ⊢
          go_wp2_with fail
          refine (crcSum' ay Y _ _ wr HYL.out (by rw [HYL.out]; omega) (HYR.out _ _ (HY.out _ hB)) (HT.out _ hB)).mono ?_
          rintro e w5 ⟨rfl, rfl⟩
          obtain ⟨s2, hs2⟩ : ∃ s, Crc.sum Y = s := ⟨_, rfl⟩
          rw [hs2] at e3 ⊢
          go_wp2_with fail
          refine (crcSum' az Z _ _ wr HZL.out (by rw [HZL.out]; omega) (HZR.out _ _ (HZ.out _ hB)) (HT.out _ hB)).mono ?_
          rintro e w5 ⟨rfl, rfl⟩
          obtain ⟨s3, hs3⟩ : ∃ s, Crc.sum Z = s := ⟨_, rfl⟩
          rw [hs3] at e3 ⊢
          have q1 : (n32 (s1 ^^^ s2 ^^^ s3) == n32 (s1 ^^^ s2 ^^^ s3)) = true := beq_self_eq_true _
          clear e3 hs0 hs1 hs2 hs3
          go_wp2
          go_ret
          exact ⟨rfl, hB⟩
    · have n1 : x.length ≤ x.length := by omega
      have n2 : x.length ≤ y.length := by omega
      have n3 : x.length ≤ z.length := by omega
      by_cases hbig : 65536 < x.length
      · go_wp2
        go_ret
        exact ⟨rfl, hb1⟩
      have hle : x.length ≤ 65536 := by omega
      obtain ⟨L, X, Y, Z, hLl, hLg, hXl, hYl, hZl, hXr, hYr, hZr, hLs⟩ := three x y z x.length n1 n2 n3
      have HLEN := Lib.hid hLl
      have HLG := Lib.hid hLg
      have HXL := Lib.hid hXl
      have HYL := Lib.hid hYl
      have HZL := Lib.hid hZl
      have HXR := Lib.hid hXr
      have HYR := Lib.hid hYr
      have HZR := Lib.hid hZr
      have HLS := Lib.hid hLs
      clear hLl hLg hXl hYl hZl hXr hYr hZr hLs
      clear hbig
      go_wp2_with fail
      go_loopw [9, 10] (fun v i wr => ∃ k : Nat, k ≤ x.length ∧ i = .int .i64 k ∧ wr.ownsRow w1.heap.size 5 1 v k (bts (L.take k)) ∧ w1.heap.size ≤ wr.heap.size ∧ Below w.heap.size w wr) (fun _ i _ => x.length - (intOf i).toNat)
      case atStart => exact ⟨0, Nat.zero_le _, rfl, World.ownsRow_nil _ _ _ _, Nat.le_refl _, hb1⟩
      case round =>
        obtain ⟨k, hk, rfl, hown, hsz, hB⟩ := hrel
        by_cases hlt : k < x.length
        · obtain ⟨bx, ox, rfl, c1⟩ := (HX.out _ hB).at (by omega)
          obtain ⟨by', oy, rfl, c2⟩ := (HY.out _ hB).at (by omega)
          obtain ⟨bz, oz, rfl, c3⟩ := (HZ.out _ hB).at (by omega)
          have hc1 := c1 k (by omega)
          have hc2 := c2 k (by omega)
          have hc3 := c3 k (by omega)
          have hS := List.take_succ_eq_append_getElem (l := L) (i := k) (by rw [HLEN.out]; exact hlt)
          have hg := HLG.out k hlt
          rw [show L.getD k 0#8 = L[k]'(by rw [HLEN.out]; exact hlt) by simp [List.getD, HLEN.out, hlt]] at hg
          rw [hg] at hS
          obtain ⟨p, hp⟩ : ∃ p, x.getD k 0#8 = p := ⟨_, rfl⟩
          obtain ⟨q, hq⟩ : ∃ p, y.getD k 0#8 = p := ⟨_, rfl⟩
          obtain ⟨r, hr⟩ : ∃ p, z.getD k 0#8 = p := ⟨_, rfl⟩
          rw [hp] at hc1 hS
          rw [hq] at hc2 hS
          rw [hr] at hc3 hS
          have HS := Lib.hid hS
          have l1 : (k : Int) < (x.length : Int) := by omega
          have l2 : (k : Int) < (y.length : Int) := by omega
          have l3 : (k : Int) < (z.length : Int) := by omega
          clear c1 c2 c3 hg hS hp hq hr
          go_wp2_with fail
          go_region_law (refine step_append_bytes rfl (.tmp 42) (.tmp 57) 22 rfl w1.heap.size 5 i0 Tryd.underlying22 hi hz0 hz1 hz2 u9 k _ (by simp [Act.eval]) (by exact hown.alloc _) ⟨wr.heap.size, 0, none⟩ 1 1 [p ^^^ q ^^^ r] (by simp [Act.eval]) rfl (by exact Rd_new wr _ #[Value.int .u8 (n8 (p ^^^ q ^^^ r))] _ _ rfl) (by decide) (by omega) w.heap.size (by exact (hB.alloc hB.size _).drew) hb1.size (by simp; omega) ?_; intro g2 cap2 w3 ho2 hB3 hsz3)
          all_goals
            have hz3 : w1.heap.size ≤ w3.heap.size := by simp at hsz3; omega
            rw [← HS.out] at ho2
            clear hown
            go_wp2
            go_roundw
            case rel => exact ⟨k + 1, by omega, by go_num, ho2, hz3, hB3⟩
            case measure => simp [intOf]; omega
        · have hkn : k = x.length := by omega
          rw [hkn, List.take_of_length_le (by rw [HLEN.out]; omega)] at hown
          obtain ⟨hln, ao, cap, rfl, r4, _, _, _, _⟩ := owns_rdn hown
          have R4 := Lib.hid r4
          have HLN := Lib.hid hln
          clear hkn hown hln r4
          go_wp2_with fail
          refine (crcSum' ao L _ cap wr HLN.out (by rw [HLN.out]; omega) R4.out (HT.out _ hB)).mono ?_
          rintro e w5 ⟨rfl, rfl⟩
          have e3 := HLS.out
          obtain ⟨s0, hs0⟩ : ∃ s, Crc.sum L = s := ⟨_, rfl⟩
          rw [hs0] at e3 ⊢
          go_wp2_with fail
          refine (crcSum' ax X _ _ wr HXL.out (by rw [HXL.out]; omega) (HXR.out _ _ (HX.out _ hB)) (HT.out _ hB)).mono ?_
          rintro e w5 ⟨rfl, rfl⟩
          obtain ⟨s1, hs1⟩ : ∃ s, Crc.sum X = s := ⟨_, rfl⟩
          rw [hs1] at e3 ⊢
          go_wp2_with fail
          refine (crcSum' ay Y _ _ wr HYL.out (by rw [HYL.out]; omega) (HYR.out _ _ (HY.out _ hB)) (HT.out _ hB)).mono ?_
          rintro e w5 ⟨rfl, rfl⟩
          obtain ⟨s2, hs2⟩ : ∃ s, Crc.sum Y = s := ⟨_, rfl⟩
          rw [hs2] at e3 ⊢
          go_wp2_with fail
          refine (crcSum' az Z _ _ wr HZL.out (by rw [HZL.out]; omega) (HZR.out _ _ (HZ.out _ hB)) (HT.out _ hB)).mono ?_
          rintro e w5 ⟨rfl, rfl⟩
          obtain ⟨s3, hs3⟩ : ∃ s, Crc.sum Z = s := ⟨_, rfl⟩
          rw [hs3] at e3 ⊢
          have q1 : (n32 (s1 ^^^ s2 ^^^ s3) == n32 (s1 ^^^ s2 ^^^ s3)) = true := beq_self_eq_true _
          clear e3 hs0 hs1 hs2 hs3
          go_wp2
          go_ret
          exact ⟨rfl, hB⟩
end Go.Proofs.YtihiomgnegcbbaaDoor
