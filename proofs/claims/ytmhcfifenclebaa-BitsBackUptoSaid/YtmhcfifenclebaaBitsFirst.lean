/- The law's first: numbers and a reader of which the document fixes all. -/
import Derived.Test.YtmhcfifenclebaaSame
import Derived.Test.YtmhcfifenclebaaBitsPut
import Derived.Test.YtmhcfifenclebaaBitsGet
namespace Go.Proofs.Ytmhcfifenclebaa
open Go.RowKit
theorem numOf (e : Int) (w : World) : Calls Try.prog 17 #[.int .i64 e] w fun x w' => x = .returned (.int .i64 e) ∧ w' = w := by
  go_enter Try.func17, Try.ntmps17
  go_wp2
  go_ret
  exact ⟨rfl, rfl⟩
theorem n16_258 : (258 : Int) = n16 258#16 := by unfold n16; rfl
theorem n64_top : (9223372036854775808 : Int) = n64 9223372036854775808#64 := by unfold n64; rfl
theorem firstOf (w : World) : Calls Try.prog 8 #[] w fun x w' => x = .returned (.bool true) ∧ Below w.heap.size w w' := by
  go_enter Try.func8, Try.ntmps8
  go_wp2_with fail
  rw [n16_258]
  refine (put16 (some ⟨w.heap.size, 0, none⟩) [7#8] 1 258#16 _ (by decide) (Rd_new w _ #[Value.int .u8 7] _ _ (by simp [bts, n8]))).mono ?_
  rintro e w1 ⟨g, rfl, hg, hO, hb⟩
  rw [show [7#8] ++ be ((258#16).setWidth 64) 2 = [7#8, 1#8, 2#8] by decide] at hO
  have hB1 : Below w.heap.size w w1 := ((Below.refl _ w).alloc (Nat.le_refl _) _).trans (hb.mono (by show _ ≤ (w.heap.push _).size; simp))
  have hr1 := hO.rd
  clear hO hb hg
  go_wp2_with fail
  rw [n64_top]
  refine (put64 (some ⟨g, 0, none⟩) [7#8, 1#8, 2#8] _ 9223372036854775808#64 w1 (by decide) hr1).mono ?_
  rintro e w2 ⟨g2, rfl, hg, hO, hb⟩
  rw [show [7#8, 1#8, 2#8] ++ be 9223372036854775808#64 8 = [7#8, 1#8, 2#8, 128#8, 0#8, 0#8, 0#8, 0#8, 0#8, 0#8, 0#8] by decide] at hO
  have hB2 := hB1.trans (hb.mono hB1.size)
  have hr2 := hO.rd
  clear hO hb hg hB1 hr1
  go_wp2_with fail
  refine (sameTrue (some ⟨g2, 0, none⟩) (some ⟨w2.heap.size, 0, none⟩) [7#8, 1#8, 2#8, 128#8, 0#8, 0#8, 0#8, 0#8, 0#8, 0#8, 0#8] 11 11 _ _ _ (by decide) (by decide) (by decide) (hr2.on ((Below.refl _ w2).alloc (Nat.le_refl _) _)) (Rd_new w2 _ #[.int .u8 7, .int .u8 1, .int .u8 2, .int .u8 128, .int .u8 0, .int .u8 0, .int .u8 0, .int .u8 0, .int .u8 0, .int .u8 0, .int .u8 0] _ _ (by simp [bts, n8]))).mono ?_
  rintro e w3 ⟨rfl, hst⟩
  have hB3 := (hB2.alloc hB2.size _).trans (hst.below _)
  clear hr2 hB2 hst
  go_wp2_with fail
  refine (newReader (some ⟨w3.heap.size, 0, none⟩) [1#8, 2#8, 3#8, 4#8, 5#8] 5 _ (by decide) (Rd_new w3 _ #[.int .u8 1, .int .u8 2, .int .u8 3, .int .u8 4, .int .u8 5] _ _ (by simp [bts, n8]))).mono ?_
  rintro e w4 ⟨p, gr, rfl, hp, hgr, hR, hb⟩
  have hB4 := (hB3.alloc hB3.size _).trans (hb.mono (by have := hB3.size; show _ ≤ (w3.heap.push _).size; simp; omega))
  have hp0 : w.heap.size ≤ p := Nat.le_trans hB3.size (Nat.le_trans (by show _ ≤ (w3.heap.push _).size; simp) hp)
  clear hB3 hb hp hgr
  go_wp2_with fail
  refine (getYes16 hR (by decide) (by decide)).mono ?_
  rintro e w5 ⟨rfl, hR5, ho⟩
  rw [show (val (([1#8, 2#8, 3#8, 4#8, 5#8].drop 0).take 2)).setWidth 16 = 258#16 by decide, ← n16_258]
  have hB5 := hB4.trans (ho.below (fun _ h => by omega) hB4.size)
  clear hB4 ho hR
  go_wp2_with fail
  refine (readYes hR5 (by decide) 2 (by decide)).mono ?_
  rintro e w6 ⟨ao, rfl, ha, hR6, hr6, ho⟩
  rw [ha (by decide)] at hr6 ⊢
  rw [show ([1#8, 2#8, 3#8, 4#8, 5#8].drop (0 + 2)).take 2 = [3#8, 4#8] by decide] at hr6
  have hB6 := hB5.trans (ho.below (fun _ h => by omega) hB5.size)
  clear hB5 ho hR5 ha
  go_wp2_with fail
  refine (readerLeft hR6 (by decide)).mono ?_
  rintro e w7 ⟨rfl, hst⟩
  rw [show (if (0 : Int) = 0 then ((([1#8, 2#8, 3#8, 4#8, 5#8].length - (0 + 2 + 2) : Nat)) : Int) else 0) = 1 by decide]
  have hR7 := hR6.still hst
  have hr7 := hr6.on (hst.below _)
  have hB7 := hB6.trans ((hst.below _).mono hB6.size)
  clear hR6 hr6 hB6 hst
  go_wp2_with fail
  refine (getNo16 hR7 (by decide) (by decide)).mono ?_
  rintro e w8 ⟨rfl, hR8, -, ho⟩
  rw [show failE [1#8, 2#8, 3#8, 4#8, 5#8] (0 + 2 + 2) 0 2 = 10 by decide] at hR8
  have hB8 := hB7.trans (ho.below (fun _ h => by omega) hB7.size)
  have hr8 := hr7.only ho (fun a ha => by cases ha; exact Ne.symm hR8.ne)
  clear hR7 hr7 hB7 ho
  go_wp2_with fail
  refine (readerErr hR8).mono ?_
  rintro e w9 ⟨rfl, hst⟩
  have hR9 := hR8.still hst
  have hr9 := hr8.on (hst.below _)
  have hB9 := hB8.trans ((hst.below _).mono hB8.size)
  clear hR8 hr8 hB8 hst
  obtain ⟨b, o, hbo, hc⟩ := hr9.at (by decide)
  cases hbo
  have hc0 := hc 0 (by decide)
  have hc1 := hc 1 (by decide)
  rw [show n8 ([3#8, 4#8].getD 0 0#8) = 3 by simp [n8]] at hc0
  rw [show n8 ([3#8, 4#8].getD 1 0#8) = 4 by simp [n8]] at hc1
  clear hc hr9
  go_wp2_with fail
  refine (numOf 10 w9).mono ?_
  rintro e w10 ⟨rfl, rfl⟩
  go_wp2_with fail
  refine (readerLeft hR9 (by decide)).mono ?_
  rintro e w11 ⟨rfl, hst⟩
  rw [show (if (10 : Int) = 0 then ((([1#8, 2#8, 3#8, 4#8, 5#8].length - (0 + 2 + 2) : Nat)) : Int) else 0) = 0 by decide]
  have hB11 := hB9.trans ((hst.below _).mono hB9.size)
  clear hR9 hB9 hst
  go_wp2
  go_ret
  exact ⟨rfl, hB11⟩
end Go.Proofs.Ytmhcfifenclebaa
