/- The walk of BitsPieces. -/
import Derived.Test.YtmhcfifenclebaaSame
import Derived.Test.YtmhcfifenclebaaCut
import Derived.Test.YtmhcfifenclebaaBitsFirst
import Derived.Deep.RegionWith
namespace Go.Proofs.Ytmhcfifenclebaa
open Go.RowKit
theorem rem9 (x : Int) : -9 < x.tmod 9 ∧ x.tmod 9 < 9 ∧ ∃ n : Nat, n < 9 ∧ (x.tmod 9 + 9).tmod 9 = (n : Int) ∧ (x.tmod 9 + 9) % 9 = (n : Int) := by
  have h1 : -9 < x.tmod 9 := by have := Int.lt_tmod_of_pos x (b := 9) (by omega); omega
  have h3 : x.tmod 9 < 9 := Int.tmod_lt_of_pos x (by omega)
  have h2 : 0 ≤ x.tmod 9 + 9 := by omega
  refine ⟨h1, h3, ((x.tmod 9 + 9) % 9).toNat, by omega, ?_, by omega⟩
  rw [Int.tmod_eq_emod_of_nonneg h2]
  omega
set_option maxHeartbeats 8000000 in
set_option maxRecDepth 100000 in
theorem lawPieces (ao : Option Addr) (l : List (BitVec 8)) (cap : Nat) (so : Option Addr) (s : List Int) (scap : Nat) (w : World) (hr : Rd w ao l) (hlc : l.length ≤ cap) (hs : Rn w so s) :
   Calls Try.prog 6 #[.slice ao l.length cap, .slice so s.length scap] w fun e w' => e = .returned (.bool true) ∧ Below w.heap.size w w' := by
  go_enter Try.func6, Try.ntmps6
  go_wp2_with fail
  refine (firstOf w).mono ?_
  rintro e w1 ⟨rfl, hb1⟩
  by_cases hlen : 65536 < l.length
  · clear hr
    go_wp2
    go_ret
    exact ⟨rfl, hb1⟩
  have hr1 := hr.on hb1
  go_wp2_with fail
  refine (newReader ao l cap w1 (by omega) hr1).mono ?_
  rintro e w2 ⟨p, g, rfl, hp, hg, hR, hb⟩
  have hB2 := hb1.trans (hb.mono hb1.size)
  have hp0 : w.heap.size ≤ p := Nat.le_trans hb1.size hp
  have HR := Lib.hid (fun (w' : World) (hb : Below w.heap.size w w') => hr.on hb)
  have HS := Lib.hid (fun (w' : World) (hb : Below w.heap.size w w') => hs.on hb)
  clear hr hr1 hb hp hg hb1 hs
  go_wp2_with fail
  go_loopw [7, 8] (fun v i wr => ∃ k j : Nat, j ≤ 60 ∧ v = .int .i64 k ∧ i = .int .i64 j ∧ Rdr wr p g l k 0 ∧ Below w.heap.size w wr) (fun _ i _ => 60 - (intOf i).toNat)
  case atStart => exact ⟨0, 0, by omega, rfl, rfl, hR, hB2⟩
  case round =>
    obtain ⟨k, j, hj, rfl, rfl, hR, hB⟩ := hrel
    clear hB2
    by_cases hlt : j < s.length
    · by_cases hlt2 : j < 60
      · have hx0 := HS.out wr hB
        rcases hx0 with rfl | ⟨b, o, rfl, hc⟩
        · simp at hlt
        have hcell := hc j hlt
        obtain ⟨x, hx⟩ : ∃ x, s.getD j 0 = x := ⟨_, rfl⟩
        rw [hx] at hcell
        obtain ⟨hx1, hx2, n0, hn0, hrem, hrem2⟩ := rem9 x
        clear hc hx
        have hk := hR.le
        obtain ⟨i0, hi, hz0, hz1, hz2⟩ := info_parts info_u8
        by_cases hcut : (l.length : Int) - k < n0
        · obtain ⟨n, hn⟩ : ∃ n, l.length - k = n := ⟨_, rfl⟩
          have hsub : (l.length : Int) - (k : Int) = (n : Int) := by omega
          have hn9 : n < 9 := by omega
          have hkn : k + n ≤ l.length := by omega
          have hw1 := wrapI64 ((k : Int) + (n : Int)) (by omega) (by omega)
          have hw2 : (k : Int) + (n : Int) ≤ (cap : Int) := by omega
          have hw3 : ((k : Int) + (n : Int)).toNat = k + n := by omega
          have hw0 : (0 : Int) ≤ (k : Int) + (n : Int) := by omega
          have hif := cutAt_def ao cap k
          have hrc := fun (w' : World) (hb : Below w.heap.size w w') => (HR.out w' hb).cut cap k n hkn hlc
          obtain ⟨m, hm⟩ : ∃ m, (l.drop k).take n = m := ⟨_, rfl⟩
          have hml : m.length = n := by rw [← hm]; simp; omega
          rw [hm] at hrc
          obtain ⟨ac, hac⟩ : ∃ ac, cutAt ao cap k = ac := ⟨_, rfl⟩
          rw [hac] at hif hrc
          have HC := Lib.hid hrc
          have HM := Lib.hid hm
          clear hm hrc hac
          go_wp2_with fail
          have hmk := fun u => run_make_row' (P := Try.prog) 22 5 (.int .u8 0) 1 Try.underlying22 info_u8 rfl .i64 .i64 n (by omega) (by omega) u
          have hB3 : Below w.heap.size w (wr.alloc (.cells (madeCells #[.int .u8 0] n) 5)).drew := below_drewN (hB.alloc hB.size _) 1
          have hO3 : Own (wr.alloc (.cells (madeCells #[.int .u8 0] n) 5)).drew wr.heap.size n 5 (List.replicate n 0#8) := Own.made wr _ n
          have hR3 : Rdr (wr.alloc (.cells (madeCells #[.int .u8 0] n) 5)).drew p g l k 0 := (hR.below ((Below.refl _ wr).alloc (Nat.le_refl _) _)).still ((Still.refl _).drewN 1)
          clear hR hB hcell
          go_region_with (go_at_call 11; refine (sameAs ac _ m (List.replicate n 0#8) n n _ n _ hml (by simp) (by omega) (by omega) (HC.out _ hB3) hO3.rd).mono ?_; rintro e w4 ⟨rfl, hst⟩)
          have hR4 := hR3.still hst
          have hB4 := hB3.trans ((hst.below _).mono hB3.size)
          clear hR3 hB3 hst hO3 hmk
          by_cases hz : (m == List.replicate n 0#8) = true
          · have hzz : zrs m = n := by rw [beq_iff_eq.1 hz, zrs_all _ (by intro i hi; simp at hi; simp [List.getD, hi])]; simp
            have hz1' := hz
            clear hz
            by_cases hj2' : (j : Int) % 2 = 1
            · have hj2 : ((j : Int) % 2 == 1) = true := by rw [beq_iff_eq]; exact hj2'
              clear hj2'
              rw [hz1']
              go_wp2_with fail
              refine (zerosYes hR4 (by omega) n hkn).mono ?_
              rintro e w5 ⟨rfl, hR5, ho⟩
              rw [show zAt l k n = k + n by unfold zAt; rw [HM.out, hzz], show zErr l k n = 0 by unfold zErr; rw [HM.out, hzz, if_pos rfl]] at hR5
              have hB5 := hB4.trans (ho.below (fun _ h => by omega) hB4.size)
              clear hR4 hB4 ho hz1' hj2
              go_wp2_with fail
              refine (readerErr hR5).mono ?_
              rintro e w6 ⟨rfl, hst⟩
              have hR6 := hR5.still hst
              have hB6 := hB5.trans ((hst.below _).mono hB5.size)
              clear hR5 hB5 hst
              go_wp2_with fail
              refine (numOf 0 w6).mono ?_
              rintro e w7 ⟨rfl, rfl⟩
              go_wp2_with fail
              refine (readerLeft hR6 (by omega)).mono ?_
              rintro e w8 ⟨rfl, hst⟩
              rw [if_pos rfl, show ((l.length - (k + n) : Nat) : Int) = (l.length : Int) - ((k : Int) + (n : Int)) by omega]
              have hR8 := hR6.still hst
              have hB8 := hB6.trans ((hst.below _).mono hB6.size)
              clear hR6 hB6 hst
              go_wp2
              go_roundw
              case rel => exact ⟨k + n, j + 1, by omega, by go_num, by go_num, hR8, hB8⟩
              case measure => simp [intOf]; omega
            · have hj2 : ((j : Int) % 2 == 1) = false := by rw [beq_eq_false_iff_ne]; exact hj2'
              clear hj2'
              rw [hz1']
              go_wp2_with fail
              refine (readYes hR4 (by omega) n hkn).mono ?_
              rintro e w5 ⟨ax, rfl, -, hR5, hrx, ho⟩
              rw [HM.out] at hrx
              have hB5 := hB4.trans (ho.below (fun _ h => by omega) hB4.size)
              clear hR4 hB4 ho
              go_wp2_with fail
              refine (sameTrue ax ac m n n _ _ w5 hml hml (by omega) hrx (HC.out _ hB5)).mono ?_
              rintro e w5b ⟨rfl, hst⟩
              replace hR5 := hR5.still hst
              replace hB5 := hB5.trans ((hst.below _).mono hB5.size)
              clear hst hrx
              go_wp2_with fail
              refine (readerErr hR5).mono ?_
              rintro e w6 ⟨rfl, hst⟩
              have hR6 := hR5.still hst
              have hB6 := hB5.trans ((hst.below _).mono hB5.size)
              clear hR5 hB5 hst
              go_wp2_with fail
              refine (numOf 0 w6).mono ?_
              rintro e w7 ⟨rfl, rfl⟩
              go_wp2_with fail
              refine (readerLeft hR6 (by omega)).mono ?_
              rintro e w8 ⟨rfl, hst⟩
              rw [if_pos rfl, show ((l.length - (k + n) : Nat) : Int) = (l.length : Int) - ((k : Int) + (n : Int)) by omega]
              have hR8 := hR6.still hst
              have hB8 := hB6.trans ((hst.below _).mono hB6.size)
              clear hR6 hB6 hst
              go_wp2
              go_roundw
              case rel => exact ⟨k + n, j + 1, by omega, by go_num, by go_num, hR8, hB8⟩
              case measure => simp [intOf]; omega
          · have hz1' : (m == List.replicate n 0#8) = false := by simpa using hz
            clear hz
            rw [hz1']
            go_wp2_with fail
            refine (readYes hR4 (by omega) n hkn).mono ?_
            rintro e w5 ⟨ax, rfl, -, hR5, hrx, ho⟩
            rw [HM.out] at hrx
            have hB5 := hB4.trans (ho.below (fun _ h => by omega) hB4.size)
            clear hR4 hB4 ho
            go_wp2_with fail
            refine (sameTrue ax ac m n n _ _ w5 hml hml (by omega) hrx (HC.out _ hB5)).mono ?_
            rintro e w5b ⟨rfl, hst⟩
            replace hR5 := hR5.still hst
            replace hB5 := hB5.trans ((hst.below _).mono hB5.size)
            clear hst hrx
            go_wp2_with fail
            refine (readerErr hR5).mono ?_
            rintro e w6 ⟨rfl, hst⟩
            have hR6 := hR5.still hst
            have hB6 := hB5.trans ((hst.below _).mono hB5.size)
            clear hR5 hB5 hst
            go_wp2_with fail
            refine (numOf 0 w6).mono ?_
            rintro e w7 ⟨rfl, rfl⟩
            go_wp2_with fail
            refine (readerLeft hR6 (by omega)).mono ?_
            rintro e w8 ⟨rfl, hst⟩
            rw [if_pos rfl, show ((l.length - (k + n) : Nat) : Int) = (l.length : Int) - ((k : Int) + (n : Int)) by omega]
            have hR8 := hR6.still hst
            have hB8 := hB6.trans ((hst.below _).mono hB6.size)
            clear hR6 hB6 hst
            go_wp2
            go_roundw
            case rel => exact ⟨k + n, j + 1, by omega, by go_num, by go_num, hR8, hB8⟩
            case measure => simp [intOf]; omega
        · obtain ⟨n, hn⟩ : ∃ n, n0 = n := ⟨_, rfl⟩
          rw [hn] at hrem hrem2 hcut hn0
          clear hn
          have hkn : k + n ≤ l.length := by omega
          have hw1 := wrapI64 ((k : Int) + (n : Int)) (by omega) (by omega)
          have hw2 : (k : Int) + (n : Int) ≤ (cap : Int) := by omega
          have hw3 : ((k : Int) + (n : Int)).toNat = k + n := by omega
          have hw0 : (0 : Int) ≤ (k : Int) + (n : Int) := by omega
          have hif := cutAt_def ao cap k
          have hrc := fun (w' : World) (hb : Below w.heap.size w w') => (HR.out w' hb).cut cap k n hkn hlc
          obtain ⟨m, hm⟩ : ∃ m, (l.drop k).take n = m := ⟨_, rfl⟩
          have hml : m.length = n := by rw [← hm]; simp; omega
          rw [hm] at hrc
          obtain ⟨ac, hac⟩ : ∃ ac, cutAt ao cap k = ac := ⟨_, rfl⟩
          rw [hac] at hif hrc
          have HC := Lib.hid hrc
          have HM := Lib.hid hm
          clear hm hrc hac
          go_wp2_with fail
          have hmk := fun u => run_make_row' (P := Try.prog) 22 5 (.int .u8 0) 1 Try.underlying22 info_u8 rfl .i64 .i64 n (by omega) (by omega) u
          have hB3 : Below w.heap.size w (wr.alloc (.cells (madeCells #[.int .u8 0] n) 5)).drew := below_drewN (hB.alloc hB.size _) 1
          have hO3 : Own (wr.alloc (.cells (madeCells #[.int .u8 0] n) 5)).drew wr.heap.size n 5 (List.replicate n 0#8) := Own.made wr _ n
          have hR3 : Rdr (wr.alloc (.cells (madeCells #[.int .u8 0] n) 5)).drew p g l k 0 := (hR.below ((Below.refl _ wr).alloc (Nat.le_refl _) _)).still ((Still.refl _).drewN 1)
          clear hR hB hcell
          go_region_with (go_at_call 11; refine (sameAs ac _ m (List.replicate n 0#8) n n _ n _ hml (by simp) (by omega) (by omega) (HC.out _ hB3) hO3.rd).mono ?_; rintro e w4 ⟨rfl, hst⟩)
          have hR4 := hR3.still hst
          have hB4 := hB3.trans ((hst.below _).mono hB3.size)
          clear hR3 hB3 hst hO3 hmk
          by_cases hz : (m == List.replicate n 0#8) = true
          · have hzz : zrs m = n := by rw [beq_iff_eq.1 hz, zrs_all _ (by intro i hi; simp at hi; simp [List.getD, hi])]; simp
            have hz1' := hz
            clear hz
            by_cases hj2' : (j : Int) % 2 = 1
            · have hj2 : ((j : Int) % 2 == 1) = true := by rw [beq_iff_eq]; exact hj2'
              clear hj2'
              rw [hz1']
              go_wp2_with fail
              refine (zerosYes hR4 (by omega) n hkn).mono ?_
              rintro e w5 ⟨rfl, hR5, ho⟩
              rw [show zAt l k n = k + n by unfold zAt; rw [HM.out, hzz], show zErr l k n = 0 by unfold zErr; rw [HM.out, hzz, if_pos rfl]] at hR5
              have hB5 := hB4.trans (ho.below (fun _ h => by omega) hB4.size)
              clear hR4 hB4 ho hz1' hj2
              go_wp2_with fail
              refine (readerErr hR5).mono ?_
              rintro e w6 ⟨rfl, hst⟩
              have hR6 := hR5.still hst
              have hB6 := hB5.trans ((hst.below _).mono hB5.size)
              clear hR5 hB5 hst
              go_wp2_with fail
              refine (numOf 0 w6).mono ?_
              rintro e w7 ⟨rfl, rfl⟩
              go_wp2_with fail
              refine (readerLeft hR6 (by omega)).mono ?_
              rintro e w8 ⟨rfl, hst⟩
              rw [if_pos rfl, show ((l.length - (k + n) : Nat) : Int) = (l.length : Int) - ((k : Int) + (n : Int)) by omega]
              have hR8 := hR6.still hst
              have hB8 := hB6.trans ((hst.below _).mono hB6.size)
              clear hR6 hB6 hst
              go_wp2
              go_roundw
              case rel => exact ⟨k + n, j + 1, by omega, by go_num, by go_num, hR8, hB8⟩
              case measure => simp [intOf]; omega
            · have hj2 : ((j : Int) % 2 == 1) = false := by rw [beq_eq_false_iff_ne]; exact hj2'
              clear hj2'
              rw [hz1']
              go_wp2_with fail
              refine (readYes hR4 (by omega) n hkn).mono ?_
              rintro e w5 ⟨ax, rfl, -, hR5, hrx, ho⟩
              rw [HM.out] at hrx
              have hB5 := hB4.trans (ho.below (fun _ h => by omega) hB4.size)
              clear hR4 hB4 ho
              go_wp2_with fail
              refine (sameTrue ax ac m n n _ _ w5 hml hml (by omega) hrx (HC.out _ hB5)).mono ?_
              rintro e w5b ⟨rfl, hst⟩
              replace hR5 := hR5.still hst
              replace hB5 := hB5.trans ((hst.below _).mono hB5.size)
              clear hst hrx
              go_wp2_with fail
              refine (readerErr hR5).mono ?_
              rintro e w6 ⟨rfl, hst⟩
              have hR6 := hR5.still hst
              have hB6 := hB5.trans ((hst.below _).mono hB5.size)
              clear hR5 hB5 hst
              go_wp2_with fail
              refine (numOf 0 w6).mono ?_
              rintro e w7 ⟨rfl, rfl⟩
              go_wp2_with fail
              refine (readerLeft hR6 (by omega)).mono ?_
              rintro e w8 ⟨rfl, hst⟩
              rw [if_pos rfl, show ((l.length - (k + n) : Nat) : Int) = (l.length : Int) - ((k : Int) + (n : Int)) by omega]
              have hR8 := hR6.still hst
              have hB8 := hB6.trans ((hst.below _).mono hB6.size)
              clear hR6 hB6 hst
              go_wp2
              go_roundw
              case rel => exact ⟨k + n, j + 1, by omega, by go_num, by go_num, hR8, hB8⟩
              case measure => simp [intOf]; omega
          · have hz1' : (m == List.replicate n 0#8) = false := by simpa using hz
            clear hz
            rw [hz1']
            go_wp2_with fail
            refine (readYes hR4 (by omega) n hkn).mono ?_
            rintro e w5 ⟨ax, rfl, -, hR5, hrx, ho⟩
            rw [HM.out] at hrx
            have hB5 := hB4.trans (ho.below (fun _ h => by omega) hB4.size)
            clear hR4 hB4 ho
            go_wp2_with fail
            refine (sameTrue ax ac m n n _ _ w5 hml hml (by omega) hrx (HC.out _ hB5)).mono ?_
            rintro e w5b ⟨rfl, hst⟩
            replace hR5 := hR5.still hst
            replace hB5 := hB5.trans ((hst.below _).mono hB5.size)
            clear hst hrx
            go_wp2_with fail
            refine (readerErr hR5).mono ?_
            rintro e w6 ⟨rfl, hst⟩
            have hR6 := hR5.still hst
            have hB6 := hB5.trans ((hst.below _).mono hB5.size)
            clear hR5 hB5 hst
            go_wp2_with fail
            refine (numOf 0 w6).mono ?_
            rintro e w7 ⟨rfl, rfl⟩
            go_wp2_with fail
            refine (readerLeft hR6 (by omega)).mono ?_
            rintro e w8 ⟨rfl, hst⟩
            rw [if_pos rfl, show ((l.length - (k + n) : Nat) : Int) = (l.length : Int) - ((k : Int) + (n : Int)) by omega]
            have hR8 := hR6.still hst
            have hB8 := hB6.trans ((hst.below _).mono hB6.size)
            clear hR6 hB6 hst
            go_wp2
            go_roundw
            case rel => exact ⟨k + n, j + 1, by omega, by go_num, by go_num, hR8, hB8⟩
            case measure => simp [intOf]; omega
      · go_wp2
        go_ret
        exact ⟨rfl, hB⟩
    · go_wp2
      go_ret
      exact ⟨rfl, hB⟩
end Go.Proofs.Ytmhcfifenclebaa
