/- The walk of WalNeeds. -/
import Derived.Test.YthaiibfnjgfgjaaDoorWMe
namespace Go.Proofs.YthaiibfnjgfgjaaDoor
open Go.RowKit
namespace Wl
theorem refPieces (n : Int) (w : World) (h0 : -9223372036854775808 ≤ n) (h1 : n ≤ 9223372036854775807) : Calls Tryd.prog 13 #[.int .i64 n] w fun e w' => e = .returned (.int .i64 (pcZ n)) ∧ w' = w := by
  by_cases h : n < 1
  · have HP := Lib.hid (show pcZ n = 0 by unfold pcZ; rw [if_pos h])
    go_enter Tryd.func13, Tryd.ntmps13
    go_wp2_with fail
    go_ret
    exact ⟨by rw [HP.out] <;> rfl, rfl⟩
  · have HP := Lib.hid (show pcZ n = (n - 1) / 480 + 1 by unfold pcZ; rw [if_neg h])
    have e1 : IntKind.i64.wrap (n - 1) = n - 1 := wrapI64 _ (by omega) (by omega)
    have e2 : (n - 1).tdiv 480 = (n - 1) / 480 := Int.tdiv_eq_ediv_of_nonneg (by omega)
    have e3 : IntKind.i64.wrap ((n - 1) / 480) = (n - 1) / 480 := wrapI64 _ (by omega) (by omega)
    have e4 : IntKind.i64.wrap ((n - 1) / 480 + 1) = (n - 1) / 480 + 1 := wrapI64 _ (by omega) (by omega)
    go_enter Tryd.func13, Tryd.ntmps13
    go_wp2_with fail
    go_ret
    exact ⟨by rw [HP.out] <;> rfl, rfl⟩
theorem refNeed (n : Int) (w : World) (h0 : -9223372036854775808 ≤ n) (h1 : n ≤ 9223372036854775807) : Calls Tryd.prog 12 #[.int .i64 n] w fun e w' => e = .returned (.int .i64 (needZ n)) ∧ w' = w := by
  by_cases h : n < 1
  · have HP := Lib.hid (show needZ n = 0 by unfold needZ; rw [if_pos (Or.inl h)])
    go_enter Tryd.func12, Tryd.ntmps12
    go_wp2_with fail
    go_ret
    exact ⟨by rw [HP.out] <;> rfl, rfl⟩
  · by_cases h2 : 4800 < n
    · have HP := Lib.hid (show needZ n = 0 by unfold needZ; rw [if_pos (Or.inr h2)])
      go_enter Tryd.func12, Tryd.ntmps12
      go_wp2_with fail
      go_ret
      exact ⟨by rw [HP.out] <;> rfl, rfl⟩
    · by_cases h3 : n ≤ 480
      · have HP := Lib.hid (show needZ n = 1 by unfold needZ; rw [if_neg (by omega), if_pos h3])
        go_enter Tryd.func12, Tryd.ntmps12
        go_wp2_with fail
        go_ret
        exact ⟨by rw [HP.out] <;> rfl, rfl⟩
      · have HP := Lib.hid (show needZ n = pcZ n + 1 by unfold needZ; rw [if_neg (by omega), if_neg h3])
        have hb : pcZ n ≤ 4900 ∧ 0 ≤ pcZ n := by unfold pcZ; rw [if_neg h]; omega
        obtain ⟨y, hy⟩ : ∃ y, pcZ n = y := ⟨_, rfl⟩
        have hr := refPieces n w h0 h1
        rw [hy] at hr hb
        have HY := Lib.hid hy
        have HRR := Lib.hid hr
        have e4 : IntKind.i64.wrap (y + 1) = y + 1 := wrapI64 _ (by omega) (by omega)
        clear hy hr
        go_enter Tryd.func12, Tryd.ntmps12
        go_wp2_with fail
        refine HRR.out.mono ?_
        rintro e w' ⟨rfl, hw⟩
        obtain rfl := hw.symm
        go_wp2_with fail
        go_ret
        exact ⟨by rw [HP.out, HY.out] <;> rfl, rfl⟩
theorem lawNeeds (n : Int) (w : World) (h0 : -9223372036854775808 ≤ n) (h1 : n ≤ 9223372036854775807) (ht : Tab w) (hT : 0 < w.heap.size) :
   Calls Tryd.prog 3 #[.int .i64 n] w fun e w' => e = .returned (.bool true) ∧ Below w.heap.size w w' := by
  have HN := Lib.hid (fun (u : World) => wNeedZ n u h0 h1)
  have HP := Lib.hid (fun (u : World) => wPiecesZ n u h0 h1)
  have HRN := Lib.hid (fun (u : World) => refNeed n u h0 h1)
  have HRP := Lib.hid (fun (u : World) => refPieces n u h0 h1)
  have HF := Lib.hid (wFirst w ht hT)
  obtain ⟨y, hy⟩ : ∃ y, needZ n = y := ⟨_, rfl⟩
  obtain ⟨z, hz⟩ : ∃ z, pcZ n = z := ⟨_, rfl⟩
  rw [hy] at HN HRN
  rw [hz] at HP HRP
  have i1 : (y == y) = true := by simp
  have i2 : (z == z) = true := by simp
  clear hy hz ht hT h0 h1
  go_enter Tryd.func3, Tryd.ntmps3
  go_wp2_with fail
  refine HF.out.mono ?_
  rintro e W1 ⟨rfl, hb⟩
  have HB := Lib.hid hb
  clear hb HF
  go_wp2_with (first
    | (go_at_call 10; refine (HN.out _).mono ?_; rintro e w' ⟨rfl, hw⟩; subst hw)
    | (go_at_call 11; refine (HP.out _).mono ?_; rintro e w' ⟨rfl, hw⟩; subst hw)
    | (go_at_call 12; refine (HRN.out _).mono ?_; rintro e w' ⟨rfl, hw⟩; have hw := hw.symm; subst hw)
    | (go_at_call 13; refine (HRP.out _).mono ?_; rintro e w' ⟨rfl, hw⟩; have hw := hw.symm; subst hw))
  go_ret
  exact ⟨rfl, HB.out⟩
end Wl
end Go.Proofs.YthaiibfnjgfgjaaDoor
