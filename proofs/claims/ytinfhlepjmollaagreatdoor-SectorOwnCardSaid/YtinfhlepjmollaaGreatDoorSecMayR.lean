/- Which sector may be, by the document. -/
import Derived.Test.YtinfhlepjmollaaGreatDoorSecMay
namespace Go.Proofs.YtinfhlepjmollaaGreatDoor
open Go.RowKit
set_option maxHeartbeats 4000000 in
theorem refMay (S : Sec) (ao : Option Addr) (cap : Nat) (w : World) (hf : S.fits) :
   Calls Tryz.prog 16 #[S.val ao cap] w fun e w' => e = .returned (.bool S.may) ∧ Below w.heap.size w w' := by
  obtain ⟨hl, he0, he1, hs0, hs1, hp0, hp1⟩ := hf
  obtain ⟨tag, epoch, seq, place, body⟩ := S
  unfold Sec.val
  simp only at hl he0 he1 hs0 hs1 hp0 hp1 ⊢
  cases gS : (tag == tS)
  · cases gD : (tag == tD)
    · cases gC : (tag == tC)
      · cases gO : (tag == tO)
        · go_enter Tryz.func16, Tryz.ntmps16
          go_wp2
          all_goals go_ret
          all_goals exact ⟨by simp [Sec.may, tagB_eq, gS, gD, gC, gO] <;> omega, (Below.refl _ w).alloc (Nat.le_refl _) _⟩
        · by_cases c2 : 1 ≤ epoch
          · by_cases c3 : epoch ≤ 4611686018427387904
            · by_cases c4 : 1 ≤ seq
              · by_cases c5 : seq ≤ 4611686018427387904
                · by_cases c6 : 0 ≤ place
                  · by_cases c7 : place ≤ 8191
                    · have c7x : place < 8192 := by omega
                      by_cases c8 : body.length ≤ 480
                      · have c8x : (body.length : Int) ≤ 480 := by omega
                        go_enter Tryz.func16, Tryz.ntmps16
                        go_wp2
                        all_goals go_ret
                        all_goals exact ⟨by simp [Sec.may, tagB_eq, gS, gD, gC, gO, c2, c3, c4, c5, c6, c7, c8] <;> omega, (Below.refl _ w).alloc (Nat.le_refl _) _⟩
                      · have c8x : ¬ (body.length : Int) ≤ 480 := by omega
                        go_enter Tryz.func16, Tryz.ntmps16
                        go_wp2
                        all_goals go_ret
                        all_goals exact ⟨by simp [Sec.may, tagB_eq, gS, gD, gC, gO, c2, c3, c4, c5, c6, c7, c8] <;> omega, (Below.refl _ w).alloc (Nat.le_refl _) _⟩
                    · have c7x : ¬ place < 8192 := by omega
                      go_enter Tryz.func16, Tryz.ntmps16
                      go_wp2
                      all_goals go_ret
                      all_goals exact ⟨by simp [Sec.may, tagB_eq, gS, gD, gC, gO, c2, c3, c4, c5, c6] <;> omega, (Below.refl _ w).alloc (Nat.le_refl _) _⟩
                  · go_enter Tryz.func16, Tryz.ntmps16
                    go_wp2
                    all_goals go_ret
                    all_goals exact ⟨by simp [Sec.may, tagB_eq, gS, gD, gC, gO, c2, c3, c4, c5] <;> omega, (Below.refl _ w).alloc (Nat.le_refl _) _⟩
                · go_enter Tryz.func16, Tryz.ntmps16
                  go_wp2
                  all_goals go_ret
                  all_goals exact ⟨by simp [Sec.may, tagB_eq, gS, gD, gC, gO, c2, c3, c4] <;> omega, (Below.refl _ w).alloc (Nat.le_refl _) _⟩
              · go_enter Tryz.func16, Tryz.ntmps16
                go_wp2
                all_goals go_ret
                all_goals exact ⟨by simp [Sec.may, tagB_eq, gS, gD, gC, gO, c2, c3] <;> omega, (Below.refl _ w).alloc (Nat.le_refl _) _⟩
            · go_enter Tryz.func16, Tryz.ntmps16
              go_wp2
              all_goals go_ret
              all_goals exact ⟨by simp [Sec.may, tagB_eq, gS, gD, gC, gO, c2] <;> omega, (Below.refl _ w).alloc (Nat.le_refl _) _⟩
          · go_enter Tryz.func16, Tryz.ntmps16
            go_wp2
            all_goals go_ret
            all_goals exact ⟨by simp [Sec.may, tagB_eq, gS, gD, gC, gO] <;> omega, (Below.refl _ w).alloc (Nat.le_refl _) _⟩
      · by_cases c2 : 1 ≤ epoch
        · by_cases c3 : epoch ≤ 4611686018427387904
          · by_cases c4 : 1 ≤ seq
            · by_cases c5 : seq ≤ 4611686018427387904
              · by_cases c6 : 0 ≤ place
                · by_cases c7 : place ≤ 8191
                  · have c7x : place < 8192 := by omega
                    by_cases c8 : body.length ≤ 480
                    · have c8x : (body.length : Int) ≤ 480 := by omega
                      go_enter Tryz.func16, Tryz.ntmps16
                      go_wp2
                      all_goals go_ret
                      all_goals exact ⟨by simp [Sec.may, tagB_eq, gS, gD, gC, c2, c3, c4, c5, c6, c7, c8] <;> omega, (Below.refl _ w).alloc (Nat.le_refl _) _⟩
                    · have c8x : ¬ (body.length : Int) ≤ 480 := by omega
                      go_enter Tryz.func16, Tryz.ntmps16
                      go_wp2
                      all_goals go_ret
                      all_goals exact ⟨by simp [Sec.may, tagB_eq, gS, gD, gC, c2, c3, c4, c5, c6, c7, c8] <;> omega, (Below.refl _ w).alloc (Nat.le_refl _) _⟩
                  · have c7x : ¬ place < 8192 := by omega
                    go_enter Tryz.func16, Tryz.ntmps16
                    go_wp2
                    all_goals go_ret
                    all_goals exact ⟨by simp [Sec.may, tagB_eq, gS, gD, gC, c2, c3, c4, c5, c6] <;> omega, (Below.refl _ w).alloc (Nat.le_refl _) _⟩
                · go_enter Tryz.func16, Tryz.ntmps16
                  go_wp2
                  all_goals go_ret
                  all_goals exact ⟨by simp [Sec.may, tagB_eq, gS, gD, gC, c2, c3, c4, c5] <;> omega, (Below.refl _ w).alloc (Nat.le_refl _) _⟩
              · go_enter Tryz.func16, Tryz.ntmps16
                go_wp2
                all_goals go_ret
                all_goals exact ⟨by simp [Sec.may, tagB_eq, gS, gD, gC, c2, c3, c4] <;> omega, (Below.refl _ w).alloc (Nat.le_refl _) _⟩
            · go_enter Tryz.func16, Tryz.ntmps16
              go_wp2
              all_goals go_ret
              all_goals exact ⟨by simp [Sec.may, tagB_eq, gS, gD, gC, c2, c3] <;> omega, (Below.refl _ w).alloc (Nat.le_refl _) _⟩
          · go_enter Tryz.func16, Tryz.ntmps16
            go_wp2
            all_goals go_ret
            all_goals exact ⟨by simp [Sec.may, tagB_eq, gS, gD, gC, c2] <;> omega, (Below.refl _ w).alloc (Nat.le_refl _) _⟩
        · go_enter Tryz.func16, Tryz.ntmps16
          go_wp2
          all_goals go_ret
          all_goals exact ⟨by simp [Sec.may, tagB_eq, gS, gD, gC] <;> omega, (Below.refl _ w).alloc (Nat.le_refl _) _⟩
    · by_cases c2 : 1 ≤ epoch
      · by_cases c3 : epoch ≤ 4611686018427387904
        · by_cases c4 : 1 ≤ seq
          · by_cases c5 : seq ≤ 4611686018427387904
            · by_cases c6 : 0 ≤ place
              · by_cases c7 : place ≤ 8191
                · have c7x : place < 8192 := by omega
                  by_cases c8 : body.length ≤ 480
                  · have c8x : (body.length : Int) ≤ 480 := by omega
                    go_enter Tryz.func16, Tryz.ntmps16
                    go_wp2
                    all_goals go_ret
                    all_goals exact ⟨by simp [Sec.may, tagB_eq, gS, gD, c2, c3, c4, c5, c6, c7, c8] <;> omega, (Below.refl _ w).alloc (Nat.le_refl _) _⟩
                  · have c8x : ¬ (body.length : Int) ≤ 480 := by omega
                    go_enter Tryz.func16, Tryz.ntmps16
                    go_wp2
                    all_goals go_ret
                    all_goals exact ⟨by simp [Sec.may, tagB_eq, gS, gD, c2, c3, c4, c5, c6, c7, c8] <;> omega, (Below.refl _ w).alloc (Nat.le_refl _) _⟩
                · have c7x : ¬ place < 8192 := by omega
                  go_enter Tryz.func16, Tryz.ntmps16
                  go_wp2
                  all_goals go_ret
                  all_goals exact ⟨by simp [Sec.may, tagB_eq, gS, gD, c2, c3, c4, c5, c6] <;> omega, (Below.refl _ w).alloc (Nat.le_refl _) _⟩
              · go_enter Tryz.func16, Tryz.ntmps16
                go_wp2
                all_goals go_ret
                all_goals exact ⟨by simp [Sec.may, tagB_eq, gS, gD, c2, c3, c4, c5] <;> omega, (Below.refl _ w).alloc (Nat.le_refl _) _⟩
            · go_enter Tryz.func16, Tryz.ntmps16
              go_wp2
              all_goals go_ret
              all_goals exact ⟨by simp [Sec.may, tagB_eq, gS, gD, c2, c3, c4] <;> omega, (Below.refl _ w).alloc (Nat.le_refl _) _⟩
          · go_enter Tryz.func16, Tryz.ntmps16
            go_wp2
            all_goals go_ret
            all_goals exact ⟨by simp [Sec.may, tagB_eq, gS, gD, c2, c3] <;> omega, (Below.refl _ w).alloc (Nat.le_refl _) _⟩
        · go_enter Tryz.func16, Tryz.ntmps16
          go_wp2
          all_goals go_ret
          all_goals exact ⟨by simp [Sec.may, tagB_eq, gS, gD, c2] <;> omega, (Below.refl _ w).alloc (Nat.le_refl _) _⟩
      · go_enter Tryz.func16, Tryz.ntmps16
        go_wp2
        all_goals go_ret
        all_goals exact ⟨by simp [Sec.may, tagB_eq, gS, gD] <;> omega, (Below.refl _ w).alloc (Nat.le_refl _) _⟩
  · by_cases c2 : 1 ≤ epoch
    · by_cases c3 : epoch ≤ 4611686018427387904
      · by_cases c4 : 1 ≤ seq
        · by_cases c5 : seq ≤ 4611686018427387904
          · by_cases c6 : 0 ≤ place
            · by_cases c7 : place ≤ 8191
              · have c7x : place < 8192 := by omega
                by_cases c8 : body.length ≤ 480
                · have c8x : (body.length : Int) ≤ 480 := by omega
                  go_enter Tryz.func16, Tryz.ntmps16
                  go_wp2
                  all_goals go_ret
                  all_goals exact ⟨by simp [Sec.may, tagB_eq, gS, c2, c3, c4, c5, c6, c7, c8] <;> omega, (Below.refl _ w).alloc (Nat.le_refl _) _⟩
                · have c8x : ¬ (body.length : Int) ≤ 480 := by omega
                  go_enter Tryz.func16, Tryz.ntmps16
                  go_wp2
                  all_goals go_ret
                  all_goals exact ⟨by simp [Sec.may, tagB_eq, gS, c2, c3, c4, c5, c6, c7, c8] <;> omega, (Below.refl _ w).alloc (Nat.le_refl _) _⟩
              · have c7x : ¬ place < 8192 := by omega
                go_enter Tryz.func16, Tryz.ntmps16
                go_wp2
                all_goals go_ret
                all_goals exact ⟨by simp [Sec.may, tagB_eq, gS, c2, c3, c4, c5, c6] <;> omega, (Below.refl _ w).alloc (Nat.le_refl _) _⟩
            · go_enter Tryz.func16, Tryz.ntmps16
              go_wp2
              all_goals go_ret
              all_goals exact ⟨by simp [Sec.may, tagB_eq, gS, c2, c3, c4, c5] <;> omega, (Below.refl _ w).alloc (Nat.le_refl _) _⟩
          · go_enter Tryz.func16, Tryz.ntmps16
            go_wp2
            all_goals go_ret
            all_goals exact ⟨by simp [Sec.may, tagB_eq, gS, c2, c3, c4] <;> omega, (Below.refl _ w).alloc (Nat.le_refl _) _⟩
        · go_enter Tryz.func16, Tryz.ntmps16
          go_wp2
          all_goals go_ret
          all_goals exact ⟨by simp [Sec.may, tagB_eq, gS, c2, c3] <;> omega, (Below.refl _ w).alloc (Nat.le_refl _) _⟩
      · go_enter Tryz.func16, Tryz.ntmps16
        go_wp2
        all_goals go_ret
        all_goals exact ⟨by simp [Sec.may, tagB_eq, gS, c2] <;> omega, (Below.refl _ w).alloc (Nat.le_refl _) _⟩
    · go_enter Tryz.func16, Tryz.ntmps16
      go_wp2
      all_goals go_ret
      all_goals exact ⟨by simp [Sec.may, tagB_eq, gS] <;> omega, (Below.refl _ w).alloc (Nat.le_refl _) _⟩
end Go.Proofs.YtinfhlepjmollaaGreatDoor
