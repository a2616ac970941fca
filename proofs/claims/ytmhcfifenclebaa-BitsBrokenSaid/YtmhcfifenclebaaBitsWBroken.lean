/- The walk of BitsBroken. -/
import Derived.Test.YtmhcfifenclebaaBitsGP
import Derived.Test.YtmhcfifenclebaaBitsOps
import Derived.Test.YtmhcfifenclebaaBitsFirst
namespace Go.Proofs.Ytmhcfifenclebaa
open Go.RowKit
theorem failE_broken (l : List (BitVec 8)) (k : Nat) (e n : Int) (he : e ≠ 0) : failE l k e n = e := by simp [failE, he]
set_option maxHeartbeats 8000000 in
set_option maxRecDepth 100000 in
theorem lawBroken (ao : Option Addr) (l : List (BitVec 8)) (cap : Nat) (how : Int) (so : Option Addr) (s : List (Int × Int × Bool)) (scap : Nat) (w : World) (hr : Rd w ao l) (hs : Ro w so s) :
   Calls Try.prog 7 #[.slice ao l.length cap, .int .i64 how, .slice so s.length scap] w fun e w' => e = .returned (.bool true) ∧ Below w.heap.size w w' := by
  have h1 : -3 < how.tmod 3 := by have := Int.lt_tmod_of_pos how (b := 3) (by omega); omega
  have h2 : how.tmod 3 < 3 := Int.tmod_lt_of_pos how (by omega)
  have h3 : (how.tmod 3 + 3).tmod 3 = (how.tmod 3 + 3) % 3 := Int.tmod_eq_emod_of_nonneg (by omega)
  have h4 : (how.tmod 3 + 3) % 3 = 0 ∨ (how.tmod 3 + 3) % 3 = 1 ∨ (how.tmod 3 + 3) % 3 = 2 := by omega
  go_enter Try.func7, Try.ntmps7
  go_wp2_with fail
  refine (firstOf w).mono ?_
  rintro e w1 ⟨rfl, hb1⟩
  by_cases hlen : 65536 < l.length
  · clear hr h1 h2 h3 h4
    go_wp2
    go_ret
    exact ⟨rfl, hb1⟩
  have hr1 := hr.on hb1
  have HS := Lib.hid (fun (w' : World) (hb : Below w.heap.size w w') => hs.on hb)
  clear hs
  go_wp2_with fail
  refine (newReader ao l cap w1 (by omega) hr1).mono ?_
  rintro e w2 ⟨p, g, rfl, hp, hg, hR, hb⟩
  have hB2 := hb1.trans (hb.mono hb1.size)
  have hp0 : w.heap.size ≤ p := Nat.le_trans hb1.size hp
  clear hr hr1 hb hp hg hb1
  rcases h4 with h4 | h4 | h4
  · rw [h4] at h3
    go_wp2_with fail
    refine (readNo hR (by omega) ((l.length : Int) + 1) (fun h => by have := h.2.2; omega)).mono ?_
    rintro x w3 ⟨rfl, hR3, -, ho⟩
    rw [show failE l 0 0 ((l.length : Int) + 1) = 10 by simp [failE]; omega] at hR3
    have hB3 := hB2.trans (ho.below (fun _ h => by omega) hB2.size)
    clear ho hR hB2
    go_wp2_with fail
    go_loopw [7, 10] (fun v i wr => ∃ j : Nat, j ≤ 60 ∧ v = .bool true ∧ i = .int .i64 j ∧ Rdr wr p g l 0 10 ∧ Below w.heap.size w wr) (fun _ i _ => 60 - (intOf i).toNat)
    case atStart => exact ⟨0, by omega, rfl, rfl, hR3, hB3⟩
    case round =>
      obtain ⟨j, hj, rfl, rfl, hRr, hBr⟩ := hrel
      clear hR3 hB3
      by_cases hlt : j < s.length
      · by_cases hlt2 : j < 60
        · have hx0 := HS.out wr hBr
          rcases hx0 with rfl | ⟨b, o, rfl, hc⟩
          · simp at hlt
          obtain ⟨c0, c1, c2⟩ := hc j hlt
          obtain ⟨kk, hkk⟩ : ∃ kk, (s.getD j (0, 0, false)).1 = kk := ⟨_, rfl⟩
          obtain ⟨nn, hnn⟩ : ∃ nn, (s.getD j (0, 0, false)).2.1 = nn := ⟨_, rfl⟩
          obtain ⟨ss, hss⟩ : ∃ ss, (s.getD j (0, 0, false)).2.2 = ss := ⟨_, rfl⟩
          rw [hkk] at c0
          rw [hnn] at c1
          rw [hss] at c2
          clear hc hkk hnn hss
          by_cases h5 : kk = 5
          · subst h5
            go_wp2_with fail
            refine (readNo (hRr.below ((Below.refl _ wr).alloc (Nat.le_refl _) _)) (by omega) nn (fun h => absurd h.1 (by decide))).mono ?_
            rintro x w4 ⟨rfl, hRx, -, ho⟩
            rw [failE_broken _ _ _ _ (by decide)] at hRx
            clear c0 c1 c2
            have hBx := (hBr.alloc hBr.size _).trans (ho.below (fun _ h => by omega) (hBr.alloc hBr.size _).size)
            clear ho hRr hBr
            go_wp2_with fail
            refine (readerErr hRx).mono ?_
            rintro e w5 ⟨rfl, hst⟩
            have hR5 := hRx.still hst
            have hB5 := hBx.trans ((hst.below _).mono hBx.size)
            clear hRx hBx hst
            go_wp2_with fail
            refine (numOf 10 w5).mono ?_
            rintro e w6 ⟨rfl, rfl⟩
            go_wp2_with fail
            refine (readerLeft hR5 (by omega)).mono ?_
            rintro e w7 ⟨rfl, hst⟩
            rw [if_neg (by decide)]
            have hR7 := hR5.still hst
            have hB7 := hB5.trans ((hst.below _).mono hB5.size)
            clear hR5 hB5 hst
            go_wp2
            go_roundw
            case rel => exact ⟨j + 1, by omega, rfl, by go_num, hR7, hB7⟩
            case measure => simp [intOf]; omega
          · have hk5 : (kk == 5) = false := by rw [beq_eq_false_iff_ne]; exact h5
            by_cases h6 : kk = 6
            · subst h6
              go_wp2_with fail
              refine (zerosNo (hRr.below ((Below.refl _ wr).alloc (Nat.le_refl _) _)) (by omega) nn (fun h => absurd h.1 (by decide))).mono ?_
              rintro x w4 ⟨rfl, hRx, -, ho⟩
              rw [failE_broken _ _ _ _ (by decide)] at hRx
              clear c0 c1 c2 hk5
              have hBx := (hBr.alloc hBr.size _).trans (ho.below (fun _ h => by omega) (hBr.alloc hBr.size _).size)
              clear ho hRr hBr
              go_wp2_with fail
              refine (readerErr hRx).mono ?_
              rintro e w5 ⟨rfl, hst⟩
              have hR5 := hRx.still hst
              have hB5 := hBx.trans ((hst.below _).mono hBx.size)
              clear hRx hBx hst
              go_wp2_with fail
              refine (numOf 10 w5).mono ?_
              rintro e w6 ⟨rfl, rfl⟩
              go_wp2_with fail
              refine (readerLeft hR5 (by omega)).mono ?_
              rintro e w7 ⟨rfl, hst⟩
              rw [if_neg (by decide)]
              have hR7 := hR5.still hst
              have hB7 := hB5.trans ((hst.below _).mono hB5.size)
              clear hR5 hB5 hst
              go_wp2
              go_roundw
              case rel => exact ⟨j + 1, by omega, rfl, by go_num, hR7, hB7⟩
              case measure => simp [intOf]; omega
            · have hk6 : (kk == 6) = false := by rw [beq_eq_false_iff_ne]; exact h6
              go_wp2_with fail
              refine (wideOf kk _).mono ?_
              rintro x w3b ⟨n, hn, rfl, rfl⟩
              go_wp2_with fail
              refine (getNo (hRr.below ((Below.refl _ wr).alloc (Nat.le_refl _) _)) (by omega) n hn (fun h => absurd h.1 (by decide))).mono ?_
              rintro x w4 ⟨rfl, hRx, -, ho⟩
              rw [failE_broken _ _ _ _ (by decide)] at hRx
              clear c0 c1 c2 hk5 hk6
              have hBx := (hBr.alloc hBr.size _).trans (ho.below (fun _ h => by omega) (hBr.alloc hBr.size _).size)
              clear ho hRr hBr
              go_wp2_with fail
              refine (readerErr hRx).mono ?_
              rintro e w5 ⟨rfl, hst⟩
              have hR5 := hRx.still hst
              have hB5 := hBx.trans ((hst.below _).mono hBx.size)
              clear hRx hBx hst
              go_wp2_with fail
              refine (numOf 10 w5).mono ?_
              rintro e w6 ⟨rfl, rfl⟩
              go_wp2_with fail
              refine (readerLeft hR5 (by omega)).mono ?_
              rintro e w7 ⟨rfl, hst⟩
              rw [if_neg (by decide)]
              have hR7 := hR5.still hst
              have hB7 := hB5.trans ((hst.below _).mono hB5.size)
              clear hR5 hB5 hst
              go_wp2
              go_roundw
              case rel => exact ⟨j + 1, by omega, rfl, by go_num, hR7, hB7⟩
              case measure => simp [intOf]; omega
        · go_wp2_with fail
          refine (readerErr hRr).mono ?_
          rintro e w5 ⟨rfl, hst⟩
          have hR5 := hRr.still hst
          have hB5 := hBr.trans ((hst.below _).mono hBr.size)
          clear hRr hBr hst
          go_wp2_with fail
          refine (numOf 10 w5).mono ?_
          rintro e w6 ⟨rfl, rfl⟩
          go_wp2_with fail
          refine (readerLeft hR5 (by omega)).mono ?_
          rintro e w7 ⟨rfl, hst⟩
          rw [if_neg (by decide)]
          have hB7 := hB5.trans ((hst.below _).mono hB5.size)
          clear hR5 hB5 hst
          go_wp2
          go_ret
          exact ⟨rfl, hB7⟩
      · go_wp2_with fail
        refine (readerErr hRr).mono ?_
        rintro e w5 ⟨rfl, hst⟩
        have hR5 := hRr.still hst
        have hB5 := hBr.trans ((hst.below _).mono hBr.size)
        clear hRr hBr hst
        go_wp2_with fail
        refine (numOf 10 w5).mono ?_
        rintro e w6 ⟨rfl, rfl⟩
        go_wp2_with fail
        refine (readerLeft hR5 (by omega)).mono ?_
        rintro e w7 ⟨rfl, hst⟩
        rw [if_neg (by decide)]
        have hB7 := hB5.trans ((hst.below _).mono hB5.size)
        clear hR5 hB5 hst
        go_wp2
        go_ret
        exact ⟨rfl, hB7⟩
  · rw [h4] at h3
    go_wp2_with fail
    refine (readNo hR (by omega) (-1) (fun h => by have := h.2.1; omega)).mono ?_
    rintro x w3 ⟨rfl, hR3, -, ho⟩
    rw [show failE l 0 0 (-1) = 11 by simp [failE]] at hR3
    have hB3 := hB2.trans (ho.below (fun _ h => by omega) hB2.size)
    clear ho hR hB2
    go_wp2_with fail
    go_loopw [7, 10] (fun v i wr => ∃ j : Nat, j ≤ 60 ∧ v = .bool true ∧ i = .int .i64 j ∧ Rdr wr p g l 0 11 ∧ Below w.heap.size w wr) (fun _ i _ => 60 - (intOf i).toNat)
    case atStart => exact ⟨0, by omega, rfl, rfl, hR3, hB3⟩
    case round =>
      obtain ⟨j, hj, rfl, rfl, hRr, hBr⟩ := hrel
      clear hR3 hB3
      by_cases hlt : j < s.length
      · by_cases hlt2 : j < 60
        · have hx0 := HS.out wr hBr
          rcases hx0 with rfl | ⟨b, o, rfl, hc⟩
          · simp at hlt
          obtain ⟨c0, c1, c2⟩ := hc j hlt
          obtain ⟨kk, hkk⟩ : ∃ kk, (s.getD j (0, 0, false)).1 = kk := ⟨_, rfl⟩
          obtain ⟨nn, hnn⟩ : ∃ nn, (s.getD j (0, 0, false)).2.1 = nn := ⟨_, rfl⟩
          obtain ⟨ss, hss⟩ : ∃ ss, (s.getD j (0, 0, false)).2.2 = ss := ⟨_, rfl⟩
          rw [hkk] at c0
          rw [hnn] at c1
          rw [hss] at c2
          clear hc hkk hnn hss
          by_cases h5 : kk = 5
          · subst h5
            go_wp2_with fail
            refine (readNo (hRr.below ((Below.refl _ wr).alloc (Nat.le_refl _) _)) (by omega) nn (fun h => absurd h.1 (by decide))).mono ?_
            rintro x w4 ⟨rfl, hRx, -, ho⟩
            rw [failE_broken _ _ _ _ (by decide)] at hRx
            clear c0 c1 c2
            have hBx := (hBr.alloc hBr.size _).trans (ho.below (fun _ h => by omega) (hBr.alloc hBr.size _).size)
            clear ho hRr hBr
            go_wp2_with fail
            refine (readerErr hRx).mono ?_
            rintro e w5 ⟨rfl, hst⟩
            have hR5 := hRx.still hst
            have hB5 := hBx.trans ((hst.below _).mono hBx.size)
            clear hRx hBx hst
            go_wp2_with fail
            refine (numOf 11 w5).mono ?_
            rintro e w6 ⟨rfl, rfl⟩
            go_wp2_with fail
            refine (readerLeft hR5 (by omega)).mono ?_
            rintro e w7 ⟨rfl, hst⟩
            rw [if_neg (by decide)]
            have hR7 := hR5.still hst
            have hB7 := hB5.trans ((hst.below _).mono hB5.size)
            clear hR5 hB5 hst
            go_wp2
            go_roundw
            case rel => exact ⟨j + 1, by omega, rfl, by go_num, hR7, hB7⟩
            case measure => simp [intOf]; omega
          · have hk5 : (kk == 5) = false := by rw [beq_eq_false_iff_ne]; exact h5
            by_cases h6 : kk = 6
            · subst h6
              go_wp2_with fail
              refine (zerosNo (hRr.below ((Below.refl _ wr).alloc (Nat.le_refl _) _)) (by omega) nn (fun h => absurd h.1 (by decide))).mono ?_
              rintro x w4 ⟨rfl, hRx, -, ho⟩
              rw [failE_broken _ _ _ _ (by decide)] at hRx
              clear c0 c1 c2 hk5
              have hBx := (hBr.alloc hBr.size _).trans (ho.below (fun _ h => by omega) (hBr.alloc hBr.size _).size)
              clear ho hRr hBr
              go_wp2_with fail
              refine (readerErr hRx).mono ?_
              rintro e w5 ⟨rfl, hst⟩
              have hR5 := hRx.still hst
              have hB5 := hBx.trans ((hst.below _).mono hBx.size)
              clear hRx hBx hst
              go_wp2_with fail
              refine (numOf 11 w5).mono ?_
              rintro e w6 ⟨rfl, rfl⟩
              go_wp2_with fail
              refine (readerLeft hR5 (by omega)).mono ?_
              rintro e w7 ⟨rfl, hst⟩
              rw [if_neg (by decide)]
              have hR7 := hR5.still hst
              have hB7 := hB5.trans ((hst.below _).mono hB5.size)
              clear hR5 hB5 hst
              go_wp2
              go_roundw
              case rel => exact ⟨j + 1, by omega, rfl, by go_num, hR7, hB7⟩
              case measure => simp [intOf]; omega
            · have hk6 : (kk == 6) = false := by rw [beq_eq_false_iff_ne]; exact h6
              go_wp2_with fail
              refine (wideOf kk _).mono ?_
              rintro x w3b ⟨n, hn, rfl, rfl⟩
              go_wp2_with fail
              refine (getNo (hRr.below ((Below.refl _ wr).alloc (Nat.le_refl _) _)) (by omega) n hn (fun h => absurd h.1 (by decide))).mono ?_
              rintro x w4 ⟨rfl, hRx, -, ho⟩
              rw [failE_broken _ _ _ _ (by decide)] at hRx
              clear c0 c1 c2 hk5 hk6
              have hBx := (hBr.alloc hBr.size _).trans (ho.below (fun _ h => by omega) (hBr.alloc hBr.size _).size)
              clear ho hRr hBr
              go_wp2_with fail
              refine (readerErr hRx).mono ?_
              rintro e w5 ⟨rfl, hst⟩
              have hR5 := hRx.still hst
              have hB5 := hBx.trans ((hst.below _).mono hBx.size)
              clear hRx hBx hst
              go_wp2_with fail
              refine (numOf 11 w5).mono ?_
              rintro e w6 ⟨rfl, rfl⟩
              go_wp2_with fail
              refine (readerLeft hR5 (by omega)).mono ?_
              rintro e w7 ⟨rfl, hst⟩
              rw [if_neg (by decide)]
              have hR7 := hR5.still hst
              have hB7 := hB5.trans ((hst.below _).mono hB5.size)
              clear hR5 hB5 hst
              go_wp2
              go_roundw
              case rel => exact ⟨j + 1, by omega, rfl, by go_num, hR7, hB7⟩
              case measure => simp [intOf]; omega
        · go_wp2_with fail
          refine (readerErr hRr).mono ?_
          rintro e w5 ⟨rfl, hst⟩
          have hR5 := hRr.still hst
          have hB5 := hBr.trans ((hst.below _).mono hBr.size)
          clear hRr hBr hst
          go_wp2_with fail
          refine (numOf 11 w5).mono ?_
          rintro e w6 ⟨rfl, rfl⟩
          go_wp2_with fail
          refine (readerLeft hR5 (by omega)).mono ?_
          rintro e w7 ⟨rfl, hst⟩
          rw [if_neg (by decide)]
          have hB7 := hB5.trans ((hst.below _).mono hB5.size)
          clear hR5 hB5 hst
          go_wp2
          go_ret
          exact ⟨rfl, hB7⟩
      · go_wp2_with fail
        refine (readerErr hRr).mono ?_
        rintro e w5 ⟨rfl, hst⟩
        have hR5 := hRr.still hst
        have hB5 := hBr.trans ((hst.below _).mono hBr.size)
        clear hRr hBr hst
        go_wp2_with fail
        refine (numOf 11 w5).mono ?_
        rintro e w6 ⟨rfl, rfl⟩
        go_wp2_with fail
        refine (readerLeft hR5 (by omega)).mono ?_
        rintro e w7 ⟨rfl, hst⟩
        rw [if_neg (by decide)]
        have hB7 := hB5.trans ((hst.below _).mono hB5.size)
        clear hR5 hB5 hst
        go_wp2
        go_ret
        exact ⟨rfl, hB7⟩
  · rw [h4] at h3
    go_wp2_with fail
    refine (zerosNo hR (by omega) 9223372036854775807 (fun h => by have := h.2.2; omega)).mono ?_
    rintro x w3 ⟨rfl, hR3, -, ho⟩
    rw [show failE l 0 0 9223372036854775807 = 10 by simp [failE]; omega] at hR3
    have hB3 := hB2.trans (ho.below (fun _ h => by omega) hB2.size)
    clear ho hR hB2
    go_wp2_with fail
    go_loopw [7, 10] (fun v i wr => ∃ j : Nat, j ≤ 60 ∧ v = .bool true ∧ i = .int .i64 j ∧ Rdr wr p g l 0 10 ∧ Below w.heap.size w wr) (fun _ i _ => 60 - (intOf i).toNat)
    case atStart => exact ⟨0, by omega, rfl, rfl, hR3, hB3⟩
    case round =>
      obtain ⟨j, hj, rfl, rfl, hRr, hBr⟩ := hrel
      clear hR3 hB3
      by_cases hlt : j < s.length
      · by_cases hlt2 : j < 60
        · have hx0 := HS.out wr hBr
          rcases hx0 with rfl | ⟨b, o, rfl, hc⟩
          · simp at hlt
          obtain ⟨c0, c1, c2⟩ := hc j hlt
          obtain ⟨kk, hkk⟩ : ∃ kk, (s.getD j (0, 0, false)).1 = kk := ⟨_, rfl⟩
          obtain ⟨nn, hnn⟩ : ∃ nn, (s.getD j (0, 0, false)).2.1 = nn := ⟨_, rfl⟩
          obtain ⟨ss, hss⟩ : ∃ ss, (s.getD j (0, 0, false)).2.2 = ss := ⟨_, rfl⟩
          rw [hkk] at c0
          rw [hnn] at c1
          rw [hss] at c2
          clear hc hkk hnn hss
          by_cases h5 : kk = 5
          · subst h5
            go_wp2_with fail
            refine (readNo (hRr.below ((Below.refl _ wr).alloc (Nat.le_refl _) _)) (by omega) nn (fun h => absurd h.1 (by decide))).mono ?_
            rintro x w4 ⟨rfl, hRx, -, ho⟩
            rw [failE_broken _ _ _ _ (by decide)] at hRx
            clear c0 c1 c2
            have hBx := (hBr.alloc hBr.size _).trans (ho.below (fun _ h => by omega) (hBr.alloc hBr.size _).size)
            clear ho hRr hBr
            go_wp2_with fail
            refine (readerErr hRx).mono ?_
            rintro e w5 ⟨rfl, hst⟩
            have hR5 := hRx.still hst
            have hB5 := hBx.trans ((hst.below _).mono hBx.size)
            clear hRx hBx hst
            go_wp2_with fail
            refine (numOf 10 w5).mono ?_
            rintro e w6 ⟨rfl, rfl⟩
            go_wp2_with fail
            refine (readerLeft hR5 (by omega)).mono ?_
            rintro e w7 ⟨rfl, hst⟩
            rw [if_neg (by decide)]
            have hR7 := hR5.still hst
            have hB7 := hB5.trans ((hst.below _).mono hB5.size)
            clear hR5 hB5 hst
            go_wp2
            go_roundw
            case rel => exact ⟨j + 1, by omega, rfl, by go_num, hR7, hB7⟩
            case measure => simp [intOf]; omega
          · have hk5 : (kk == 5) = false := by rw [beq_eq_false_iff_ne]; exact h5
            by_cases h6 : kk = 6
            · subst h6
              go_wp2_with fail
              refine (zerosNo (hRr.below ((Below.refl _ wr).alloc (Nat.le_refl _) _)) (by omega) nn (fun h => absurd h.1 (by decide))).mono ?_
              rintro x w4 ⟨rfl, hRx, -, ho⟩
              rw [failE_broken _ _ _ _ (by decide)] at hRx
              clear c0 c1 c2 hk5
              have hBx := (hBr.alloc hBr.size _).trans (ho.below (fun _ h => by omega) (hBr.alloc hBr.size _).size)
              clear ho hRr hBr
              go_wp2_with fail
              refine (readerErr hRx).mono ?_
              rintro e w5 ⟨rfl, hst⟩
              have hR5 := hRx.still hst
              have hB5 := hBx.trans ((hst.below _).mono hBx.size)
              clear hRx hBx hst
              go_wp2_with fail
              refine (numOf 10 w5).mono ?_
              rintro e w6 ⟨rfl, rfl⟩
              go_wp2_with fail
              refine (readerLeft hR5 (by omega)).mono ?_
              rintro e w7 ⟨rfl, hst⟩
              rw [if_neg (by decide)]
              have hR7 := hR5.still hst
              have hB7 := hB5.trans ((hst.below _).mono hB5.size)
              clear hR5 hB5 hst
              go_wp2
              go_roundw
              case rel => exact ⟨j + 1, by omega, rfl, by go_num, hR7, hB7⟩
              case measure => simp [intOf]; omega
            · have hk6 : (kk == 6) = false := by rw [beq_eq_false_iff_ne]; exact h6
              go_wp2_with fail
              refine (wideOf kk _).mono ?_
              rintro x w3b ⟨n, hn, rfl, rfl⟩
              go_wp2_with fail
              refine (getNo (hRr.below ((Below.refl _ wr).alloc (Nat.le_refl _) _)) (by omega) n hn (fun h => absurd h.1 (by decide))).mono ?_
              rintro x w4 ⟨rfl, hRx, -, ho⟩
              rw [failE_broken _ _ _ _ (by decide)] at hRx
              clear c0 c1 c2 hk5 hk6
              have hBx := (hBr.alloc hBr.size _).trans (ho.below (fun _ h => by omega) (hBr.alloc hBr.size _).size)
              clear ho hRr hBr
              go_wp2_with fail
              refine (readerErr hRx).mono ?_
              rintro e w5 ⟨rfl, hst⟩
              have hR5 := hRx.still hst
              have hB5 := hBx.trans ((hst.below _).mono hBx.size)
              clear hRx hBx hst
              go_wp2_with fail
              refine (numOf 10 w5).mono ?_
              rintro e w6 ⟨rfl, rfl⟩
              go_wp2_with fail
              refine (readerLeft hR5 (by omega)).mono ?_
              rintro e w7 ⟨rfl, hst⟩
              rw [if_neg (by decide)]
              have hR7 := hR5.still hst
              have hB7 := hB5.trans ((hst.below _).mono hB5.size)
              clear hR5 hB5 hst
              go_wp2
              go_roundw
              case rel => exact ⟨j + 1, by omega, rfl, by go_num, hR7, hB7⟩
              case measure => simp [intOf]; omega
        · go_wp2_with fail
          refine (readerErr hRr).mono ?_
          rintro e w5 ⟨rfl, hst⟩
          have hR5 := hRr.still hst
          have hB5 := hBr.trans ((hst.below _).mono hBr.size)
          clear hRr hBr hst
          go_wp2_with fail
          refine (numOf 10 w5).mono ?_
          rintro e w6 ⟨rfl, rfl⟩
          go_wp2_with fail
          refine (readerLeft hR5 (by omega)).mono ?_
          rintro e w7 ⟨rfl, hst⟩
          rw [if_neg (by decide)]
          have hB7 := hB5.trans ((hst.below _).mono hB5.size)
          clear hR5 hB5 hst
          go_wp2
          go_ret
          exact ⟨rfl, hB7⟩
      · go_wp2_with fail
        refine (readerErr hRr).mono ?_
        rintro e w5 ⟨rfl, hst⟩
        have hR5 := hRr.still hst
        have hB5 := hBr.trans ((hst.below _).mono hBr.size)
        clear hRr hBr hst
        go_wp2_with fail
        refine (numOf 10 w5).mono ?_
        rintro e w6 ⟨rfl, rfl⟩
        go_wp2_with fail
        refine (readerLeft hR5 (by omega)).mono ?_
        rintro e w7 ⟨rfl, hst⟩
        rw [if_neg (by decide)]
        have hB7 := hB5.trans ((hst.below _).mono hB5.size)
        clear hR5 hB5 hst
        go_wp2
        go_ret
        exact ⟨rfl, hB7⟩
end Go.Proofs.Ytmhcfifenclebaa
