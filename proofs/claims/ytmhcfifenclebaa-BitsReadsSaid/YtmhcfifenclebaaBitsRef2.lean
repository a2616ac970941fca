/- The reference's Bytes, Zeros, Num. -/
import Derived.Test.YtmhcfifenclebaaBitsRef
import Derived.Deep.RegionWith
namespace Go.Proofs.Ytmhcfifenclebaa
open Go.RowKit
theorem refReadNo {w : World} {q : Nat} {ao : Option Addr} {cap : Nat} {l : List (BitVec 8)} {k : Nat} {e : Int} (h : Rdf w q ao cap l k e) (hl : l.length ≤ 140737488351232) (n : Int) (hno : ¬ (e = 0 ∧ 0 ≤ n ∧ n ≤ (l.length : Int) - k)) :
   Calls Try.prog 36 #[.pointer (some ⟨q, 0, none⟩), .int .i64 n] w fun x w' => x = .returned (.slice none 0 0) ∧ Rdf w' q ao cap l k (failE l k e n) ∧ Only (fun j => j = q) w w' := by
  go_enter Try.func36, Try.ntmps36
  go_wp2_with fail
  refine (fitsNo h hl n hno).mono ?_
  rintro x w1 ⟨rfl, h1, h3⟩
  have H1 := Lib.hid h1
  clear h hno h1
  go_wp2
  go_ret
  exact ⟨rfl, H1.out, h3⟩
theorem refReadYes {w : World} {q : Nat} {ao : Option Addr} {cap : Nat} {l : List (BitVec 8)} {k : Nat} (h : Rdf w q ao cap l k 0) (hl : l.length ≤ 140737488351232) (n : Nat) (hn : k + n ≤ l.length) :
   Calls Try.prog 36 #[.pointer (some ⟨q, 0, none⟩), .int .i64 n] w fun x w' => ∃ ax cx, x = .returned (.slice ax n cx) ∧ Rd w' ax ((l.drop k).take n) ∧ Rdf w' q ao cap l (k + n) 0 ∧ Only (fun j => j = q) w w' := by
  have hml : ((l.drop k).take n).length = n := by simp; omega
  have hcc := h.cap
  go_enter Try.func36, Try.ntmps36
  go_wp2_with fail
  refine (fitsYes h hl n hn).mono ?_
  rintro x w1 ⟨rfl, hst⟩
  have h1 := h.still hst
  have ho1 := hst.only (S := fun j => j = q)
  have c0 := h1.c0
  have c1 := h1.c1
  have hrc := fun (w' : World) (hb : Below w1.heap.size w1 w') => (h1.rd.on hb).cut cap k n hn hcc
  obtain ⟨m, hm⟩ : ∃ m, (l.drop k).take n = m := ⟨_, rfl⟩
  rw [hm] at hml hrc
  have hw1 := wrapI64 ((k : Int) + (n : Int)) (by omega) (by omega)
  have hw2 : (k : Int) + (n : Int) ≤ (cap : Int) := by omega
  have hw3 : ((k : Int) + (n : Int)).toNat = k + n := by omega
  have hw0 : (0 : Int) ≤ (k : Int) + (n : Int) := by omega
  have hif := cutAt_def ao cap k
  obtain ⟨ac, hac⟩ : ∃ ac, cutAt ao cap k = ac := ⟨_, rfl⟩
  rw [hac] at hif hrc
  have HC := Lib.hid hrc
  have HM := Lib.hid hm
  have H1 := Lib.hid h1
  clear h hst hm h1 hrc hac
  go_wp2_with fail
  go_still_tail 15, (by kernel_rfl)
  change wpList _ _ _ _ _ w1.drew
  have H2 := Lib.hid (H1.out.still ((Still.refl w1).drewN 1))
  have HC2 := HC.out w1.drew (((Still.refl w1).drewN 1).below _)
  have ho2 := ho1.trans (((Still.refl w1).drewN 1).only)
  change Only _ w w1.drew at ho2
  have H2b : Hid (Rdf w1.drew q ao cap l k 0) := H2
  clear H2
  generalize w1.drew = w2 at *
  clear c0 c1 H1 ho1 HC
  go_wp2_with fail
  have HC3 := HC2
  refine (bytesOf' ac m n _ w2 hml (by omega) HC2).mono ?_
  rintro e w3 ⟨v, rfl, hown, hb⟩
  obtain ⟨_, ar, cr, rfl, hrr, hB, _, _, _⟩ := owns_rdn hown
  have h3 := H2b.out.below hb
  have ho3 := ho2.trans (Only.of_below (S := fun j => j = q) hb)
  have c1 := h3.c1
  have hf := h3.free 1
  have hqB : q < w2.heap.size := H2b.out.lt
  have HB := Lib.hid hB
  have HRR := Lib.hid hrr
  have H3 := Lib.hid h3
  clear hown hb HC2 HC3 H2b h3 ho2 hrr hB
  go_wp2
  go_ret
  have hwr : Only (fun j => j = q) w3 (w3.setCell ⟨q, 1, none⟩ (.int .i64 ((k : Int) + (n : Int)))) := Only.setCell _ _ _ _
  refine ⟨ar, cr, rfl, ?_, ?_, ho3.trans hwr⟩
  · rw [HM.out]
    exact HRR.out.only hwr (fun a x => by have := (HB.out a x).1; omega)
  · exact H3.out.setAt (k + n) hn
theorem refZerosNo {w : World} {q : Nat} {ao : Option Addr} {cap : Nat} {l : List (BitVec 8)} {k : Nat} {e : Int} (h : Rdf w q ao cap l k e) (hl : l.length ≤ 140737488351232) (n : Int) (hno : ¬ (e = 0 ∧ 0 ≤ n ∧ n ≤ (l.length : Int) - k)) :
   Calls Try.prog 37 #[.pointer (some ⟨q, 0, none⟩), .int .i64 n] w fun x w' => x = .returned (.tuple #[]) ∧ Rdf w' q ao cap l k (failE l k e n) ∧ Only (fun j => j = q) w w' := by
  go_enter Try.func37, Try.ntmps37
  go_wp2_with fail
  refine (fitsNo h hl n hno).mono ?_
  rintro x w1 ⟨rfl, h1, h3⟩
  have H1 := Lib.hid h1
  clear h hno h1
  go_wp2
  refine bodyPost_ret (results_none rfl _ _ _) rfl ?_
  exact ⟨rfl, H1.out, h3⟩
theorem refZerosYes {w : World} {q : Nat} {ao : Option Addr} {cap : Nat} {l : List (BitVec 8)} {k : Nat} (h : Rdf w q ao cap l k 0) (hl : l.length ≤ 140737488351232) (n : Nat) (hn : k + n ≤ l.length) :
   Calls Try.prog 37 #[.pointer (some ⟨q, 0, none⟩), .int .i64 n] w fun x w' => x = .returned (.tuple #[]) ∧ Rdf w' q ao cap l (zAt l k n) (zErr l k n) ∧ Only (fun j => j = q) w w' := by
  have hml : ((l.drop k).take n).length = n := by simp; omega
  go_enter Try.func37, Try.ntmps37
  go_wp2_with fail
  refine (fitsYes h hl n hn).mono ?_
  rintro x w1 ⟨rfl, hst⟩
  have h1 := h.still hst
  have ho1 := hst.only (S := fun j => j = q)
  obtain ⟨m, hm⟩ : ∃ m, (l.drop k).take n = m := ⟨_, rfl⟩
  have HZ : Hid (zAt l k n = k + zrs m ∧ zErr l k n = if zrs m = n then 0 else 11) := by show _ ∧ _; unfold zAt zErr; rw [hm]; exact ⟨rfl, rfl⟩
  have hgm : ∀ j, j < n → l.getD (k + j) 0#8 = m.getD j 0#8 := by
    intro j hj
    rw [← hm]
    simp [List.getD, hj]
  rw [hm] at hml
  have hrd := h1.rd
  have H1 := Lib.hid h1
  have HG := Lib.hid hgm
  clear h hst hm h1 hgm
  go_wp2_with fail
  go_loopw [5] (fun i wr => ∃ j : Nat, j ≤ n ∧ i = .int .i64 j ∧ (∀ i, i < j → m.getD i 0#8 = 0#8) ∧ Still w1 wr) (fun i _ => n - (intOf i).toNat)
  case atStart => exact ⟨0, Nat.zero_le _, rfl, fun i hi => by omega, Still.refl _⟩
  case round =>
    obtain ⟨j, hj, rfl, hz, hst⟩ := hrel
    have HJ := Lib.hid hz
    have h2 := H1.out.still hst
    have c0 := h2.c0
    have c1 := h2.c1
    have c2 := h2.c2
    have hf1 := h2.free 1
    have hf2 := h2.free 2
    have ho2 := ho1.trans (hst.only (S := fun j => j = q))
    clear hz
    by_cases hlt : j < n
    · obtain ⟨b, o, rfl, hc⟩ := h2.rd.at (by omega)
      have hcj := hc (k + j) (by omega)
      rw [HG.out j hlt] at hcj
      obtain ⟨y, hy⟩ : ∃ y, m.getD j 0#8 = y := ⟨_, rfl⟩
      rw [hy] at hcj
      have HY := Lib.hid hy
      have H2 := Lib.hid h2
      clear hc hrd hy h2
      by_cases hy0 : y = 0#8
      · subst hy0
        rw [← n8_zero] at hcj
        go_wp2_with fail
        go_quiet (fail)
        go_wp2
        go_roundw
        case rel =>
          refine ⟨j + 1, by omega, by go_num, fun i hi => ?_, hst.drewN _⟩
          rcases Nat.lt_succ_iff_lt_or_eq.1 hi with h | rfl
          · exact HJ.out i h
          · exact HY.out
        case measure => simp [intOf]; omega
      · have hne : (n8 y != 0) = true := by rw [n8_zero]; simpa using fun h => hy0 (n8_inj h)
        go_wp2_with fail
        go_quiet (fail)
        go_wp2
        refine bodyPost_ret (results_none rfl _ _ _) rfl ?_
        have hz : zrs m = j := zrs_at m j (by rw [hml]; omega) HJ.out (by rw [HY.out]; exact hy0)
        rw [HZ.out.1, HZ.out.2, hz, if_neg (by omega)]
        have hS := (Still.refl wr).drewN nq
        have ht := (hS.only (S := fun j => j = q)).trans ((Only.setCell (wr.drewN nq) q 2 (.int .i64 11)).trans (Only.setCell _ q 1 (.int .i64 ((k : Int) + (j : Int)))))
        refine ⟨rfl, ?_, ho2.trans ht⟩
        exact ((H2.out.still hS).setErr 11).setAt (k + j) (by omega)
    · obtain rfl : j = n := by omega
      have H2 := Lib.hid h2
      clear hrd h2
      go_wp2
      go_end0
      have hz : zrs m = j := by rw [zrs_all m (by rw [hml]; exact HJ.out), hml]
      rw [HZ.out.1, HZ.out.2, hz, if_pos rfl]
      exact ⟨rfl, H2.out.setAt (k + j) hn, ho2.trans (Only.setCell _ _ _ _)⟩
theorem numNo {w : World} {q : Nat} {ao : Option Addr} {cap : Nat} {l : List (BitVec 8)} {k : Nat} {e : Int} (h : Rdf w q ao cap l k e) (n : Nat) (hn : Wd n) (hno : ¬ (e = 0 ∧ k + n ≤ l.length)) :
   Calls Try.prog 35 #[.pointer (some ⟨q, 0, none⟩), .int .i64 n] w fun x w' => x = .returned (.int .u64 0) ∧ Rdf w' q ao cap l k (failE l k e n) ∧ Only (fun j => j = q) w w' := by
  have h0 := h.c0
  have h1 := h.c1
  have h2 := h.c2
  have hk := h.le
  have hf := h.free 2
  have H := Lib.hid h
  have hn8 : n ≤ 8 := by unfold Wd at hn; omega
  clear hn
  by_cases he : e = 0
  · subst he
    have hn2 : (l.length : Int) - k < n := by
      by_cases h3 : (l.length : Int) - k < n
      · exact h3
      · exact absurd ⟨rfl, by omega⟩ hno
    clear h hno
    go_enter Try.func35, Try.ntmps35
    go_wp2_with fail
    go_quiet (fail)
    go_wp2
    go_ret
    have : failE l k 0 n = 10 := by simp [failE, hn2]
    rw [this]
    exact ⟨rfl, (H.out.still ((Still.refl w).drewN _)).setErr 10, ((Still.refl w).drewN _).only.trans (Only.setCell _ _ _ _)⟩
  · have hne : (e != 0) = true := by simpa using he
    clear h hno hf
    go_enter Try.func35, Try.ntmps35
    go_wp2
    go_ret
    have : failE l k e n = e := by simp [failE, he]
    rw [this]
    exact ⟨rfl, H.out, Only.refl _ _⟩
theorem numYes {w : World} {q : Nat} {ao : Option Addr} {cap : Nat} {l : List (BitVec 8)} {k : Nat} (h : Rdf w q ao cap l k 0) (hl : l.length ≤ 140737488351232) (n : Nat) (hn : Wd n) (hfit : k + n ≤ l.length) :
   Calls Try.prog 35 #[.pointer (some ⟨q, 0, none⟩), .int .i64 n] w fun x w' => x = .returned (.int .u64 (n64 (val ((l.drop k).take n)))) ∧ Rdf w' q ao cap l (k + n) 0 ∧ Only (fun j => j = q) w w' := by
  have h0 := h.c0
  have h1 := h.c1
  have h2 := h.c2
  have hk := h.le
  have hn8 : 0 < n ∧ n ≤ 8 := by unfold Wd at hn; omega
  have hml : ((l.drop k).take n).length = n := by simp; omega
  obtain ⟨m, hm⟩ : ∃ m, (l.drop k).take n = m := ⟨_, rfl⟩
  have hgm : ∀ j, j < n → l.getD (k + j) 0#8 = m.getD j 0#8 := by
    intro j hj
    rw [← hm]
    simp [List.getD, hj]
  rw [hm] at hml
  obtain ⟨b, o, rfl, hc⟩ := h.rd.at (by omega)
  have HM := Lib.hid hm
  have HC := Lib.hid hc
  have HG := Lib.hid hgm
  have H := Lib.hid h
  clear h hn hm hgm hc
  go_enter Try.func35, Try.ntmps35
  go_wp2_with fail
  go_quiet (fail)
  go_wp2_with fail
  go_loopw [5, 6] (fun x i wr => ∃ j : Nat, j ≤ n ∧ i = .int .i64 j ∧ x = .int .u64 (n64 (val (m.take j))) ∧ Still w wr) (fun _ i _ => n - (intOf i).toNat)
  case atStart => exact ⟨0, Nat.zero_le _, rfl, by simp [val, n64_z], (Still.refl w).drewN _⟩
  case round =>
    obtain ⟨j, hj, rfl, rfl, hst⟩ := hrel
    clear h0 h1 h2
    have h3 := H.out.still hst
    have c0 := h3.c0
    have c1 := h3.c1
    have hf1 := h3.free 1
    by_cases hlt : j < n
    · have hcj := HC.out (k + j) (by omega)
      rw [HG.out j hlt] at hcj
      have hcj2 : wr.cell? ⟨b, o + (k + j), none⟩ = some (.int .u8 (n8 (m.getD j 0#8))) := by
        obtain ⟨nn, rfl⟩ := hst
        exact hcj
      have hv := val_step m j (by omega)
      obtain ⟨y, hy⟩ : ∃ y, m.getD j 0#8 = y := ⟨_, rfl⟩
      rw [hy] at hcj2 hv
      have HV := Lib.hid hv
      obtain ⟨a, ha⟩ : ∃ a, val (m.take j) = a := ⟨_, rfl⟩
      rw [ha] at HV ⊢
      clear hcj hy hv ha h3
      go_wp2_with fail
      go_quiet (fail)
      go_wp2
      go_roundw
      case rel => exact ⟨j + 1, by omega, by go_num, by rw [HV.out], hst.drewN _⟩
      case measure => simp [intOf]; omega
    · obtain rfl : j = n := by omega
      have hmt : m.take j = m := List.take_of_length_le (by omega)
      rw [hmt]
      obtain ⟨a, ha⟩ : ∃ a, val m = a := ⟨_, rfl⟩
      rw [ha]
      have HA := Lib.hid ha
      have H3 := Lib.hid h3
      clear ha hmt h3
      go_wp2
      go_ret
      exact ⟨by rw [HM.out, HA.out]; rfl, H3.out.setAt (k + j) hfit, (hst.only).trans (Only.setCell _ _ _ _)⟩
end Go.Proofs.Ytmhcfifenclebaa
