/- bits.Get of each type. -/
import Derived.Test.YtmhcfifenclebaaBitsW
import Derived.Test.YtmhcfifenclebaaBitsRd2
namespace Go.Proofs.Ytmhcfifenclebaa
open Go.RowKit
theorem val_step (m : List (BitVec 8)) (j : Nat) (hj : j < m.length) : val (m.take (j + 1)) = (val (m.take j) <<< 8) ||| (m.getD j 0#8).setWidth 64 := by
  rw [List.take_succ_eq_append_getElem hj, val_snoc]
  simp [List.getD, hj]
theorem n8_z : n8 0#8 = 0 := by unfold n8; rfl
theorem n16_z : n16 0#16 = 0 := by unfold n16; rfl
theorem n32_z : n32 0#32 = 0 := by unfold n32; rfl
theorem n64_z : n64 0#64 = 0 := by unfold n64; rfl
theorem getNo8 {w : World} {p g : Nat} {l : List (BitVec 8)} {k : Nat} {e : Int} (h : Rdr w p g l k e) (hl : l.length ≤ 140737488351232) (hno : ¬ (e = 0 ∧ k + 1 ≤ l.length)) :
   Calls Try.prog 32 #[.pointer (some ⟨p, 0, none⟩)] w fun x w' => x = .returned (.int .u8 0) ∧ Rdr w' p g l k (failE l k e 1) ∧ failE l k e 1 ≠ 0 ∧ Only (fun j => j = p) w w' := by
  go_enter Try.func32, Try.ntmps32
  go_wp2_with fail
  refine (width8 w).mono ?_
  rintro e w1 ⟨rfl, rfl⟩
  go_wp2_with fail
  refine (takeNo h hl 1 (fun ⟨h1, _, h2⟩ => hno ⟨h1, by have := h.le; omega⟩)).mono ?_
  rintro x w2 ⟨rfl, h1, h2, h3⟩
  have H1 := Lib.hid h1
  have H2 := Lib.hid h2
  clear h hno h1 h2
  go_wp2
  go_ret
  exact ⟨rfl, H1.out, H2.out, h3⟩
theorem getYes8 {w : World} {p g : Nat} {l : List (BitVec 8)} {k : Nat} (h : Rdr w p g l k 0) (hl : l.length ≤ 140737488351232) (hn : k + 1 ≤ l.length) :
   Calls Try.prog 32 #[.pointer (some ⟨p, 0, none⟩)] w fun x w' => x = .returned (.int .u8 (n8 ((val ((l.drop k).take 1)).setWidth 8))) ∧ Rdr w' p g l (k + 1) 0 ∧ Only (fun j => j = p) w w' := by
  have hrd := h.rd 1
  have hgp := h.ne
  have hml : ((l.drop k).take 1).length = 1 := by simp; omega
  go_enter Try.func32, Try.ntmps32
  go_wp2_with fail
  refine (width8 w).mono ?_
  rintro e w0 ⟨rfl, rfl⟩
  go_wp2_with fail
  refine (takeYes h hl 1 hn).mono ?_
  rintro x w1 ⟨ao, rfl, h0, h1, h3⟩
  have hr1 : Rd w1 ao ((l.drop k).take 1) := by
    rw [h0 (by omega)]; exact hrd.only h3 (fun a ha => by cases ha; exact Ne.symm hgp)
  obtain ⟨m, hm⟩ : ∃ m, (l.drop k).take 1 = m := ⟨_, rfl⟩
  rw [hm] at hr1 hml
  have HM := Lib.hid hm
  have H1 := Lib.hid h1
  clear h h1 h0 hrd hm
  obtain ⟨b, o, rfl, hc⟩ := hr1.at (by omega)
  clear hr1
  go_wp2_with fail
  go_loop [5, 18] (fun x i => ∃ j : Nat, j ≤ 1 ∧ i = .int .i64 j ∧ x = .int .u64 (n64 (val (m.take j)))) (fun _ i => 1 - (intOf i).toNat)
  case atStart => exact ⟨0, Nat.zero_le _, rfl, by simp [val, n64_z]⟩
  case round =>
    obtain ⟨j, hj, rfl, rfl⟩ := hrel
    by_cases hlt : j < 1
    · have hcj := hc j (by omega)
      have hv := val_step m j (by omega)
      obtain ⟨y, hy⟩ : ∃ y, m.getD j 0#8 = y := ⟨_, rfl⟩
      rw [hy] at hcj hv
      have HV := Lib.hid hv
      obtain ⟨a, ha⟩ : ∃ a, val (m.take j) = a := ⟨_, rfl⟩
      rw [ha] at HV ⊢
      clear hc hy hv ha
      go_wp2
      go_round
      case rel => exact ⟨j + 1, by omega, by go_num, by rw [HV.out]⟩
      case measure => simp [intOf]; omega
    · obtain rfl : j = 1 := by omega
      have hmt : m.take 1 = m := List.take_of_length_le (by omega)
      rw [hmt]
      obtain ⟨a, ha⟩ : ∃ a, val m = a := ⟨_, rfl⟩
      rw [ha]
      have HA := Lib.hid ha
      clear hc ha hmt
      go_wp2
      go_ret
      exact ⟨by rw [HM.out, HA.out]; rfl, H1.out, h3⟩
theorem getNo16 {w : World} {p g : Nat} {l : List (BitVec 8)} {k : Nat} {e : Int} (h : Rdr w p g l k e) (hl : l.length ≤ 140737488351232) (hno : ¬ (e = 0 ∧ k + 2 ≤ l.length)) :
   Calls Try.prog 25 #[.pointer (some ⟨p, 0, none⟩)] w fun x w' => x = .returned (.int .u16 0) ∧ Rdr w' p g l k (failE l k e 2) ∧ failE l k e 2 ≠ 0 ∧ Only (fun j => j = p) w w' := by
  go_enter Try.func25, Try.ntmps25
  go_wp2_with fail
  refine (width16 w).mono ?_
  rintro e w1 ⟨rfl, rfl⟩
  go_wp2_with fail
  refine (takeNo h hl 2 (fun ⟨h1, _, h2⟩ => hno ⟨h1, by have := h.le; omega⟩)).mono ?_
  rintro x w2 ⟨rfl, h1, h2, h3⟩
  have H1 := Lib.hid h1
  have H2 := Lib.hid h2
  clear h hno h1 h2
  go_wp2
  go_ret
  exact ⟨rfl, H1.out, H2.out, h3⟩
theorem getYes16 {w : World} {p g : Nat} {l : List (BitVec 8)} {k : Nat} (h : Rdr w p g l k 0) (hl : l.length ≤ 140737488351232) (hn : k + 2 ≤ l.length) :
   Calls Try.prog 25 #[.pointer (some ⟨p, 0, none⟩)] w fun x w' => x = .returned (.int .u16 (n16 ((val ((l.drop k).take 2)).setWidth 16))) ∧ Rdr w' p g l (k + 2) 0 ∧ Only (fun j => j = p) w w' := by
  have hrd := h.rd 2
  have hgp := h.ne
  have hml : ((l.drop k).take 2).length = 2 := by simp; omega
  go_enter Try.func25, Try.ntmps25
  go_wp2_with fail
  refine (width16 w).mono ?_
  rintro e w0 ⟨rfl, rfl⟩
  go_wp2_with fail
  refine (takeYes h hl 2 hn).mono ?_
  rintro x w1 ⟨ao, rfl, h0, h1, h3⟩
  have hr1 : Rd w1 ao ((l.drop k).take 2) := by
    rw [h0 (by omega)]; exact hrd.only h3 (fun a ha => by cases ha; exact Ne.symm hgp)
  obtain ⟨m, hm⟩ : ∃ m, (l.drop k).take 2 = m := ⟨_, rfl⟩
  rw [hm] at hr1 hml
  have HM := Lib.hid hm
  have H1 := Lib.hid h1
  clear h h1 h0 hrd hm
  obtain ⟨b, o, rfl, hc⟩ := hr1.at (by omega)
  clear hr1
  go_wp2_with fail
  go_loop [5, 18] (fun x i => ∃ j : Nat, j ≤ 2 ∧ i = .int .i64 j ∧ x = .int .u64 (n64 (val (m.take j)))) (fun _ i => 2 - (intOf i).toNat)
  case atStart => exact ⟨0, Nat.zero_le _, rfl, by simp [val, n64_z]⟩
  case round =>
    obtain ⟨j, hj, rfl, rfl⟩ := hrel
    by_cases hlt : j < 2
    · have hcj := hc j (by omega)
      have hv := val_step m j (by omega)
      obtain ⟨y, hy⟩ : ∃ y, m.getD j 0#8 = y := ⟨_, rfl⟩
      rw [hy] at hcj hv
      have HV := Lib.hid hv
      obtain ⟨a, ha⟩ : ∃ a, val (m.take j) = a := ⟨_, rfl⟩
      rw [ha] at HV ⊢
      clear hc hy hv ha
      go_wp2
      go_round
      case rel => exact ⟨j + 1, by omega, by go_num, by rw [HV.out]⟩
      case measure => simp [intOf]; omega
    · obtain rfl : j = 2 := by omega
      have hmt : m.take 2 = m := List.take_of_length_le (by omega)
      rw [hmt]
      obtain ⟨a, ha⟩ : ∃ a, val m = a := ⟨_, rfl⟩
      rw [ha]
      have HA := Lib.hid ha
      clear hc ha hmt
      go_wp2
      go_ret
      exact ⟨by rw [HM.out, HA.out]; rfl, H1.out, h3⟩
theorem getNo32 {w : World} {p g : Nat} {l : List (BitVec 8)} {k : Nat} {e : Int} (h : Rdr w p g l k e) (hl : l.length ≤ 140737488351232) (hno : ¬ (e = 0 ∧ k + 4 ≤ l.length)) :
   Calls Try.prog 33 #[.pointer (some ⟨p, 0, none⟩)] w fun x w' => x = .returned (.int .u32 0) ∧ Rdr w' p g l k (failE l k e 4) ∧ failE l k e 4 ≠ 0 ∧ Only (fun j => j = p) w w' := by
  go_enter Try.func33, Try.ntmps33
  go_wp2_with fail
  refine (width32 w).mono ?_
  rintro e w1 ⟨rfl, rfl⟩
  go_wp2_with fail
  refine (takeNo h hl 4 (fun ⟨h1, _, h2⟩ => hno ⟨h1, by have := h.le; omega⟩)).mono ?_
  rintro x w2 ⟨rfl, h1, h2, h3⟩
  have H1 := Lib.hid h1
  have H2 := Lib.hid h2
  clear h hno h1 h2
  go_wp2
  go_ret
  exact ⟨rfl, H1.out, H2.out, h3⟩
theorem getYes32 {w : World} {p g : Nat} {l : List (BitVec 8)} {k : Nat} (h : Rdr w p g l k 0) (hl : l.length ≤ 140737488351232) (hn : k + 4 ≤ l.length) :
   Calls Try.prog 33 #[.pointer (some ⟨p, 0, none⟩)] w fun x w' => x = .returned (.int .u32 (n32 ((val ((l.drop k).take 4)).setWidth 32))) ∧ Rdr w' p g l (k + 4) 0 ∧ Only (fun j => j = p) w w' := by
  have hrd := h.rd 4
  have hgp := h.ne
  have hml : ((l.drop k).take 4).length = 4 := by simp; omega
  go_enter Try.func33, Try.ntmps33
  go_wp2_with fail
  refine (width32 w).mono ?_
  rintro e w0 ⟨rfl, rfl⟩
  go_wp2_with fail
  refine (takeYes h hl 4 hn).mono ?_
  rintro x w1 ⟨ao, rfl, h0, h1, h3⟩
  have hr1 : Rd w1 ao ((l.drop k).take 4) := by
    rw [h0 (by omega)]; exact hrd.only h3 (fun a ha => by cases ha; exact Ne.symm hgp)
  obtain ⟨m, hm⟩ : ∃ m, (l.drop k).take 4 = m := ⟨_, rfl⟩
  rw [hm] at hr1 hml
  have HM := Lib.hid hm
  have H1 := Lib.hid h1
  clear h h1 h0 hrd hm
  obtain ⟨b, o, rfl, hc⟩ := hr1.at (by omega)
  clear hr1
  go_wp2_with fail
  go_loop [5, 18] (fun x i => ∃ j : Nat, j ≤ 4 ∧ i = .int .i64 j ∧ x = .int .u64 (n64 (val (m.take j)))) (fun _ i => 4 - (intOf i).toNat)
  case atStart => exact ⟨0, Nat.zero_le _, rfl, by simp [val, n64_z]⟩
  case round =>
    obtain ⟨j, hj, rfl, rfl⟩ := hrel
    by_cases hlt : j < 4
    · have hcj := hc j (by omega)
      have hv := val_step m j (by omega)
      obtain ⟨y, hy⟩ : ∃ y, m.getD j 0#8 = y := ⟨_, rfl⟩
      rw [hy] at hcj hv
      have HV := Lib.hid hv
      obtain ⟨a, ha⟩ : ∃ a, val (m.take j) = a := ⟨_, rfl⟩
      rw [ha] at HV ⊢
      clear hc hy hv ha
      go_wp2
      go_round
      case rel => exact ⟨j + 1, by omega, by go_num, by rw [HV.out]⟩
      case measure => simp [intOf]; omega
    · obtain rfl : j = 4 := by omega
      have hmt : m.take 4 = m := List.take_of_length_le (by omega)
      rw [hmt]
      obtain ⟨a, ha⟩ : ∃ a, val m = a := ⟨_, rfl⟩
      rw [ha]
      have HA := Lib.hid ha
      clear hc ha hmt
      go_wp2
      go_ret
      exact ⟨by rw [HM.out, HA.out]; rfl, H1.out, h3⟩
theorem getNo64 {w : World} {p g : Nat} {l : List (BitVec 8)} {k : Nat} {e : Int} (h : Rdr w p g l k e) (hl : l.length ≤ 140737488351232) (hno : ¬ (e = 0 ∧ k + 8 ≤ l.length)) :
   Calls Try.prog 34 #[.pointer (some ⟨p, 0, none⟩)] w fun x w' => x = .returned (.int .u64 0) ∧ Rdr w' p g l k (failE l k e 8) ∧ failE l k e 8 ≠ 0 ∧ Only (fun j => j = p) w w' := by
  go_enter Try.func34, Try.ntmps34
  go_wp2_with fail
  refine (width64 w).mono ?_
  rintro e w1 ⟨rfl, rfl⟩
  go_wp2_with fail
  refine (takeNo h hl 8 (fun ⟨h1, _, h2⟩ => hno ⟨h1, by have := h.le; omega⟩)).mono ?_
  rintro x w2 ⟨rfl, h1, h2, h3⟩
  have H1 := Lib.hid h1
  have H2 := Lib.hid h2
  clear h hno h1 h2
  go_wp2
  go_ret
  exact ⟨rfl, H1.out, H2.out, h3⟩
theorem getYes64 {w : World} {p g : Nat} {l : List (BitVec 8)} {k : Nat} (h : Rdr w p g l k 0) (hl : l.length ≤ 140737488351232) (hn : k + 8 ≤ l.length) :
   Calls Try.prog 34 #[.pointer (some ⟨p, 0, none⟩)] w fun x w' => x = .returned (.int .u64 (n64 (val ((l.drop k).take 8)))) ∧ Rdr w' p g l (k + 8) 0 ∧ Only (fun j => j = p) w w' := by
  have hrd := h.rd 8
  have hgp := h.ne
  have hml : ((l.drop k).take 8).length = 8 := by simp; omega
  go_enter Try.func34, Try.ntmps34
  go_wp2_with fail
  refine (width64 w).mono ?_
  rintro e w0 ⟨rfl, rfl⟩
  go_wp2_with fail
  refine (takeYes h hl 8 hn).mono ?_
  rintro x w1 ⟨ao, rfl, h0, h1, h3⟩
  have hr1 : Rd w1 ao ((l.drop k).take 8) := by
    rw [h0 (by omega)]; exact hrd.only h3 (fun a ha => by cases ha; exact Ne.symm hgp)
  obtain ⟨m, hm⟩ : ∃ m, (l.drop k).take 8 = m := ⟨_, rfl⟩
  rw [hm] at hr1 hml
  have HM := Lib.hid hm
  have H1 := Lib.hid h1
  clear h h1 h0 hrd hm
  obtain ⟨b, o, rfl, hc⟩ := hr1.at (by omega)
  clear hr1
  go_wp2_with fail
  go_loop [5, 18] (fun x i => ∃ j : Nat, j ≤ 8 ∧ i = .int .i64 j ∧ x = .int .u64 (n64 (val (m.take j)))) (fun _ i => 8 - (intOf i).toNat)
  case atStart => exact ⟨0, Nat.zero_le _, rfl, by simp [val, n64_z]⟩
  case round =>
    obtain ⟨j, hj, rfl, rfl⟩ := hrel
    by_cases hlt : j < 8
    · have hcj := hc j (by omega)
      have hv := val_step m j (by omega)
      obtain ⟨y, hy⟩ : ∃ y, m.getD j 0#8 = y := ⟨_, rfl⟩
      rw [hy] at hcj hv
      have HV := Lib.hid hv
      obtain ⟨a, ha⟩ : ∃ a, val (m.take j) = a := ⟨_, rfl⟩
      rw [ha] at HV ⊢
      clear hc hy hv ha
      go_wp2
      go_round
      case rel => exact ⟨j + 1, by omega, by go_num, by rw [HV.out]⟩
      case measure => simp [intOf]; omega
    · obtain rfl : j = 8 := by omega
      have hmt : m.take 8 = m := List.take_of_length_le (by omega)
      rw [hmt]
      obtain ⟨a, ha⟩ : ∃ a, val m = a := ⟨_, rfl⟩
      rw [ha]
      have HA := Lib.hid ha
      clear hc ha hmt
      go_wp2
      go_ret
      exact ⟨by rw [HM.out, HA.out]; rfl, H1.out, h3⟩
theorem getNoWord {w : World} {p g : Nat} {l : List (BitVec 8)} {k : Nat} {e : Int} (h : Rdr w p g l k e) (hl : l.length ≤ 140737488351232) (hno : ¬ (e = 0 ∧ k + 2 ≤ l.length)) :
   Calls Try.prog 39 #[.pointer (some ⟨p, 0, none⟩)] w fun x w' => x = .returned (.int .u16 0) ∧ Rdr w' p g l k (failE l k e 2) ∧ failE l k e 2 ≠ 0 ∧ Only (fun j => j = p) w w' := by
  go_enter Try.func39, Try.ntmps39
  go_wp2_with fail
  refine (widthWord w).mono ?_
  rintro e w1 ⟨rfl, rfl⟩
  go_wp2_with fail
  refine (takeNo h hl 2 (fun ⟨h1, _, h2⟩ => hno ⟨h1, by have := h.le; omega⟩)).mono ?_
  rintro x w2 ⟨rfl, h1, h2, h3⟩
  have H1 := Lib.hid h1
  have H2 := Lib.hid h2
  clear h hno h1 h2
  go_wp2
  go_ret
  exact ⟨rfl, H1.out, H2.out, h3⟩
theorem getYesWord {w : World} {p g : Nat} {l : List (BitVec 8)} {k : Nat} (h : Rdr w p g l k 0) (hl : l.length ≤ 140737488351232) (hn : k + 2 ≤ l.length) :
   Calls Try.prog 39 #[.pointer (some ⟨p, 0, none⟩)] w fun x w' => x = .returned (.int .u16 (n16 ((val ((l.drop k).take 2)).setWidth 16))) ∧ Rdr w' p g l (k + 2) 0 ∧ Only (fun j => j = p) w w' := by
  have hrd := h.rd 2
  have hgp := h.ne
  have hml : ((l.drop k).take 2).length = 2 := by simp; omega
  go_enter Try.func39, Try.ntmps39
  go_wp2_with fail
  refine (widthWord w).mono ?_
  rintro e w0 ⟨rfl, rfl⟩
  go_wp2_with fail
  refine (takeYes h hl 2 hn).mono ?_
  rintro x w1 ⟨ao, rfl, h0, h1, h3⟩
  have hr1 : Rd w1 ao ((l.drop k).take 2) := by
    rw [h0 (by omega)]; exact hrd.only h3 (fun a ha => by cases ha; exact Ne.symm hgp)
  obtain ⟨m, hm⟩ : ∃ m, (l.drop k).take 2 = m := ⟨_, rfl⟩
  rw [hm] at hr1 hml
  have HM := Lib.hid hm
  have H1 := Lib.hid h1
  clear h h1 h0 hrd hm
  obtain ⟨b, o, rfl, hc⟩ := hr1.at (by omega)
  clear hr1
  go_wp2_with fail
  go_loop [5, 18] (fun x i => ∃ j : Nat, j ≤ 2 ∧ i = .int .i64 j ∧ x = .int .u64 (n64 (val (m.take j)))) (fun _ i => 2 - (intOf i).toNat)
  case atStart => exact ⟨0, Nat.zero_le _, rfl, by simp [val, n64_z]⟩
  case round =>
    obtain ⟨j, hj, rfl, rfl⟩ := hrel
    by_cases hlt : j < 2
    · have hcj := hc j (by omega)
      have hv := val_step m j (by omega)
      obtain ⟨y, hy⟩ : ∃ y, m.getD j 0#8 = y := ⟨_, rfl⟩
      rw [hy] at hcj hv
      have HV := Lib.hid hv
      obtain ⟨a, ha⟩ : ∃ a, val (m.take j) = a := ⟨_, rfl⟩
      rw [ha] at HV ⊢
      clear hc hy hv ha
      go_wp2
      go_round
      case rel => exact ⟨j + 1, by omega, by go_num, by rw [HV.out]⟩
      case measure => simp [intOf]; omega
    · obtain rfl : j = 2 := by omega
      have hmt : m.take 2 = m := List.take_of_length_le (by omega)
      rw [hmt]
      obtain ⟨a, ha⟩ : ∃ a, val m = a := ⟨_, rfl⟩
      rw [ha]
      have HA := Lib.hid ha
      clear hc ha hmt
      go_wp2
      go_ret
      exact ⟨by rw [HM.out, HA.out]; rfl, H1.out, h3⟩
end Go.Proofs.Ytmhcfifenclebaa
