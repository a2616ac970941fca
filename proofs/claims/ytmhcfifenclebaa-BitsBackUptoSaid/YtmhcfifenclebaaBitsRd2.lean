/- The reader's Bytes and Zeros. -/
import Derived.Test.YtmhcfifenclebaaBitsRd
namespace Go.Proofs.Ytmhcfifenclebaa
open Go.RowKit
theorem readNo {w : World} {p g : Nat} {l : List (BitVec 8)} {k : Nat} {e : Int} (h : Rdr w p g l k e) (hl : l.length ≤ 140737488351232) (n : Int) (hno : ¬ (e = 0 ∧ 0 ≤ n ∧ n ≤ (l.length : Int) - k)) :
   Calls Try.prog 22 #[.pointer (some ⟨p, 0, none⟩), .int .i64 n] w fun x w' => x = .returned (.slice none 0 0) ∧ Rdr w' p g l k (failE l k e n) ∧ failE l k e n ≠ 0 ∧ Only (fun j => j = p) w w' := by
  go_enter Try.func22, Try.ntmps22
  go_wp2_with fail
  refine (takeNo h hl n hno).mono ?_
  rintro x w1 ⟨rfl, h1, h2, h3⟩
  have H1 := Lib.hid h1
  have H2 := Lib.hid h2
  clear h hno h1 h2
  go_wp2
  go_ret
  exact ⟨rfl, H1.out, H2.out, h3⟩
theorem readYes {w : World} {p g : Nat} {l : List (BitVec 8)} {k : Nat} (h : Rdr w p g l k 0) (hl : l.length ≤ 140737488351232) (n : Nat) (hn : k + n ≤ l.length) :
   Calls Try.prog 22 #[.pointer (some ⟨p, 0, none⟩), .int .i64 n] w fun x w' => ∃ ao, x = .returned (.slice ao n n) ∧ (0 < n → ao = some ⟨g, k, none⟩) ∧ Rdr w' p g l (k + n) 0 ∧ Rd w' ao ((l.drop k).take n) ∧ Only (fun j => j = p) w w' := by
  have hrd := h.rd n
  have hgp := h.ne
  go_enter Try.func22, Try.ntmps22
  go_wp2_with fail
  refine (takeYes h hl n hn).mono ?_
  rintro x w1 ⟨ao, rfl, h0, h1, h3⟩
  have hr1 : Rd w1 ao ((l.drop k).take n) := by
    rcases Nat.eq_zero_or_pos n with rfl | hn0
    · simp [Rd.nil]
    · rw [h0 hn0]; exact hrd.only h3 (fun a ha => by cases ha; exact Ne.symm hgp)
  have H0 := Lib.hid h0
  have H1 := Lib.hid h1
  clear h h1 h0 hrd
  go_wp2
  go_ret
  exact ⟨ao, rfl, H0.out, H1.out, hr1, h3⟩
theorem zerosNo {w : World} {p g : Nat} {l : List (BitVec 8)} {k : Nat} {e : Int} (h : Rdr w p g l k e) (hl : l.length ≤ 140737488351232) (n : Int) (hno : ¬ (e = 0 ∧ 0 ≤ n ∧ n ≤ (l.length : Int) - k)) :
   Calls Try.prog 21 #[.pointer (some ⟨p, 0, none⟩), .int .i64 n] w fun x w' => x = .returned (.tuple #[]) ∧ Rdr w' p g l k (failE l k e n) ∧ failE l k e n ≠ 0 ∧ Only (fun j => j = p) w w' := by
  go_enter Try.func21, Try.ntmps21
  go_wp2_with fail
  refine (takeNo h hl n hno).mono ?_
  rintro x w1 ⟨rfl, h1, h2, h3⟩
  have H1 := Lib.hid h1
  have H2 := Lib.hid h2
  clear h hno h1 h2
  go_wp2_with fail
  go_loop [16] (fun i => i = .int .i64 0) (fun _ => 0)
  case atStart => rfl
  case round =>
    obtain rfl := hrel
    go_wp2
    go_end0
    exact ⟨rfl, H1.out, H2.out, h3⟩
/-- How many zeros stand ahead. -/
def zrs (l : List (BitVec 8)) : Nat := (l.takeWhile (· == 0#8)).length
theorem zrs_le (l : List (BitVec 8)) : zrs l ≤ l.length := (List.takeWhile_prefix _).length_le
theorem zrs_all (l : List (BitVec 8)) (h : ∀ i, i < l.length → l.getD i 0#8 = 0#8) : zrs l = l.length := by
  induction l with
  | nil => rfl
  | cons x l ih =>
    have h0 := h 0 (by simp)
    simp only [List.getD_cons_zero] at h0
    have := ih (fun i hi => by have := h (i + 1) (by simpa using hi); simpa using this)
    unfold zrs at this ⊢
    simp [h0, this]
theorem zrs_at (l : List (BitVec 8)) (j : Nat) (hj : j < l.length) (h : ∀ i, i < j → l.getD i 0#8 = 0#8) (hx : l.getD j 0#8 ≠ 0#8) : zrs l = j := by
  induction l generalizing j with
  | nil => simp at hj
  | cons x l ih =>
    cases j with
    | zero => simp only [List.getD_cons_zero] at hx; simp [zrs, hx]
    | succ j =>
      have h0 := h 0 (by omega)
      simp only [List.getD_cons_zero] at h0
      have := ih j (by simpa using hj) (fun i hi => by have := h (i + 1) (by omega); simpa using this) (by simpa using hx)
      unfold zrs at this ⊢
      simp [h0, this]
/-- The place and the error behind Zeros of n bytes that are there. -/
def zAt (l : List (BitVec 8)) (k n : Nat) : Nat := k + zrs ((l.drop k).take n)
def zErr (l : List (BitVec 8)) (k n : Nat) : Int := if zrs ((l.drop k).take n) = n then 0 else 11
theorem Rdr.put {w w' : World} {p g : Nat} {l : List (BitVec 8)} {k k' : Nat} {e e' : Int} (h : Rdr w p g l k e) (hk : k ≤ k') (hl : k' ≤ l.length) (hg : w'.heap[g]? = w.heap[g]?)
   (hp : w'.heap[p]? = some (.cells #[.slice (some ⟨g, 0, none⟩) l.length l.length, .int .i64 k', .int .i64 e'] 66 (0, 0))) : Rdr w' p g l k' e' := by
  obtain ⟨c, h1, h2, h3⟩ := h.mem
  exact ⟨hp, ⟨c, hg.trans h1, h2, fun i hi => h3 i (by omega)⟩, hl, h.ne⟩
theorem zerosYes {w : World} {p g : Nat} {l : List (BitVec 8)} {k : Nat} (h : Rdr w p g l k 0) (hl : l.length ≤ 140737488351232) (n : Nat) (hn : k + n ≤ l.length) :
   Calls Try.prog 21 #[.pointer (some ⟨p, 0, none⟩), .int .i64 n] w fun x w' => x = .returned (.tuple #[]) ∧ Rdr w' p g l (zAt l k n) (zErr l k n) ∧ Only (fun j => j = p) w w' := by
  have hrd := h.rd n
  have hgp := h.ne
  have hml : ((l.drop k).take n).length = n := by simp; omega
  go_enter Try.func21, Try.ntmps21
  go_wp2_with fail
  refine (takeYes h hl n hn).mono ?_
  rintro x w1 ⟨ao, rfl, h0, h1, h3⟩
  have hr1 : Rd w1 ao ((l.drop k).take n) := by
    rcases Nat.eq_zero_or_pos n with rfl | hn0
    · simp [Rd.nil]
    · rw [h0 hn0]; exact hrd.only h3 (fun a ha => by cases ha; exact Ne.symm hgp)
  have c1 := h1.c1
  have c2 := h1.c2
  have hf1 := h1.free 1
  have hf2 := h1.free 2
  obtain ⟨m, hm⟩ : ∃ m, (l.drop k).take n = m := ⟨_, rfl⟩
  have HZ : Hid (zAt l k n = k + zrs m ∧ zErr l k n = if zrs m = n then 0 else 11) := by show _ ∧ _; unfold zAt zErr; rw [hm]; exact ⟨rfl, rfl⟩
  rw [hm] at hr1 hml
  have H0 := Lib.hid h
  have H1 := Lib.hid h1
  clear h h1 hrd hm
  go_wp2_with fail
  go_loop [16] (fun i => ∃ j : Nat, j ≤ n ∧ i = .int .i64 j ∧ ∀ i, i < j → m.getD i 0#8 = 0#8) (fun i => n - (intOf i).toNat)
  case atStart => exact ⟨0, Nat.zero_le _, rfl, fun i hi => by omega⟩
  case round =>
    obtain ⟨j, hj, rfl, hz⟩ := hrel
    have HJ := Lib.hid hz
    clear hz
    by_cases hlt : j < n
    · obtain ⟨b, o, rfl, hc⟩ := hr1.at (by omega)
      have hcj := hc j (by omega)
      obtain ⟨y, hy⟩ : ∃ y, m.getD j 0#8 = y := ⟨_, rfl⟩
      rw [hy] at hcj
      have HY := Lib.hid hy
      clear hc hr1 hy
      by_cases hy0 : y = 0#8
      · subst hy0
        rw [← n8_zero] at hcj
        go_wp2
        go_round
        case rel =>
          refine ⟨j + 1, by omega, by go_num, fun i hi => ?_⟩
          rcases Nat.lt_succ_iff_lt_or_eq.1 hi with h | rfl
          · exact HJ.out i h
          · exact HY.out
        case measure => simp [intOf]; omega
      · have hne : (n8 y != 0) = true := by rw [n8_zero]; simpa using fun h => hy0 (n8_inj h)
        go_wp2
        refine bodyPost_ret (results_none rfl _ _ _) rfl ?_
        rw [show ((k : Int) + (n : Int) + ((j : Int) - (n : Int))) = ((k + j : Nat) : Int) by omega]
        have hz : zrs m = j := zrs_at m j (by rw [hml]; omega) HJ.out (by rw [HY.out]; exact hy0)
        rw [HZ.out.1, HZ.out.2, hz, if_neg (by omega)]
        have ht : Only (fun j => j = p) w ((w1.setCell ⟨p, 1, none⟩ (.int .i64 ((k + j : Nat) : Int))).setCell ⟨p, 2, none⟩ (.int .i64 11)) := (h3.trans (Only.setCell _ _ _ _)).trans (Only.setCell _ _ _ _)
        refine ⟨rfl, H0.out.put (by omega) (by omega) (ht.block g H0.out.lt' (Ne.symm hgp)) ?_, ht⟩
        exact heap_setCell_same _ p 2 _ _ _ (heap_setCell_same w1 p 1 _ _ _ H1.out.cells)
    · obtain rfl : j = n := by omega
      clear hr1
      go_wp2
      go_end0
      have hz : zrs m = j := by rw [zrs_all m (by rw [hml]; exact HJ.out), hml]
      rw [HZ.out.1, HZ.out.2, hz, if_pos rfl]
      exact ⟨rfl, H1.out, h3⟩
end Go.Proofs.Ytmhcfifenclebaa
