/- The law's wide, put, get. -/
import Derived.Test.YtmhcfifenclebaaBitsPuts
import Derived.Test.YtmhcfifenclebaaBitsGet
namespace Go.Proofs.Ytmhcfifenclebaa
open Go.RowKit
/-- 1, 2, 4 or 8. -/
def Wd (n : Nat) : Prop := n = 1 ∨ n = 2 ∨ n = 4 ∨ n = 8
theorem wideOf (x : Int) (w : World) : Calls Try.prog 13 #[.int .i64 x] w fun e w' => ∃ n, Wd n ∧ e = .returned (.int .i64 n) ∧ w' = w := by
  have h1 : -4 < x.tmod 4 := by have := Int.lt_tmod_of_pos x (b := 4) (by omega); omega
  have h2 : x.tmod 4 < 4 := Int.tmod_lt_of_pos x (by omega)
  have h3 : (x.tmod 4 + 4).tmod 4 = (x.tmod 4 + 4) % 4 := Int.tmod_eq_emod_of_nonneg (by omega)
  have h4 : (x.tmod 4 + 4) % 4 = 0 ∨ (x.tmod 4 + 4) % 4 = 1 ∨ (x.tmod 4 + 4) % 4 = 2 ∨ (x.tmod 4 + 4) % 4 = 3 := by omega
  rcases h4 with h4 | h4 | h4 | h4

  · rw [h4] at h3
    go_enter Try.func13, Try.ntmps13
    go_wp2
    go_ret
    exact ⟨1, by unfold Wd; omega, rfl, rfl⟩
  · rw [h4] at h3
    go_enter Try.func13, Try.ntmps13
    go_wp2
    go_ret
    exact ⟨2, by unfold Wd; omega, rfl, rfl⟩
  · rw [h4] at h3
    go_enter Try.func13, Try.ntmps13
    go_wp2
    go_ret
    exact ⟨4, by unfold Wd; omega, rfl, rfl⟩
  · rw [h4] at h3
    go_enter Try.func13, Try.ntmps13
    go_wp2
    go_ret
    exact ⟨8, by unfold Wd; omega, rfl, rfl⟩
theorem val_high (l : List (BitVec 8)) (i : Nat) (hi : 8 * l.length ≤ i) : (val l).getLsbD i = false := by
  have key : ∀ (n : Nat) (l : List (BitVec 8)), l.length = n → ∀ i, 8 * n ≤ i → (val l).getLsbD i = false := by
    intro n
    induction n with
    | zero => intro l hl i _; rw [List.length_eq_zero_iff.1 hl]; simp [val]
    | succ n ih =>
      intro l hl i hi
      obtain ⟨m, c, rfl⟩ : ∃ m c, l = m ++ [c] := ⟨l.dropLast, l.getLast (by intro h; simp [h] at hl), (List.dropLast_concat_getLast _).symm⟩
      simp at hl
      rw [val_snoc, BitVec.getLsbD_or, BitVec.getLsbD_shiftLeft, BitVec.getLsbD_setWidth, ih m hl (i - 8) (by omega)]
      simp
      intro _
      exact BitVec.getLsbD_of_ge _ _ (by omega)
  exact key _ l rfl i hi
theorem val_8 (l : List (BitVec 8)) (h : l.length = 1) : ((val l).setWidth 8).setWidth 64 = val l := by
  apply BitVec.eq_of_getLsbD_eq; intro i hi
  simp only [BitVec.getLsbD_setWidth, hi, decide_true, Bool.true_and]
  by_cases h1 : i < 8
  · simp [h1]
  · simp [h1, val_high l i (by omega)]
theorem val_16 (l : List (BitVec 8)) (h : l.length = 2) : ((val l).setWidth 16).setWidth 64 = val l := by
  apply BitVec.eq_of_getLsbD_eq; intro i hi
  simp only [BitVec.getLsbD_setWidth, hi, decide_true, Bool.true_and]
  by_cases h1 : i < 16
  · simp [h1]
  · simp [h1, val_high l i (by omega)]
theorem val_32 (l : List (BitVec 8)) (h : l.length = 4) : ((val l).setWidth 32).setWidth 64 = val l := by
  apply BitVec.eq_of_getLsbD_eq; intro i hi
  simp only [BitVec.getLsbD_setWidth, hi, decide_true, Bool.true_and]
  by_cases h1 : i < 32
  · simp [h1]
  · simp [h1, val_high l i (by omega)]
theorem getNo {w : World} {p g : Nat} {l : List (BitVec 8)} {k : Nat} {e : Int} (h : Rdr w p g l k e) (hl : l.length ≤ 140737488351232) (n : Nat) (hn : Wd n) (hno : ¬ (e = 0 ∧ k + n ≤ l.length)) :
   Calls Try.prog 15 #[.pointer (some ⟨p, 0, none⟩), .int .i64 n] w fun x w' => x = .returned (.int .u64 0) ∧ Rdr w' p g l k (failE l k e n) ∧ failE l k e n ≠ 0 ∧ Only (fun j => j = p) w w' := by
  rcases hn with rfl | rfl | rfl | rfl
  · go_enter Try.func15, Try.ntmps15
    go_wp2_with fail
    refine (getNo8 h hl hno).mono ?_
    rintro x w1 ⟨rfl, h1, h2, h3⟩
    have H1 := Lib.hid h1
    have H2 := Lib.hid h2
    clear h hno h1 h2
    go_wp2
    go_ret
    exact ⟨rfl, H1.out, H2.out, h3⟩
  · go_enter Try.func15, Try.ntmps15
    go_wp2_with fail
    refine (getNo16 h hl hno).mono ?_
    rintro x w1 ⟨rfl, h1, h2, h3⟩
    have H1 := Lib.hid h1
    have H2 := Lib.hid h2
    clear h hno h1 h2
    go_wp2
    go_ret
    exact ⟨rfl, H1.out, H2.out, h3⟩
  · go_enter Try.func15, Try.ntmps15
    go_wp2_with fail
    refine (getNo32 h hl hno).mono ?_
    rintro x w1 ⟨rfl, h1, h2, h3⟩
    have H1 := Lib.hid h1
    have H2 := Lib.hid h2
    clear h hno h1 h2
    go_wp2
    go_ret
    exact ⟨rfl, H1.out, H2.out, h3⟩
  · go_enter Try.func15, Try.ntmps15
    go_wp2_with fail
    refine (getNo64 h hl hno).mono ?_
    rintro x w1 ⟨rfl, h1, h2, h3⟩
    have H1 := Lib.hid h1
    have H2 := Lib.hid h2
    clear h hno h1 h2
    go_wp2
    go_ret
    exact ⟨rfl, H1.out, H2.out, h3⟩
theorem getYes {w : World} {p g : Nat} {l : List (BitVec 8)} {k : Nat} (h : Rdr w p g l k 0) (hl : l.length ≤ 140737488351232) (n : Nat) (hn : Wd n) (hfit : k + n ≤ l.length) :
   Calls Try.prog 15 #[.pointer (some ⟨p, 0, none⟩), .int .i64 n] w fun x w' => x = .returned (.int .u64 (n64 (val ((l.drop k).take n)))) ∧ Rdr w' p g l (k + n) 0 ∧ Only (fun j => j = p) w w' := by
  rcases hn with rfl | rfl | rfl | rfl
  · have hml : ((l.drop k).take 1).length = 1 := by simp; omega
    obtain ⟨m, hm⟩ : ∃ m, (l.drop k).take 1 = m := ⟨_, rfl⟩
    have HM := Lib.hid hm
    go_enter Try.func15, Try.ntmps15
    go_wp2_with fail
    refine (getYes8 h hl hfit).mono ?_
    rintro x w1 ⟨rfl, h1, h3⟩
    rw [hm] at hml ⊢
    have H1 := Lib.hid h1
    obtain ⟨v, hv⟩ : ∃ v, val m = v := ⟨_, rfl⟩
    have hx := val_8 m hml
    rw [hv] at hx ⊢
    have HV := Lib.hid hv
    clear h h1 hm hv
    go_wp2
    go_ret
    exact ⟨by rw [HM.out, HV.out]; rfl, H1.out, h3⟩
  · have hml : ((l.drop k).take 2).length = 2 := by simp; omega
    obtain ⟨m, hm⟩ : ∃ m, (l.drop k).take 2 = m := ⟨_, rfl⟩
    have HM := Lib.hid hm
    go_enter Try.func15, Try.ntmps15
    go_wp2_with fail
    refine (getYes16 h hl hfit).mono ?_
    rintro x w1 ⟨rfl, h1, h3⟩
    rw [hm] at hml ⊢
    have H1 := Lib.hid h1
    obtain ⟨v, hv⟩ : ∃ v, val m = v := ⟨_, rfl⟩
    have hx := val_16 m hml
    rw [hv] at hx ⊢
    have HV := Lib.hid hv
    clear h h1 hm hv
    go_wp2
    go_ret
    exact ⟨by rw [HM.out, HV.out]; rfl, H1.out, h3⟩
  · have hml : ((l.drop k).take 4).length = 4 := by simp; omega
    obtain ⟨m, hm⟩ : ∃ m, (l.drop k).take 4 = m := ⟨_, rfl⟩
    have HM := Lib.hid hm
    go_enter Try.func15, Try.ntmps15
    go_wp2_with fail
    refine (getYes32 h hl hfit).mono ?_
    rintro x w1 ⟨rfl, h1, h3⟩
    rw [hm] at hml ⊢
    have H1 := Lib.hid h1
    obtain ⟨v, hv⟩ : ∃ v, val m = v := ⟨_, rfl⟩
    have hx := val_32 m hml
    rw [hv] at hx ⊢
    have HV := Lib.hid hv
    clear h h1 hm hv
    go_wp2
    go_ret
    exact ⟨by rw [HM.out, HV.out]; rfl, H1.out, h3⟩
  · have hml : ((l.drop k).take 8).length = 8 := by simp; omega
    obtain ⟨m, hm⟩ : ∃ m, (l.drop k).take 8 = m := ⟨_, rfl⟩
    have HM := Lib.hid hm
    go_enter Try.func15, Try.ntmps15
    go_wp2_with fail
    refine (getYes64 h hl hfit).mono ?_
    rintro x w1 ⟨rfl, h1, h3⟩
    rw [hm] at hml ⊢
    have H1 := Lib.hid h1
    obtain ⟨v, hv⟩ : ∃ v, val m = v := ⟨_, rfl⟩
    have hx := hv
    rw [hv] at hx ⊢
    have HV := Lib.hid hv
    clear h h1 hm hv
    go_wp2
    go_ret
    exact ⟨by rw [HM.out, HV.out]; rfl, H1.out, h3⟩
theorem putOf (ao : Option Addr) (l : List (BitVec 8)) (m cap : Nat) (x : BitVec 64) (w : World) (hm : l.length = m) (hl : m ≤ 140737488351232) (hr : Rd w ao l) (n : Nat) (hn : Wd n) :
   Calls Try.prog 12 #[.slice ao m cap, .int .u64 (n64 x), .int .i64 n] w fun e w' => ∃ g, e = .returned (.slice (some ⟨g, 0, none⟩) (m + n) (m + n)) ∧ w.heap.size ≤ g ∧ Own w' g (m + n) 5 (l ++ be x n) ∧ Below w.heap.size w w' := by
  subst hm
  rcases hn with rfl | rfl | rfl | rfl
  · go_enter Try.func12, Try.ntmps12
    go_wp2_with fail
    refine (put8 ao l cap (x.setWidth 8) w hl hr).mono ?_
    rintro e w1 ⟨g, rfl, h1, h2, h3⟩
    rw [be8] at h2
    have H2 := Lib.hid h2
    clear hr h2
    go_wp2
    go_ret
    exact ⟨g, rfl, h1, H2.out, h3⟩
  · go_enter Try.func12, Try.ntmps12
    go_wp2_with fail
    refine (put16 ao l cap (x.setWidth 16) w hl hr).mono ?_
    rintro e w1 ⟨g, rfl, h1, h2, h3⟩
    rw [be16] at h2
    have H2 := Lib.hid h2
    clear hr h2
    go_wp2
    go_ret
    exact ⟨g, rfl, h1, H2.out, h3⟩
  · go_enter Try.func12, Try.ntmps12
    go_wp2_with fail
    refine (put32 ao l cap (x.setWidth 32) w hl hr).mono ?_
    rintro e w1 ⟨g, rfl, h1, h2, h3⟩
    rw [be32] at h2
    have H2 := Lib.hid h2
    clear hr h2
    go_wp2
    go_ret
    exact ⟨g, rfl, h1, H2.out, h3⟩
  · go_enter Try.func12, Try.ntmps12
    go_wp2_with fail
    refine (put64 ao l cap x w hl hr).mono ?_
    rintro e w1 ⟨g, rfl, h1, h2, h3⟩
    skip
    have H2 := Lib.hid h2
    clear hr h2
    go_wp2
    go_ret
    exact ⟨g, rfl, h1, H2.out, h3⟩
end Go.Proofs.Ytmhcfifenclebaa
