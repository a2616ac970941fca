/- Numbers as bytes, highest first. No program in sight. -/
import Derived.Test.YthaiibfnjgfgjaaDoorBv
namespace Go.Proofs.YthaiibfnjgfgjaaDoor
open Go.RowKit
/-- The lowest n bytes of x, the highest first. -/
def be (x : BitVec 64) : Nat → List (BitVec 8)
  | 0 => []
  | n + 1 => (x >>> (8 * n)).setWidth 8 :: be x n
theorem be_length (x : BitVec 64) (n : Nat) : (be x n).length = n := by
  induction n with
  | zero => rfl
  | succ n ih => simp [be, ih]
/-- Bytes read as a number, highest first. -/
def val (l : List (BitVec 8)) : BitVec 64 := l.foldl (fun x c => (x <<< 8) ||| c.setWidth 64) 0#64
theorem be_get (x : BitVec 64) (n i : Nat) (h : i < n) : (be x n).getD i 0#8 = (x >>> (8 * (n - 1 - i))).setWidth 8 := by
  induction n generalizing i with
  | zero => omega
  | succ n ih =>
    cases i with
    | zero => simp [be]
    | succ i =>
      simp only [be, List.getD_cons_succ]
      rw [ih i (by omega)]
      congr 3
      omega
theorem be_narrow (x y : BitVec 64) (n : Nat) (h : ∀ i, i < 8 * n → x.getLsbD i = y.getLsbD i) : be x n = be y n := by
  induction n with
  | zero => rfl
  | succ n ih =>
    simp only [be]
    rw [ih (fun i hi => h i (by omega))]
    congr 1
    apply BitVec.eq_of_getLsbD_eq
    intro i hi
    simp only [BitVec.getLsbD_setWidth, BitVec.getLsbD_ushiftRight, hi, decide_true, Bool.true_and]
    exact h _ (by omega)
theorem val_be_at (x a : BitVec 64) (n : Nat) : ∀ i, i < 64 → ((be x n).foldl (fun (x : BitVec 64) (c : BitVec 8) => (x <<< 8) ||| c.setWidth 64) a).getLsbD i = if i < 8 * n then x.getLsbD i else a.getLsbD (i - 8 * n) := by
  induction n generalizing a with
  | zero => intro i hi; simp [be]
  | succ n ih =>
    intro i hi
    simp only [be, List.foldl_cons]
    rw [ih _ i hi]
    by_cases h1 : i < 8 * n
    · rw [if_pos h1, if_pos (by omega)]
    · rw [if_neg h1]
      simp only [BitVec.getLsbD_or, BitVec.getLsbD_shiftLeft, BitVec.getLsbD_setWidth, BitVec.getLsbD_ushiftRight]
      by_cases h2 : i < 8 * (n + 1)
      · rw [if_pos h2]
        have : i - 8 * n < 8 := by omega
        simp only [this, decide_true, Bool.not_true, Bool.and_false, Bool.false_and, Bool.false_or, Bool.true_and]
        rw [show 8 * n + (i - 8 * n) = i by omega]
        simp; omega
      · rw [if_neg h2]
        have h3 : ¬ (i - 8 * n < 8) := by omega
        simp only [h3, decide_false, Bool.not_false, Bool.and_true, Bool.false_and, Bool.and_false, Bool.or_false, show i - 8 * n < 64 by omega, decide_true, Bool.true_and]
        rw [show i - 8 * n - 8 = i - 8 * (n + 1) by omega]
theorem be_step (l : List (BitVec 8)) (x : BitVec 64) (W k j : Nat) (hk : k < W) (hj : j + k + 1 = l.length + W) :
    (l ++ List.replicate (W - k) 0#8 ++ be x k).set j ((x >>> (8 * k)).setWidth 8) = l ++ List.replicate (W - (k + 1)) 0#8 ++ be x (k + 1) := by
  have e1 : j = (l ++ List.replicate (W - (k + 1)) 0#8).length := by simp; omega
  rw [show W - k = (W - (k + 1)) + 1 by omega, List.replicate_succ', ← List.append_assoc, List.append_assoc, e1, List.set_append_right _ _ (Nat.le_refl _), Nat.sub_self]
  simp [be]
/-- The number's lowest bytes. -/
theorem val_be (x : BitVec 64) (n : Nat) : val (be x n) = x &&& BitVec.ofNat 64 (2 ^ (8 * n) - 1) := by
  apply BitVec.eq_of_getLsbD_eq
  intro i hi
  unfold val
  rw [val_be_at x 0#64 n i hi]
  simp only [BitVec.getLsbD_and, BitVec.getLsbD_ofNat, hi, decide_true, Bool.true_and, Nat.testBit_two_pow_sub_one]
  by_cases h : i < 8 * n <;> simp [h]
theorem val_snoc (l : List (BitVec 8)) (c : BitVec 8) : val (l ++ [c]) = (val l <<< 8) ||| c.setWidth 64 := by simp [val]
end Go.Proofs.YthaiibfnjgfgjaaDoor
