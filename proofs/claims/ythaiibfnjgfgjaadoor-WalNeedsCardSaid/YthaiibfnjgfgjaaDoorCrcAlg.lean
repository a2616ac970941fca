/- The plain law of CRC-32C, its algebra: linear maps, Join, the period, what a sum tells. No program in sight. -/
import Derived.Test.YthaiibfnjgfgjaaDoorCrcMaps
namespace Go.Proofs.YthaiibfnjgfgjaaDoor.Crc
/-- A map of registers that goes over xor. -/
def Lin (f : BitVec 32 → BitVec 32) : Prop := ∀ a b, f (a ^^^ b) = f a ^^^ f b
theorem Lin.zero {f : BitVec 32 → BitVec 32} (h : Lin f) : f 0#32 = 0#32 := by
  have := h 0#32 0#32
  rw [BitVec.xor_self, BitVec.xor_self] at this
  exact this
/-- The images of the single bits. -/
def im (f : BitVec 32 → BitVec 32) : List (BitVec 32) := (List.range 32).map fun i => f (1#32 <<< i)
/-- The low k bits. -/
def low (r : BitVec 32) : Nat → BitVec 32
  | 0 => 0#32
  | k + 1 => if r.getLsbD k then low r k ^^^ (1#32 <<< k) else low r k
theorem low_bit (r : BitVec 32) (k i : Nat) (hk : k ≤ 32) : (low r k).getLsbD i = (decide (i < k) && r.getLsbD i) := by
  induction k with
  | zero => simp [low]
  | succ k ih =>
    have hone : (1#32 <<< k).getLsbD i = decide (i = k) := by
      rw [BitVec.getLsbD_shiftLeft]
      by_cases h1 : i = k
      · subst h1; simp; omega
      · by_cases h2 : i < k
        · simp [h1, h2]
        · have : i - k ≠ 0 := by omega
          simp [h1, this]
    have ih' := ih (by omega)
    simp only [low]
    by_cases h : r.getLsbD k
    · rw [if_pos h, BitVec.getLsbD_xor, ih', hone]
      by_cases h1 : i = k
      · subst h1; simp [h]
      · have : (i < k + 1) = (i < k) := by apply propext; omega
        simp [h1, this]
    · rw [if_neg h, ih']
      by_cases h1 : i = k
      · subst h1; simp at h; simp [h]
      · have : (i < k + 1) = (i < k) := by apply propext; omega
        simp [this]
theorem low_all (r : BitVec 32) : low r 32 = r := by
  apply BitVec.eq_of_getLsbD_eq
  intro i hi
  rw [low_bit r 32 i (by omega)]
  simp [hi]
theorem img_lin {f : BitVec 32 → BitVec 32} (h : Lin f) (r : BitVec 32) (k : Nat) (hk : k ≤ 32) : img (im f) r k = f (low r k) := by
  induction k with
  | zero => simp [img, low, h.zero]
  | succ k ih =>
    simp only [img, low]
    have hg : (im f).getD k 0#32 = f (1#32 <<< k) := by simp [im, List.getD, show k < 32 by omega]
    by_cases hb : r.getLsbD k
    · rw [if_pos hb, if_pos hb, h, ih (by omega), hg]
    · rw [if_neg hb, if_neg hb, ih (by omega)]
theorem img_all {f : BitVec 32 → BitVec 32} (h : Lin f) (r : BitVec 32) : img (im f) r 32 = f r := by rw [img_lin h r 32 (by omega), low_all]
theorem tw_im {f : BitVec 32 → BitVec 32} (h : Lin f) : tw (im f) 32 = im fun r => f (f r) := by
  unfold tw
  conv => rhs; unfold im
  apply List.map_congr_left
  intro i hi
  have hi' : i < 32 := by simpa using hi
  rw [if_pos hi', img_all h]
  simp [im, List.getD, hi']
theorem it_lin (k : Nat) : Lin (it k) := fun a b => it_xor k a b
theorem pw_it (fuel : Nat) : ∀ (m k : Nat) (r : BitVec 32), k < 2 ^ fuel → pw fuel (im (it m)) k r = it (m * k) r := by
  induction fuel with
  | zero =>
    intro m k r hk
    obtain rfl : k = 0 := by simpa using hk
    rw [Nat.mul_zero]; rfl
  | succ f ih =>
    intro m k r hk
    simp only [pw]
    by_cases h0 : k = 0
    · subst h0; rw [Nat.mul_zero]; rfl
    · rw [if_neg h0, img_all (it_lin m), tw_im (it_lin m)]
      have e : (fun r => it m (it m r)) = it (m + m) := by funext r; rw [it_add]
      rw [e, ih (m + m) (k / 2) _ (by rw [Nat.pow_succ] at hk; omega)]
      by_cases h1 : k % 2 = 1
      · rw [if_pos h1, ← it_add]
        congr 1
        have : k = 2 * (k / 2) + 1 := by omega
        calc m + (m + m) * (k / 2) = m * (2 * (k / 2) + 1) := by rw [Nat.mul_add, Nat.mul_one, ← Nat.mul_assoc, Nat.mul_comm m 2, Nat.two_mul]; omega
          _ = m * k := by rw [← this]
      · rw [if_neg h1]
        congr 1
        have : k = 2 * (k / 2) := by omega
        calc (m + m) * (k / 2) = m * (2 * (k / 2)) := by rw [← Nat.mul_assoc, Nat.mul_comm m 2, Nat.two_mul]
          _ = m * k := by rw [← this]
theorem one_im : one 32 = im (it 1) := by decide +kernel
theorem pw_one (k : Nat) (hk : k < 4294967296) (r : BitVec 32) : pw 32 (one 32) k r = it k r := by
  rw [one_im, pw_it 32 1 k r (by simpa using hk), Nat.one_mul]
/-- A step can be undone. -/
theorem stp_inj {a b : BitVec 32} (h : stp a = stp b) : a = b := by
  have h1 : stp (a ^^^ b) = 0#32 := by rw [stp_xor, h, BitVec.xor_self]
  have h2 : a ^^^ b = 0#32 := by
    unfold stp at h1
    cases hb : (a ^^^ b).getLsbD 0
    · rw [hb] at h1
      simp only [Bool.false_eq_true, if_false] at h1
      apply BitVec.eq_of_getLsbD_eq
      intro i hi
      rcases Nat.eq_zero_or_pos i with rfl | h0
      · rw [hb]; rfl
      · have := congrArg (fun x => x.getLsbD (i - 1)) h1
        simp only [BitVec.getLsbD_ushiftRight, show 1 + (i - 1) = i by omega] at this
        rw [this]; simp
    · rw [hb] at h1
      simp only [if_true] at h1
      have := congrArg (fun x => x.getLsbD 31) h1
      simp only [BitVec.getLsbD_xor, BitVec.getLsbD_ushiftRight] at this
      rw [BitVec.getLsbD_of_ge a 32 (by omega), BitVec.getLsbD_of_ge b 32 (by omega)] at this
      exact absurd this (by decide)
  have h3 : a ^^^ b ^^^ b = 0#32 ^^^ b := by rw [h2]
  rw [BitVec.xor_assoc, BitVec.xor_self, BitVec.xor_zero, BitVec.zero_xor] at h3
  exact h3
theorem it_inj (k : Nat) {a b : BitVec 32} (h : it k a = it k b) : a = b := by
  induction k generalizing a b with
  | zero => exact h
  | succ k ih => exact stp_inj (ih h)
theorem it_comm (m n : Nat) (r : BitVec 32) : it m (it n r) = it n (it m r) := by rw [← it_add, ← it_add, Nat.add_comm]
/-- A single bit goes down to the lowest place. -/
theorem it_bit (i : Nat) (h : i < 32) : it i (1#32 <<< i) = 1#32 := by
  have : ∀ i : Fin 32, it i.val (1#32 <<< i.val) = 1#32 := by decide +kernel
  exact this ⟨i, h⟩
/-! ### Bytes -/
theorem rg_cons (r : BitVec 32) (x : BitVec 8) (l : List (BitVec 8)) : rg r (x :: l) = rg (tk r x) l := rfl
theorem tk_xor (r s : BitVec 32) (x : BitVec 8) : tk (r ^^^ s) x = it 8 r ^^^ tk s x := by
  unfold tk
  rw [BitVec.xor_assoc, it_xor]
theorem rg_xor (l : List (BitVec 8)) : ∀ r s : BitVec 32, rg (r ^^^ s) l = it (8 * l.length) r ^^^ rg s l := by
  induction l with
  | nil => intro r s; simp [rg, it]
  | cons x l ih =>
    intro r s
    rw [rg_cons, rg_cons, tk_xor, ih, ← it_add]
    congr 2
    simp; omega
theorem rg_zero (l : List (BitVec 8)) (r : BitVec 32) : rg r l = it (8 * l.length) r ^^^ rg 0#32 l := by
  have := rg_xor l r 0#32
  rw [BitVec.xor_zero] at this
  exact this
theorem not_eq (r : BitVec 32) : ~~~ r = r ^^^ 4294967295#32 := by
  rw [← BitVec.xor_allOnes]; rfl
theorem sum_eq (l : List (BitVec 8)) : sum l = it (8 * l.length) 4294967295#32 ^^^ rg 0#32 l ^^^ 4294967295#32 := by
  unfold sum upd
  rw [not_eq, rg_zero]
  rfl
/-- The sum of two lists one behind the other. -/
theorem sum_app (x y : List (BitVec 8)) : sum (x ++ y) = it (8 * y.length) (sum x) ^^^ sum y := by
  rw [sum_eq, sum_eq x, sum_eq y, rg_app, rg_zero y (rg 0#32 x), it_xor, it_xor, ← it_add]
  rw [show 8 * (x ++ y).length = 8 * x.length + 8 * y.length by simp; omega]
  have e : ∀ a b c d f : BitVec 32, a ^^^ (b ^^^ c) ^^^ d = a ^^^ b ^^^ f ^^^ (f ^^^ c ^^^ d) := by
    intro a b c d f
    have : a ^^^ b ^^^ f ^^^ (f ^^^ c ^^^ d) = a ^^^ (b ^^^ c) ^^^ d ^^^ (f ^^^ f) := by ac_rfl
    rw [this, BitVec.xor_self, BitVec.xor_zero]
  exact e _ _ _ _ _
/-! ### The period -/
theorem one_p : pw 32 (one 32) 2147483647 1#32 = 1#32 := by decide +kernel
theorem it_p_one : it 2147483647 1#32 = 1#32 := by rw [← pw_one _ (by omega)]; exact one_p
theorem it_p_bit (i : Nat) (h : i < 32) : it 2147483647 (1#32 <<< i) = 1#32 <<< i := by
  apply it_inj i
  rw [it_comm, it_bit i h, it_p_one]
theorem it_p (r : BitVec 32) : it 2147483647 r = r := by
  have h1 := img_all (it_lin 2147483647) r
  have hid : Lin (fun r => r) := fun _ _ => rfl
  have h2 := img_all hid r
  have h3 : im (it 2147483647) = im (fun r => r) := by
    unfold im
    apply List.map_congr_left
    intro i hi
    exact it_p_bit i (by simpa using hi)
  rw [← h1, h3, h2]
theorem it_mul (m : Nat) (r : BitVec 32) : it (2147483647 * m) r = r := by
  induction m with
  | zero => rfl
  | succ m ih => rw [Nat.mul_succ, it_add, ih, it_p]
theorem it_mod (k : Nat) (r : BitVec 32) : it (k % 2147483647) r = it k r := by
  conv => rhs; rw [← Nat.div_add_mod k 2147483647, it_add, it_mul]
/-- Join takes eight times the length in steps. -/
theorem join_nat (a b : BitVec 32) (n : Nat) : join a b (n : Int) = it (8 * n) a ^^^ b := by
  unfold join
  rw [if_neg (by omega), pw_one _ (by omega), Int.toNat_natCast]
  rw [it_mod, Nat.mul_comm, ← it_mod (8 * (n % 2147483647)), ← it_mod (8 * n)]
  congr 2
  omega
/-- The sum of two lists, joined. -/
theorem join_sum (x y : List (BitVec 8)) : join (sum x) (sum y) (y.length : Int) = sum (x ++ y) := by rw [join_nat, sum_app]
theorem join_zero (a : BitVec 32) : join a 0#32 0 = a := by
  have := join_nat a 0#32 0
  rw [Int.ofNat_zero] at this
  rw [this]; simp [it]
theorem upd_sum (x y : List (BitVec 8)) : upd (sum x) y = sum (x ++ y) := (upd_app 0#32 x y).symm
theorem join_join (a : BitVec 32) (n m : Nat) : join (join a 0#32 n) 0#32 m = join a 0#32 ((n + m : Nat) : Int) := by
  rw [join_nat, join_nat, join_nat, BitVec.xor_zero, BitVec.xor_zero, BitVec.xor_zero, ← it_add]
  congr 1; omega
theorem join_round (a b : BitVec 32) (n t : Nat) : join a b ((n + t * 2147483647 : Nat) : Int) = join a b n := by
  rw [join_nat, join_nat, ← it_mod (8 * (n + t * 2147483647)), ← it_mod (8 * n)]
  congr 2; omega
/-! ### Three lists -/
def xr (l m : List (BitVec 8)) : List (BitVec 8) := List.zipWith (· ^^^ ·) l m
theorem rg_xr : ∀ (l m : List (BitVec 8)) (r s : BitVec 32), l.length = m.length → rg (r ^^^ s) (xr l m) = rg r l ^^^ rg s m := by
  intro l
  induction l with
  | nil => intro m r s h; cases m <;> simp_all [xr, rg]
  | cons x l ih =>
    intro m r s h
    cases m with
    | nil => simp at h
    | cons y m =>
      have hx : tk (r ^^^ s) (x ^^^ y) = tk r x ^^^ tk s y := by
        unfold tk
        rw [← it_xor]
        congr 1
        rw [BitVec.setWidth_xor]; ac_rfl
      show rg (tk (r ^^^ s) (x ^^^ y)) (xr l m) = _
      rw [hx, ih m _ _ (by simpa using h), rg_cons, rg_cons]
theorem xr_length (l m : List (BitVec 8)) : (xr l m).length = min l.length m.length := by simp [xr]
theorem sum_rg (l : List (BitVec 8)) : sum l = rg (~~~ 0#32) l ^^^ 4294967295#32 := by
  unfold sum upd
  rw [not_eq (rg _ _)]
theorem sum_three (x y z : List (BitVec 8)) (h1 : x.length = y.length) (h2 : y.length = z.length) : sum (xr (xr x y) z) = sum x ^^^ sum y ^^^ sum z := by
  rw [sum_rg, sum_rg x, sum_rg y, sum_rg z]
  have e : ~~~ (0#32) = ~~~ (0#32) ^^^ ~~~ (0#32) ^^^ ~~~ (0#32) := by decide
  conv => lhs; rw [e]
  rw [rg_xr _ _ _ _ (by rw [xr_length]; omega), rg_xr _ _ _ _ h1]
  have f : ∀ a b c d : BitVec 32, a ^^^ b ^^^ c ^^^ d = a ^^^ d ^^^ (b ^^^ d) ^^^ (c ^^^ d) := by
    intro a b c d
    have : a ^^^ d ^^^ (b ^^^ d) ^^^ (c ^^^ d) = a ^^^ b ^^^ c ^^^ d ^^^ (d ^^^ d) := by ac_rfl
    rw [this, BitVec.xor_self, BitVec.xor_zero]
  exact f _ _ _ _
/-! ### Bits that are turned -/
/-- One bit turned, counted from the first byte on, in each byte from its lowest one. -/
def turn (l : List (BitVec 8)) (k : Nat) : List (BitVec 8) := l.set (k / 8) (l.getD (k / 8) 0#8 ^^^ (1#8 <<< (k % 8)))
theorem turn_length (l : List (BitVec 8)) (k : Nat) : (turn l k).length = l.length := by simp [turn]
theorem bit8 (m : Nat) (h : m < 8) : it 8 ((1#8 <<< m).setWidth 32) = it (8 - m) 1#32 := by
  have : ∀ m : Fin 8, it 8 ((1#8 <<< m.val).setWidth 32) = it (8 - m.val) 1#32 := by decide +kernel
  exact this ⟨m, h⟩
theorem rg_turn : ∀ (l : List (BitVec 8)) (k : Nat) (r : BitVec 32), k < 8 * l.length → rg r (turn l k) = rg r l ^^^ it (8 * l.length - k) 1#32 := by
  intro l
  induction l with
  | nil => intro k r h; simp at h
  | cons x l ih =>
    intro k r h
    by_cases h8 : k < 8
    · have e : turn (x :: l) k = (x ^^^ (1#8 <<< k)) :: l := by
        simp [turn, show k / 8 = 0 by omega, show k % 8 = k by omega]
      rw [e, rg_cons, rg_cons]
      have e2 : tk r (x ^^^ (1#8 <<< k)) = it 8 ((1#8 <<< k).setWidth 32) ^^^ tk r x := by
        unfold tk
        rw [← it_xor]
        congr 1
        rw [BitVec.setWidth_xor]; ac_rfl
      rw [e2, rg_xor, bit8 k h8, ← it_add, BitVec.xor_comm]
      congr 2
      simp; omega
    · have e : turn (x :: l) k = x :: turn l (k - 8) := by
        obtain ⟨j, rfl⟩ : ∃ j, k = j + 8 := ⟨k - 8, by omega⟩
        simp [turn, show (j + 8) / 8 = j / 8 + 1 by omega, List.getD]
      rw [e, rg_cons, rg_cons, ih (k - 8) _ (by simp at h; omega)]
      congr 2
      simp; omega
theorem sum_turn (l : List (BitVec 8)) (k : Nat) (h : k < 8 * l.length) : sum (turn l k) = sum l ^^^ it (8 * l.length - k) 1#32 := by
  rw [sum_rg, sum_rg l, rg_turn l k _ h]
  ac_rfl
/-- Many bits turned. -/
def turns (l : List (BitVec 8)) (ks : List Nat) : List (BitVec 8) := ks.foldl turn l
def dif (n : Nat) : List Nat → BitVec 32
  | [] => 0#32
  | k :: ks => it (8 * n - k) 1#32 ^^^ dif n ks
theorem turns_snoc (l : List (BitVec 8)) (ks : List Nat) (k : Nat) : turns l (ks ++ [k]) = turn (turns l ks) k := by simp [turns]
theorem turns_length (ks : List Nat) : ∀ l : List (BitVec 8), (turns l ks).length = l.length := by
  induction ks with
  | nil => intro l; rfl
  | cons k ks ih => intro l; show (turns (turn l k) ks).length = _; rw [ih, turn_length]
theorem sum_turns (ks : List Nat) : ∀ l : List (BitVec 8), (∀ k ∈ ks, k < 8 * l.length) → sum (turns l ks) = sum l ^^^ dif l.length ks := by
  induction ks with
  | nil => intro l _; simp [turns, dif]
  | cons k ks ih =>
    intro l h
    show sum (turns (turn l k) ks) = _
    rw [ih _ (fun j hj => by rw [turn_length]; exact h j (by simp [hj])), sum_turn _ _ (h k (by simp)), turn_length, dif, BitVec.xor_assoc]
/-! ### An odd number of them -/
def par (r : BitVec 32) : Nat → Bool
  | 0 => false
  | k + 1 => par r k ^^ r.getLsbD k
theorem par_xor (a b : BitVec 32) (k : Nat) : par (a ^^^ b) k = (par a k ^^ par b k) := by
  induction k with
  | zero => rfl
  | succ k ih =>
    simp only [par, ih, BitVec.getLsbD_xor]
    cases par a k <;> cases par b k <;> cases a.getLsbD k <;> cases b.getLsbD k <;> rfl
theorem par_shift (a : BitVec 32) (k : Nat) : par (a >>> 1) k = (par a (k + 1) ^^ a.getLsbD 0) := by
  induction k with
  | zero => simp [par]
  | succ k ih =>
    show (par (a >>> 1) k ^^ (a >>> 1).getLsbD k) = ((par a (k + 1) ^^ a.getLsbD (k + 1)) ^^ a.getLsbD 0)
    rw [ih, BitVec.getLsbD_ushiftRight, show 1 + k = k + 1 by omega]
    generalize par a (k + 1) = q
    cases q <;> cases a.getLsbD 0 <;> cases a.getLsbD (k + 1) <;> rfl
theorem par_stp (r : BitVec 32) : par (stp r) 32 = par r 32 := by
  have h33 : par r 33 = par r 32 := by
    rw [par, BitVec.getLsbD_of_ge r 32 (by omega)]; simp
  unfold stp
  cases hb : r.getLsbD 0
  · simp only [Bool.false_eq_true, if_false]
    rw [par_shift, h33, hb]; simp
  · simp only [if_true]
    rw [par_xor, par_shift, h33, hb, show par poly 32 = true by decide]
    cases par r 32 <;> rfl
theorem par_it (k : Nat) : ∀ r, par (it k r) 32 = par r 32 := by
  induction k with
  | zero => intro r; rfl
  | succ k ih => intro r; rw [it, ih, par_stp]
theorem par_dif (n : Nat) (ks : List Nat) : par (dif n ks) 32 = decide (ks.length % 2 = 1) := by
  induction ks with
  | nil => show par 0#32 32 = false; decide
  | cons k ks ih =>
    rw [dif, par_xor, par_it, ih, show par 1#32 32 = true by decide]
    by_cases h : ks.length % 2 = 1
    · have : ¬ (k :: ks).length % 2 = 1 := by simp; omega
      rw [decide_eq_true h, decide_eq_false this]; rfl
    · have : (k :: ks).length % 2 = 1 := by simp; omega
      rw [decide_eq_false h, decide_eq_true this]; rfl
theorem xor_ne {a d : BitVec 32} (h : d ≠ 0#32) : a ≠ a ^^^ d := by
  intro e
  apply h
  have : a ^^^ a = a ^^^ (a ^^^ d) := by rw [← e]
  rw [BitVec.xor_self, ← BitVec.xor_assoc, BitVec.xor_self, BitVec.zero_xor] at this
  exact this.symm
theorem sum_odd (l : List (BitVec 8)) (ks : List Nat) (h : ∀ k ∈ ks, k < 8 * l.length) (ho : ks.length % 2 = 1) : sum l ≠ sum (turns l ks) := by
  rw [sum_turns ks l h]
  apply xor_ne
  intro e
  have := par_dif l.length ks
  rw [e, decide_eq_true ho] at this
  exact absurd this (by decide)
/-! ### Two of them -/
def chk : Nat → Nat → Bool
  | lo, 0 => 2147483647 % lo != 0
  | lo, k + 1 => chk lo k && chk (lo + 2 ^ k) k
theorem chk_spec : ∀ (k lo : Nat), chk lo k = true → ∀ d, lo ≤ d → d < lo + 2 ^ k → 2147483647 % d ≠ 0 := by
  intro k
  induction k with
  | zero => intro lo h d h1 h2; obtain rfl : d = lo := by simp at h2; omega
            simpa [chk] using h
  | succ k ih =>
    intro lo h d h1 h2
    simp only [chk, Bool.and_eq_true] at h
    by_cases hd : d < lo + 2 ^ k
    · exact ih lo h.1 d h1 hd
    · exact ih (lo + 2 ^ k) h.2 d (by omega) (by rw [Nat.pow_succ] at h2; omega)
theorem chk_p : chk 2 16 = true := by decide +kernel
/-- 2^31 - 1 has no divisor but 1 and itself. -/
theorem p_prime (d : Nat) (h : 2147483647 % d = 0) (h2 : d < 2147483647) : d = 1 := by
  have hd : d * (2147483647 / d) = 2147483647 := by have := Nat.div_add_mod 2147483647 d; omega
  obtain ⟨e, he⟩ : ∃ e, 2147483647 / d = e := ⟨_, rfl⟩
  rw [he] at hd
  have h0 : d ≠ 0 := by rintro rfl; simp at hd
  have he0 : e ≠ 0 := by rintro rfl; simp at hd
  have key : ∀ x y : Nat, x * y = 2147483647 → x ≤ y → x = 1 := by
    intro x y hxy hle
    have hx0 : x ≠ 0 := by rintro rfl; simp at hxy
    by_cases h1 : x = 1
    · exact h1
    · exfalso
      have hlt : x < 65538 := by
        rcases Nat.lt_or_ge x 65538 with h | h
        · exact h
        · have : 65538 * 65538 ≤ x * y := Nat.mul_le_mul h (by omega)
          omega
      exact chk_spec 16 2 chk_p x (by omega) (by omega) (by rw [← hxy]; exact Nat.mul_mod_right x y)
  rcases Nat.le_total d e with h1 | h1
  · exact key d e hd h1
  · have : e = 1 := key e d (by rw [Nat.mul_comm]; exact hd) h1
    subst this; omega
/-- How many steps bring 1 back: none but the period's multiples. -/
theorem back_mod {a b : Nat} (ha : it a 1#32 = 1#32) (hb : it b 1#32 = 1#32) : it (a % b) 1#32 = 1#32 := by
  have hm : ∀ m, it (b * m) 1#32 = 1#32 := by
    intro m
    induction m with
    | zero => rfl
    | succ m ih => rw [Nat.mul_succ, it_add, ih, hb]
  rw [← Nat.div_add_mod a b, it_add, hm] at ha
  exact ha
theorem back_gcd (a b : Nat) (ha : it a 1#32 = 1#32) (hb : it b 1#32 = 1#32) : it (Nat.gcd a b) 1#32 = 1#32 := by
  induction a, b using Nat.gcd.induction with
  | H0 n => simpa using hb
  | H1 m n h ih => rw [Nat.gcd_rec]; exact ih (back_mod hb ha) ha
theorem back_none (d : Nat) (h0 : 0 < d) (h : d < 2147483647) : it d 1#32 ≠ 1#32 := by
  intro e
  have hg := back_gcd d 2147483647 e it_p_one
  have hdiv : Nat.gcd d 2147483647 ∣ 2147483647 := Nat.gcd_dvd_right _ _
  have hle : Nat.gcd d 2147483647 ≤ d := Nat.gcd_le_left _ h0
  have h1 := p_prime (Nat.gcd d 2147483647) (Nat.mod_eq_zero_of_dvd hdiv) (by omega)
  rw [h1] at hg
  exact absurd hg (by decide)
theorem it_ne {a b : Nat} (h : a ≠ b) (ha : a < 2147483647) (hb : b < 2147483647) : it a 1#32 ≠ it b 1#32 := by
  intro e
  rcases Nat.lt_or_gt_of_ne h with h1 | h1
  · have : it a (it (b - a) 1#32) = it a 1#32 := by rw [← it_add, show b - a + a = b by omega, e]
    exact back_none (b - a) (by omega) (by omega) (it_inj a this)
  · have : it b (it (a - b) 1#32) = it b 1#32 := by rw [← it_add, show a - b + b = a by omega, e]
    exact back_none (a - b) (by omega) (by omega) (it_inj b this)
/-- Two lists that differ in two bits alone. -/
theorem sum_two (l : List (BitVec 8)) (i k : Nat) (hi : i < 8 * l.length) (hk : k < 8 * l.length) (hl : 8 * l.length < 2147483647) : (sum l != sum (turn (turn l i) k)) = (i != k) := by
  have e : sum (turn (turn l i) k) = sum l ^^^ (it (8 * l.length - i) 1#32 ^^^ it (8 * l.length - k) 1#32) := by
    rw [sum_turn _ _ (by rw [turn_length]; exact hk), sum_turn _ _ hi, turn_length, BitVec.xor_assoc]
  rw [e]
  by_cases h : i = k
  · subst h; simp
  · have h1 := it_ne (a := 8 * l.length - i) (b := 8 * l.length - k) (by omega) (by omega) (by omega)
    have h2 : it (8 * l.length - i) 1#32 ^^^ it (8 * l.length - k) 1#32 ≠ 0#32 := by
      intro e0
      apply h1
      have : it (8 * l.length - i) 1#32 ^^^ it (8 * l.length - k) 1#32 ^^^ it (8 * l.length - k) 1#32 = 0#32 ^^^ it (8 * l.length - k) 1#32 := by rw [e0]
      rw [BitVec.xor_assoc, BitVec.xor_self, BitVec.xor_zero, BitVec.zero_xor] at this
      exact this
    have h3 := xor_ne (a := sum l) h2
    rw [bne_iff_ne.2 h3, bne_iff_ne.2 h]
theorem sum_bit (m : Nat) (h : m < 8) : sum [1#8 <<< m] ^^^ sum [0#8] = it (8 - m) 1#32 := by
  have : ∀ m : Fin 8, sum [1#8 <<< m.val] ^^^ sum [0#8] = it (8 - m.val) 1#32 := by decide +kernel
  exact this ⟨m, h⟩
/-- The first bit, so far ahead of the second one. -/
theorem far_ne (f m : Nat) (hm : m < 8) (hf : f < 268435454) : join (sum [1#8]) 0#32 ((f + 1 : Nat) : Int) ^^^ join (sum [0#8]) 0#32 ((f + 1 : Nat) : Int) ≠ sum [1#8 <<< m] ^^^ sum [0#8] := by
  rw [join_nat, join_nat, BitVec.xor_zero, BitVec.xor_zero, ← it_xor, sum_bit m hm, show sum [1#8] ^^^ sum [0#8] = it 8 1#32 from sum_bit 0 (by omega), ← it_add]
  exact it_ne (by omega) (by omega) (by omega)
/-! ### A burst -/
/-- The places that are turned, of the first m of a pattern from b on, below n. -/
def bks (b : Nat) (p : BitVec 32) (n : Nat) : Nat → List Nat
  | 0 => []
  | m + 1 => if p.getLsbD m && decide (b + m < n) then bks b p n m ++ [b + m] else bks b p n m
theorem bks_lt (b : Nat) (p : BitVec 32) (n m : Nat) : ∀ k ∈ bks b p n m, k < n := by
  induction m with
  | zero => intro k hk; simp [bks] at hk
  | succ m ih =>
    intro k hk
    simp only [bks] at hk
    split at hk
    · rename_i h
      simp only [Bool.and_eq_true, decide_eq_true_eq] at h
      rcases List.mem_append.1 hk with h1 | h1
      · exact ih k h1
      · simp at h1; omega
    · exact ih k hk
theorem dif_snoc (n : Nat) (ks : List Nat) (k : Nat) : dif n (ks ++ [k]) = dif n ks ^^^ it (8 * n - k) 1#32 := by
  induction ks with
  | nil => simp [dif]
  | cons j ks ih => simp only [List.cons_append, dif, ih]; ac_rfl
theorem dif_bks (b : Nat) (p : BitVec 32) (n m : Nat) (hb : b < 8 * n) (hm : m ≤ 32) : dif n (bks b p (8 * n) m) = it (8 * n - b) (low p (min m (8 * n - b))) := by
  induction m with
  | zero => simp [bks, dif, low, it_zero]
  | succ m ih =>
    have ih' := ih (by omega)
    simp only [bks]
    by_cases hlt : b + m < 8 * n
    · rw [show min (m + 1) (8 * n - b) = m + 1 by omega]
      rw [show min m (8 * n - b) = m by omega] at ih'
      simp only [low]
      cases hp : p.getLsbD m
      · simp [ih']
      · simp only [hlt, decide_true, Bool.and_true, if_true]
        rw [dif_snoc, ih', it_xor]
        congr 1
        have : it (8 * n - b) (1#32 <<< m) = it (8 * n - (b + m)) (it m (1#32 <<< m)) := by
          rw [← it_add]; congr 1; omega
        rw [this, it_bit m (by omega)]
    · rw [show min (m + 1) (8 * n - b) = 8 * n - b by omega]
      rw [show min m (8 * n - b) = 8 * n - b by omega] at ih'
      simp [hlt, ih']
theorem bks_some (b : Nat) (p : BitVec 32) (n m : Nat) (h : bks b p n m ≠ []) : ∃ i, i < m ∧ p.getLsbD i = true ∧ b + i < n := by
  induction m with
  | zero => exact absurd rfl h
  | succ m ih =>
    simp only [bks] at h
    split at h
    · rename_i h1
      simp only [Bool.and_eq_true, decide_eq_true_eq] at h1
      exact ⟨m, by omega, h1.1, h1.2⟩
    · obtain ⟨i, h1, h2, h3⟩ := ih h
      exact ⟨i, by omega, h2, h3⟩
theorem sum_burst (l : List (BitVec 8)) (b : Nat) (p : BitVec 32) (hb : b < 8 * l.length) : (sum l != sum (turns l (bks b p (8 * l.length) 32))) = !(bks b p (8 * l.length) 32).isEmpty := by
  rw [sum_turns _ l (bks_lt b p _ 32)]
  by_cases h : bks b p (8 * l.length) 32 = []
  · rw [h]; simp [dif]
  · have hd : dif l.length (bks b p (8 * l.length) 32) ≠ 0#32 := by
      rw [dif_bks b p l.length 32 hb (by omega)]
      intro e
      rw [← it_zero (8 * l.length - b)] at e
      have e2 := it_inj _ e
      obtain ⟨i, h1, h2, h3⟩ := bks_some b p _ 32 h
      have := congrArg (fun x => x.getLsbD i) e2
      simp only [low_bit p (min 32 (8 * l.length - b)) i (by omega), h2, Bool.and_true] at this
      rw [decide_eq_true (by omega)] at this
      simp at this
    rw [bne_iff_ne.2 (xor_ne hd)]
    cases hk : bks b p (8 * l.length) 32 with
    | nil => exact absurd hk h
    | cons _ _ => rfl
/-! ### A sum behind its bytes -/
def le4 (s : BitVec 32) : List (BitVec 8) := [s.setWidth 8, (s >>> 8).setWidth 8, (s >>> 16).setWidth 8, (s >>> 24).setWidth 8]
theorem it_up (k : Nat) (z : BitVec 8) (hk : k ≤ 24) : it k (z.setWidth 32 <<< k) = z.setWidth 32 := by
  rw [it_low]
  · apply BitVec.eq_of_getLsbD_eq
    intro i hi
    rw [BitVec.getLsbD_ushiftRight, BitVec.getLsbD_shiftLeft]
    by_cases h : k + i < 32
    · simp [h, show k + i - k = i by omega]
    · have : z.getLsbD i = false := BitVec.getLsbD_of_ge z i (by omega)
      simp [h, this]
  · intro i hi
    rw [BitVec.getLsbD_shiftLeft]; simp [hi]
theorem parts4 (s : BitVec 32) : s = (s.setWidth 8).setWidth 32 ^^^ (((s >>> 8).setWidth 8).setWidth 32 <<< 8) ^^^ (((s >>> 16).setWidth 8).setWidth 32 <<< 16) ^^^ (((s >>> 24).setWidth 8).setWidth 32 <<< 24) := by
  apply BitVec.eq_of_getLsbD_eq
  intro i hi
  simp only [BitVec.getLsbD_xor, BitVec.getLsbD_setWidth, BitVec.getLsbD_shiftLeft, BitVec.getLsbD_ushiftRight]
  by_cases h1 : i < 8
  · simp [h1, show i < 16 by omega, show i < 24 by omega, hi]
  · by_cases h2 : i < 16
    · simp [h1, h2, show i < 24 by omega, hi, show i - 8 < 8 by omega, show i - 8 < 32 by omega, show 8 + (i - 8) = i by omega]
    · by_cases h3 : i < 24
      · simp [h1, h2, h3, hi, show ¬ i - 8 < 8 by omega, show i - 16 < 8 by omega, show i - 16 < 32 by omega, show 16 + (i - 16) = i by omega]
      · simp [h1, h2, h3, hi, show ¬ i - 8 < 8 by omega, show ¬ i - 16 < 8 by omega, show i - 24 < 8 by omega, show i - 24 < 32 by omega, show 24 + (i - 24) = i by omega]
theorem rg_le4 (r s : BitVec 32) : rg r (le4 s) = it 32 (r ^^^ s) := by
  conv => rhs; rw [parts4 s]
  unfold le4
  generalize (s.setWidth 8) = z0
  generalize ((s >>> 8).setWidth 8) = z1
  generalize ((s >>> 16).setWidth 8) = z2
  generalize ((s >>> 24).setWidth 8) = z3
  have e1 : it 32 (z1.setWidth 32 <<< 8) = it 24 (z1.setWidth 32) := (it_add 8 24 _).trans (by rw [it_up 8 z1 (by omega)])
  have e2 : it 32 (z2.setWidth 32 <<< 16) = it 16 (z2.setWidth 32) := (it_add 16 16 _).trans (by rw [it_up 16 z2 (by omega)])
  have e3 : it 32 (z3.setWidth 32 <<< 24) = it 8 (z3.setWidth 32) := (it_add 24 8 _).trans (by rw [it_up 24 z3 (by omega)])
  have a16 : ∀ x, it 8 (it 8 x) = it 16 x := fun x => (it_add 8 8 x).symm
  have a24 : ∀ x, it 8 (it 16 x) = it 24 x := fun x => (it_add 16 8 x).symm
  have a32 : ∀ x, it 8 (it 24 x) = it 32 x := fun x => (it_add 24 8 x).symm
  have hL : rg r [z0, z1, z2, z3] = it 8 (it 8 (it 8 (it 8 (r ^^^ z0.setWidth 32) ^^^ z1.setWidth 32) ^^^ z2.setWidth 32) ^^^ z3.setWidth 32) := rfl
  rw [hL]
  simp only [it_xor, a16, a24, a32, e1, e2, e3, BitVec.xor_assoc]
theorem sum_behind (l : List (BitVec 8)) : sum (l ++ le4 (sum l)) = 1214729159#32 := by
  unfold sum upd
  rw [rg_app, rg_le4]
  have : ∀ x : BitVec 32, x ^^^ ~~~ x = 4294967295#32 := by
    intro x; rw [not_eq, ← BitVec.xor_assoc, BitVec.xor_self, BitVec.zero_xor]
  rw [this]
  decide +kernel
end Go.Proofs.YthaiibfnjgfgjaaDoor.Crc
