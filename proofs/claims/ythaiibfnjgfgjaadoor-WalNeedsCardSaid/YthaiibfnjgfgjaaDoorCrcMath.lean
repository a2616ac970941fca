/- The plain law of CRC-32C: registers as bit vectors. No program in sight. -/
namespace Go.Proofs.YthaiibfnjgfgjaaDoor.Crc
def poly : BitVec 32 := 0x82F63B78#32
/-- One step of a register. -/
def stp (r : BitVec 32) : BitVec 32 := if r.getLsbD 0 then (r >>> 1) ^^^ poly else r >>> 1
/-- So many steps. -/
def it : Nat → BitVec 32 → BitVec 32
  | 0, r => r
  | k + 1, r => it k (stp r)
theorem it_add (m n : Nat) (r : BitVec 32) : it (m + n) r = it n (it m r) := by
  induction m generalizing r with
  | zero => simp [it]
  | succ m ih => rw [show m + 1 + n = (m + n) + 1 by omega]; exact ih (stp r)
theorem it_succ' (k : Nat) (r : BitVec 32) : it (k + 1) r = stp (it k r) := it_add k 1 r
/-- A byte is taken in. -/
def tk (r : BitVec 32) (x : BitVec 8) : BitVec 32 := it 8 (r ^^^ x.setWidth 32)
def rg (r : BitVec 32) (l : List (BitVec 8)) : BitVec 32 := l.foldl tk r
def upd (c : BitVec 32) (l : List (BitVec 8)) : BitVec 32 := ~~~ (rg (~~~ c) l)
def sum (l : List (BitVec 8)) : BitVec 32 := upd 0#32 l
/-- The table of the half bytes. -/
def tab : List (BitVec 32) := [0#32, 274646895#32, 549293790#32, 820201905#32, 1098587580#32, 1361435347#32, 1640403810#32, 1905808397#32, 2197175160#32, 2460548119#32, 2722870694#32, 2987750089#32, 3280807620#32, 3553878443#32, 3811616794#32, 4084100981#32]
def hf (i : BitVec 32) : BitVec 32 := tab.getD i.toNat 0#32
theorem xor_shift (a b : BitVec 32) (n : Nat) : (a ^^^ b) >>> n = (a >>> n) ^^^ (b >>> n) := BitVec.ushiftRight_xor_distrib a b n
theorem stp_xor (a b : BitVec 32) : stp (a ^^^ b) = stp a ^^^ stp b := by
  unfold stp
  rw [BitVec.getLsbD_xor, xor_shift]
  cases ha : a.getLsbD 0 <;> cases hb : b.getLsbD 0 <;> simp
  · ac_rfl
  · ac_rfl
  · have : a >>> 1 ^^^ poly ^^^ (b >>> 1 ^^^ poly) = a >>> 1 ^^^ b >>> 1 ^^^ (poly ^^^ poly) := by ac_rfl
    rw [this, BitVec.xor_self, BitVec.xor_zero]
theorem it_xor (k : Nat) (a b : BitVec 32) : it k (a ^^^ b) = it k a ^^^ it k b := by
  induction k generalizing a b with
  | zero => rfl
  | succ k ih => simp only [it, stp_xor, ih]
theorem stp_zero : stp 0#32 = 0#32 := by decide
theorem it_zero (k : Nat) : it k 0#32 = 0#32 := by
  induction k with
  | zero => rfl
  | succ k ih => simp only [it, stp_zero, ih]
/-- A register whose low bits are 0 only goes down. -/
theorem stp_even (r : BitVec 32) (h : r.getLsbD 0 = false) : stp r = r >>> 1 := by unfold stp; rw [h]; rfl
theorem it_low (k : Nat) (r : BitVec 32) (h : ∀ i, i < k → r.getLsbD i = false) : it k r = r >>> k := by
  induction k generalizing r with
  | zero => simp [it]
  | succ k ih =>
    simp only [it]
    rw [stp_even r (h 0 (by omega)), ih (r >>> 1) (fun i hi => by rw [BitVec.getLsbD_ushiftRight]; exact h (1 + i) (by omega)), ← BitVec.shiftRight_add]
    rw [Nat.add_comm]
theorem tab_all : ∀ i : Fin 16, it 4 (BitVec.ofNat 32 i.val) = hf (BitVec.ofNat 32 i.val) := by decide +kernel
theorem low_lt (r : BitVec 32) : (r &&& 15#32).toNat < 16 := by
  rw [BitVec.toNat_and]; exact Nat.lt_of_le_of_lt Nat.and_le_right (by decide)
theorem it4 (r : BitVec 32) : it 4 r = hf (r &&& 15#32) ^^^ (r >>> 4) := by
  have e : r = (r &&& 15#32) ^^^ (r &&& ~~~15#32) := by
    ext i hi
    simp only [BitVec.getElem_xor, BitVec.getElem_and, BitVec.getElem_not]
    cases r[i] <;> cases (15#32)[i] <;> rfl
  have h1 : it 4 (r &&& 15#32) = hf (r &&& 15#32) := by
    have := tab_all ⟨(r &&& 15#32).toNat, low_lt r⟩
    simpa using this
  have h2 : it 4 (r &&& ~~~15#32) = r >>> 4 := by
    rw [it_low]
    · ext i hi
      simp only [BitVec.getElem_ushiftRight, BitVec.getLsbD_and]
      by_cases h : 4 + i < 32
      · have hh : ∀ j : Fin 28, (~~~15#32 : BitVec 32).getLsbD (4 + j.val) = true := by decide
        rw [hh ⟨i, by omega⟩]; simp
      · simp [BitVec.getLsbD_of_ge _ _ (show 32 ≤ 4 + i by omega)]
    · intro i hi
      rw [BitVec.getLsbD_and]
      have hh : ∀ j : Fin 4, (~~~15#32 : BitVec 32).getLsbD j.val = false := by decide
      rw [hh ⟨i, hi⟩]; simp
  conv => lhs; rw [e]
  rw [it_xor, h1, h2]
theorem it8 (r : BitVec 32) : it 8 r = it 4 (it 4 r) := it_add 4 4 r
/-- The program's way of a byte. -/
theorem tk_half (r : BitVec 32) (x : BitVec 8) : tk r x = hf ((hf ((r ^^^ x.setWidth 32) &&& 15#32) ^^^ ((r ^^^ x.setWidth 32) >>> 4)) &&& 15#32) ^^^ ((hf ((r ^^^ x.setWidth 32) &&& 15#32) ^^^ ((r ^^^ x.setWidth 32) >>> 4)) >>> 4) := by
  unfold tk
  rw [it8, it4 (r ^^^ x.setWidth 32), it4]
theorem rg_snoc (r : BitVec 32) (l : List (BitVec 8)) (k : Nat) (h : k < l.length) : rg r (l.take (k + 1)) = tk (rg r (l.take k)) (l.getD k 0#8) := by
  unfold rg
  rw [List.take_succ_eq_append_getElem h, List.foldl_append]
  simp [List.getD, h]
theorem rg_all (r : BitVec 32) (l : List (BitVec 8)) (k : Nat) (h : l.length ≤ k) : rg r (l.take k) = rg r l := by rw [List.take_of_length_le h]
theorem rg_app (r : BitVec 32) (l m : List (BitVec 8)) : rg r (l ++ m) = rg (rg r l) m := by unfold rg; rw [List.foldl_append]
theorem upd_app (c : BitVec 32) (l m : List (BitVec 8)) : upd c (l ++ m) = upd (upd c l) m := by unfold upd; rw [rg_app]; simp
end Go.Proofs.YthaiibfnjgfgjaaDoor.Crc
