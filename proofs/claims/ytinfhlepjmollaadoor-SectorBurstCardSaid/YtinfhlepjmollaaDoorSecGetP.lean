/- What Get answers: pure; a reader as a thing of a bag. -/
import Derived.Test.YtinfhlepjmollaaDoorSecPut
namespace Go.Proofs.YtinfhlepjmollaaDoor
open Go.RowKit
def Sec.zero : Sec := ⟨[], 0, 0, 0, []⟩
def getV (b : List (BitVec 8)) : Sec := (getS b).getD Sec.zero
def getE (b : List (BitVec 8)) : Int := if (getS b).isSome then 0 else 117
theorem val_lt (l : List (BitVec 8)) : ∀ k, l.length = k → k ≤ 8 → (val l).toNat < 2 ^ (8 * k) := by
  intro k
  induction k generalizing l with
  | zero =>
    intro h _
    obtain rfl := List.length_eq_zero_iff.1 h
    simp [val]
  | succ k ih =>
    intro h hk
    obtain ⟨m, c, rfl⟩ : ∃ m c, l = m ++ [c] := by
      have hk2 : k < l.length := by omega
      refine ⟨l.take k, l[k], ?_⟩
      rw [← List.take_succ_eq_append_getElem hk2, List.take_of_length_le (by omega)]
    have h1 := ih m (by simpa using h) (by omega)
    rw [val_snoc]
    have h2 : (val m <<< 8).toNat < 2 ^ (8 * (k + 1)) := by
      rw [BitVec.toNat_shiftLeft, Nat.shiftLeft_eq]
      refine Nat.lt_of_le_of_lt (Nat.mod_le _ _) ?_
      have : 2 ^ (8 * (k + 1)) = 2 ^ (8 * k) * 2 ^ 8 := by rw [← Nat.pow_add]; congr 1
      rw [this]
      exact Nat.mul_lt_mul_of_pos_right h1 (by decide)
    rw [BitVec.toNat_or]
    refine Nat.or_lt_two_pow h2 ?_
    have h3 := c.isLt
    rw [BitVec.toNat_setWidth]
    refine Nat.lt_of_le_of_lt (Nat.mod_le _ _) (Nat.lt_of_lt_of_le h3 (Nat.pow_le_pow_right (by decide) (by omega)))
theorem getS_len {b : List (BitVec 8)} (h : b.length ≠ 512) : getS b = none := by
  unfold getS
  rw [if_neg]
  rintro ⟨h1, h2⟩
  exact h (by rw [← h2]; exact bytes_len h1)
theorem getS_no {b : List (BitVec 8)} (h : ¬ ((readS b).may = true ∧ (readS b).bytes = b)) : getS b = none := if_neg h
theorem getS_yes {b : List (BitVec 8)} (h1 : (readS b).may = true) (h2 : (readS b).bytes = b) : getS b = some (readS b) := if_pos ⟨h1, h2⟩
theorem getV_none {b : List (BitVec 8)} (h : getS b = none) : getV b = Sec.zero ∧ getE b = 117 := by simp [getV, getE, h]
theorem getV_some {b : List (BitVec 8)} {S : Sec} (h : getS b = some S) : getV b = S ∧ getE b = 0 := by simp [getV, getE, h]
/-- A reader. -/
def It.rdr (p g : Nat) (l : List (BitVec 8)) (k : Nat) (e : Int) : It where
  ats j := j = p ∨ j = g
  holds W := Rdr W p g l k e
  lt := by
    rintro W j h (rfl | rfl)
    · exact h.lt
    · exact h.lt'
  keep := fun _ _ h hk => h.kept (hk p (Or.inl rfl)) (hk g (Or.inr rfl))
theorem Bag.rdr {w W W' : World} {l : List It} (h : Bag w W l) (hb : Below W.heap.size W W') {p g : Nat} {m : List (BitVec 8)} {k : Nat} {e : Int} (hp : W.heap.size ≤ p) (hg : W.heap.size ≤ g) (hr : Rdr W' p g m k e) : Bag w W' (.rdr p g m k e :: l) :=
  h.cons hb hr (by rintro j (rfl | rfl) <;> assumption)
theorem Bag.rdrAt {w W : World} {l : List It} (h : Bag w W l) (i : Nat) {p g : Nat} {m : List (BitVec 8)} {k : Nat} {e : Int} (hi : l[i]? = some (.rdr p g m k e)) : Rdr W p g m k e := h.holds i _ hi
theorem Bag.rdrTurn {w W W' : World} {l : List It} (h : Bag w W l) (i : Nat) {p g : Nat} {m : List (BitVec 8)} {k k' : Nat} {e e' : Int} (hi : l[i]? = some (.rdr p g m k e)) (ho : Only (fun j => j = p) W W') (hr : Rdr W' p g m k' e') : Bag w W' (l.set i (.rdr p g m k' e')) :=
  h.turn i hi ho (fun _ h => Or.inl h) hr (fun _ h => Or.inl h)
theorem cvRun (w : World) (ao : Option Addr) (l : List (BitVec 8)) (n cap : Nat) (hn : l.length = n) (hr : Rd w ao l) : (convert 22 9 (.slice ao n cap)).run Tryd.prog w = .ok (.string (str l)) w := by
  subst hn
  rcases Nat.eq_zero_or_pos l.length with h0 | h0
  · obtain rfl := List.length_eq_zero_iff.1 h0
    cases ao with
    | none =>
      rw [run_convert_bytes_nil w 22 5 Tryd.underlying22 Tryd.underlying5 _ _ 9 Tryd.underlying9]
      congr 2
      unfold str; rfl
    | some a =>
      have h := run_convert_bytes_back (P := Tryd.prog) w 22 9 5 a cap [] Tryd.underlying22 Tryd.underlying5 Tryd.underlying9 (fun j hj => by simp at hj)
      refine h.trans ?_
      congr 2
      unfold str; rfl
  · obtain ⟨b, o, rfl, hc⟩ := hr.at h0
    rw [run_convert_bytes_arg w 22 5 Tryd.underlying22 Tryd.underlying5 b o l.length cap (l.map n8) (by simp) (fun i hi => by rw [hc i hi]; simp [List.getD, hi]) 9 Tryd.underlying9, str_nums]
theorem str_nil : ({ data := #[] } : ByteArray) = str [] := by unfold str; rfl
end Go.Proofs.YtinfhlepjmollaaDoor
