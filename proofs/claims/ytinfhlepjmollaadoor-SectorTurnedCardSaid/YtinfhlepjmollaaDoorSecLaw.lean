/- What follows of a sector's bytes: there and back, one form, a byte or neighbouring bits turned are told. No program in sight. -/
import Derived.Test.YtinfhlepjmollaaDoorSecRight
namespace Go.Proofs.YtinfhlepjmollaaDoor
open Go.RowKit
theorem drop_app {α : Type} (a b : List α) (n k : Nat) (h : a.length = n) : (a ++ b).drop (n + k) = b.drop k := by
  rw [List.drop_append, List.drop_of_length_le (by omega), List.nil_append]
  congr 1; omega
theorem val_w64 (x : Int) (h0 : 0 ≤ x) (h1 : x ≤ 4611686018427387904) (n : Nat) (hn : n ≤ 8) (hx : x.toNat < 2 ^ (8 * n)) : ((val (be (w64 x) n)).toNat : Int) = x := by
  rw [val_be, BitVec.toNat_and, BitVec.toNat_ofNat]
  have hp : 2 ^ (8 * n) ≤ 2 ^ 64 := Nat.pow_le_pow_right (by decide) (by omega)
  have hp0 : 0 < 2 ^ (8 * n) := Nat.pow_pos (by decide)
  rw [Nat.mod_eq_of_lt (by omega), Nat.and_two_pow_sub_one_eq_mod]
  have : (w64 x).toNat = x.toNat := by simp only [w64, BitVec.toNat_ofNat]; omega
  rw [this, Nat.mod_eq_of_lt hx]
  omega
theorem readS_bytes {S : Sec} (h : S.may = true) : readS S.bytes = S := by
  obtain ⟨htag, ⟨hE0, hE1⟩, ⟨hS0, hS1⟩, ⟨hP0, hP1⟩, hL⟩ := may_iff.1 h
  have htl := tag_len htag
  obtain ⟨T, E, Q, P, B⟩ := S
  simp only at htl hE0 hE1 hS0 hS1 hP0 hP1 hL
  have e : Sec.bytes ⟨T, E, Q, P, B⟩ = T ++ (be (w64 E) 8 ++ (be (w64 Q) 8 ++ (be (w64 P) 4 ++ (be (BitVec.ofNat 64 B.length) 2 ++ ([0#8, 0#8] ++ (B ++ (List.replicate (480 - B.length) 0#8 ++ be ((Crc.sum (Sec.pre ⟨T, E, Q, P, B⟩)).setWidth 64) 4))))))) := by
    simp [Sec.bytes, sealed, Sec.pre, Sec.head, List.append_assoc]
  generalize be ((Crc.sum (Sec.pre ⟨T, E, Q, P, B⟩)).setWidth 64) 4 = s at e
  have bl : ∀ x n, (be x n).length = n := be_length
  have d4 : (Sec.bytes ⟨T, E, Q, P, B⟩).drop 4 = be (w64 E) 8 ++ (be (w64 Q) 8 ++ (be (w64 P) 4 ++ (be (BitVec.ofNat 64 B.length) 2 ++ ([0#8, 0#8] ++ (B ++ (List.replicate (480 - B.length) 0#8 ++ s)))))) := by
    rw [e]; exact drop_app _ _ 4 0 htl
  have d12 : (Sec.bytes ⟨T, E, Q, P, B⟩).drop 12 = be (w64 Q) 8 ++ (be (w64 P) 4 ++ (be (BitVec.ofNat 64 B.length) 2 ++ ([0#8, 0#8] ++ (B ++ (List.replicate (480 - B.length) 0#8 ++ s))))) := by
    rw [show 12 = 4 + 8 from rfl, ← List.drop_drop, d4]; exact drop_app _ _ 8 0 (bl _ _)
  have d20 : (Sec.bytes ⟨T, E, Q, P, B⟩).drop 20 = be (w64 P) 4 ++ (be (BitVec.ofNat 64 B.length) 2 ++ ([0#8, 0#8] ++ (B ++ (List.replicate (480 - B.length) 0#8 ++ s)))) := by
    rw [show 20 = 12 + 8 from rfl, ← List.drop_drop, d12]; exact drop_app _ _ 8 0 (bl _ _)
  have d24 : (Sec.bytes ⟨T, E, Q, P, B⟩).drop 24 = be (BitVec.ofNat 64 B.length) 2 ++ ([0#8, 0#8] ++ (B ++ (List.replicate (480 - B.length) 0#8 ++ s))) := by
    rw [show 24 = 20 + 4 from rfl, ← List.drop_drop, d20]; exact drop_app _ _ 4 0 (bl _ _)
  have d28 : (Sec.bytes ⟨T, E, Q, P, B⟩).drop 28 = B ++ (List.replicate (480 - B.length) 0#8 ++ s) := by
    rw [show 28 = (24 + 2) + 2 from rfl, ← List.drop_drop, ← List.drop_drop, d24]
    have := drop_app (be (BitVec.ofNat 64 B.length) 2) ([0#8, 0#8] ++ (B ++ (List.replicate (480 - B.length) 0#8 ++ s))) 2 0 (bl _ _)
    rw [show (2 : Nat) = 2 + 0 from rfl, this]
    rfl
  have t0 : (Sec.bytes ⟨T, E, Q, P, B⟩).take 4 = T := by rw [e]; exact List.take_left' htl
  have vE := val_w64 E (by omega) hE1 8 (by decide) (by omega)
  have vQ := val_w64 Q (by omega) hS1 8 (by decide) (by omega)
  have vP := val_w64 P (by omega) (by omega) 4 (by decide) (by omega)
  have vN : (val (be (BitVec.ofNat 64 B.length) 2)).toNat = B.length := by
    rw [val_be, BitVec.toNat_and, BitVec.toNat_ofNat, BitVec.toNat_ofNat]
    rw [show (2 ^ (8 * 2) - 1) % 2 ^ 64 = 2 ^ 16 - 1 by decide, Nat.and_two_pow_sub_one_eq_mod]
    omega
  unfold readS
  rw [t0, d4, d12, d20, d24, d28, List.take_left' (bl _ _), List.take_left' (bl _ _), List.take_left' (bl _ _), List.take_left' (bl _ _), vE, vQ, vP, vN, List.take_left' rfl]
theorem getS_bytes {S : Sec} (h : S.may = true) : getS S.bytes = some S := by
  have := getS_yes (b := S.bytes) (by rw [readS_bytes h]; exact h) (by rw [readS_bytes h])
  rw [this, readS_bytes h]
theorem getS_spec {b : List (BitVec 8)} {S : Sec} (h : getS b = some S) : S.may = true ∧ S.bytes = b := by
  unfold getS at h
  split at h
  · rename_i h1
    cases h
    exact h1
  · cases h
/-- Bytes of one length that are not a sector's any more: the first 508 turned so that the sum is another one. -/
theorem getS_sum {S : Sec} (_h : S.may = true) {P : List (BitVec 8)} {q : List (BitVec 8)} (hP : P.length = 508) (hq : q = be ((Crc.sum S.pre).setWidth 64) 4) (hne : Crc.sum P ≠ Crc.sum S.pre) : getS (P ++ q) = none := by
  cases hg : getS (P ++ q) with
  | none => rfl
  | some S' =>
    obtain ⟨h1, h2⟩ := getS_spec hg
    obtain ⟨h3, h4⟩ := List.append_inj (show S'.pre ++ be ((Crc.sum S'.pre).setWidth 64) 4 = P ++ q from h2) (by rw [pre_len h1, hP])
    rw [h3, hq] at h4
    have h5 := be_inj (by decide) (by rw [BitVec.toNat_setWidth]; have := (Crc.sum P).isLt; omega) (by rw [BitVec.toNat_setWidth]; have := (Crc.sum S.pre).isLt; omega) h4
    refine absurd ?_ hne
    have h6 := congrArg (BitVec.setWidth 32) h5
    simpa using h6
theorem getS_tail {S : Sec} (h : S.may = true) {q : List (BitVec 8)} (hq : q ≠ be ((Crc.sum S.pre).setWidth 64) 4) : getS (S.pre ++ q) = none := by
  cases hg : getS (S.pre ++ q) with
  | none => rfl
  | some S' =>
    obtain ⟨h1, h2⟩ := getS_spec hg
    obtain ⟨h3, h4⟩ := List.append_inj (show S'.pre ++ be ((Crc.sum S'.pre).setWidth 64) 4 = S.pre ++ q from h2) (by rw [pre_len h1, pre_len h])
    rw [h3] at h4
    exact absurd h4.symm hq
/-- One byte xored. -/
theorem rg_byte (x : BitVec 8) : ∀ (l : List (BitVec 8)) (i : Nat) (r : BitVec 32), i < l.length → Crc.rg r (l.set i (l.getD i 0#8 ^^^ x)) = Crc.rg r l ^^^ Crc.it (8 * (l.length - i)) (x.setWidth 32) := by
  intro l
  induction l with
  | nil => intro i r h; simp at h
  | cons c l ih =>
    intro i r h
    cases i with
    | zero =>
      have e2 : Crc.tk r (c ^^^ x) = Crc.it 8 (x.setWidth 32) ^^^ Crc.tk r c := by
        unfold Crc.tk
        rw [← Crc.it_xor]
        congr 1
        rw [BitVec.setWidth_xor]; ac_rfl
      simp only [List.set_cons_zero, List.getD_cons_zero]
      rw [Crc.rg_cons, Crc.rg_cons, e2, Crc.rg_xor, ← Crc.it_add, BitVec.xor_comm]
      congr 2
      simp; omega
    | succ i =>
      simp only [List.set_cons_succ, List.getD_cons_succ]
      rw [Crc.rg_cons, Crc.rg_cons, ih i _ (by simpa using h)]
      congr 2
      simp
theorem sum_byte (l : List (BitVec 8)) (i : Nat) (x : BitVec 8) (hi : i < l.length) (hx : x ≠ 0#8) : Crc.sum (l.set i (l.getD i 0#8 ^^^ x)) ≠ Crc.sum l := by
  intro h
  rw [Crc.sum_rg, Crc.sum_rg l, rg_byte x l i _ hi] at h
  have h1 : Crc.it (8 * (l.length - i)) (x.setWidth 32) = 0#32 := by
    have := congrArg (fun y => y ^^^ 4294967295#32 ^^^ Crc.rg (~~~ 0#32) l) h
    simp only [BitVec.xor_assoc] at this
    generalize Crc.it (8 * (l.length - i)) (x.setWidth 32) = z at this
    generalize Crc.rg (~~~ 0#32) l = r at this
    have h2 : r ^^^ (z ^^^ (4294967295#32 ^^^ (4294967295#32 ^^^ r))) = z := by
      rw [← BitVec.xor_assoc 4294967295#32 4294967295#32 r, BitVec.xor_self, BitVec.zero_xor, BitVec.xor_comm z r, ← BitVec.xor_assoc, BitVec.xor_self, BitVec.zero_xor]
    have h3 : r ^^^ (4294967295#32 ^^^ (4294967295#32 ^^^ r)) = 0#32 := by
      rw [← BitVec.xor_assoc 4294967295#32 4294967295#32 r, BitVec.xor_self, BitVec.zero_xor, BitVec.xor_self]
    rw [h2, h3] at this
    exact this
  rw [← Crc.it_zero (8 * (l.length - i))] at h1
  have h2 := Crc.it_inj _ h1
  refine hx ?_
  have h3 := congrArg (BitVec.setWidth 8) h2
  simpa using h3
set_option maxRecDepth 100000 in
theorem getS_turned {S : Sec} (h : S.may = true) (i : Nat) (x : BitVec 8) (hi : i < 512) (hx : x ≠ 0#8) : getS (S.bytes.set i (S.bytes.getD i 0#8 ^^^ x)) = none := by
  have hpl := pre_len h
  have hb : S.bytes = S.pre ++ be ((Crc.sum S.pre).setWidth 64) 4 := rfl
  have hxx : ∀ y : BitVec 8, y ^^^ x ≠ y := by
    intro y e
    apply hx
    have := congrArg (fun z => y ^^^ z) e
    simpa [← BitVec.xor_assoc] using this
  rcases Nat.lt_or_ge i 508 with h1 | h1
  · have e : S.bytes.set i (S.bytes.getD i 0#8 ^^^ x) = S.pre.set i (S.pre.getD i 0#8 ^^^ x) ++ be ((Crc.sum S.pre).setWidth 64) 4 := by
      rw [hb, List.set_append_left _ _ (by omega)]
      congr 3
      simp [List.getD, List.getElem?_append_left (show i < S.pre.length by omega)]
    rw [e]
    exact getS_sum h (by simp [hpl]) rfl (sum_byte _ _ _ (by omega) hx)
  · have e : S.bytes.set i (S.bytes.getD i 0#8 ^^^ x) = S.pre ++ (be ((Crc.sum S.pre).setWidth 64) 4).set (i - 508) ((be ((Crc.sum S.pre).setWidth 64) 4).getD (i - 508) 0#8 ^^^ x) := by
      rw [hb, List.set_append_right _ _ (by omega), hpl]
      congr 3
      simp [List.getD, List.getElem?_append_right (show S.pre.length ≤ i by omega), hpl]
    rw [e]
    refine getS_tail h fun e2 => ?_
    have hl : i - 508 < (be ((Crc.sum S.pre).setWidth 64) 4).length := by rw [be_length]; omega
    have := congrArg (fun l => l.getD (i - 508) 0#8) e2
    simp only [List.getD, List.getElem?_set_self hl, Option.getD_some] at this
    exact hxx _ this
/-- Bits turned among the first 508 bytes, within 32 places. -/
theorem turn_app (l m : List (BitVec 8)) (k : Nat) (h : k < 8 * l.length) : Crc.turn (l ++ m) k = Crc.turn l k ++ m := by
  unfold Crc.turn
  rw [List.set_append_left _ _ (by omega)]
  congr 3
  simp [List.getD, List.getElem?_append_left (show k / 8 < l.length by omega)]
theorem turns_app (ks : List Nat) (m : List (BitVec 8)) : ∀ l : List (BitVec 8), (∀ k ∈ ks, k < 8 * l.length) → Crc.turns (l ++ m) ks = Crc.turns l ks ++ m := by
  induction ks with
  | nil => intro l _; rfl
  | cons k ks ih =>
    intro l h
    show Crc.turns (Crc.turn (l ++ m) k) ks = Crc.turns (Crc.turn l k) ks ++ m
    rw [turn_app l m k (h k (by simp)), ih _ (fun j hj => by rw [Crc.turn_length]; exact h j (by simp [hj]))]
set_option maxRecDepth 100000 in
theorem getS_burst {S : Sec} (h : S.may = true) (b : Nat) (p : BitVec 32) (hb : b < 4064) (hne : Crc.bks b p 4064 32 ≠ []) : getS (Crc.turns S.bytes (Crc.bks b p 4064 32)) = none := by
  have hpl := pre_len h
  have h8 : 8 * S.pre.length = 4064 := by omega
  have hlt : ∀ k ∈ Crc.bks b p 4064 32, k < 8 * S.pre.length := by rw [h8]; exact Crc.bks_lt b p 4064 32
  have e : Crc.turns S.bytes (Crc.bks b p 4064 32) = Crc.turns S.pre (Crc.bks b p 4064 32) ++ be ((Crc.sum S.pre).setWidth 64) 4 := turns_app _ _ _ hlt
  rw [e]
  refine getS_sum h (by rw [Crc.turns_length, hpl]) rfl ?_
  have hs := Crc.sum_burst S.pre b p (by omega)
  rw [h8] at hs
  have hem : (Crc.bks b p 4064 32).isEmpty = false := by
    cases hk : Crc.bks b p 4064 32 with
    | nil => exact absurd hk hne
    | cons _ _ => rfl
  rw [hem] at hs
  intro e2
  rw [e2] at hs
  simp at hs
theorem getVE {S : Sec} (h : S.may = true) : getV S.bytes = S ∧ getE S.bytes = 0 := getV_some (getS_bytes h)
theorem rightO_bytes {S : Sec} (h : S.may = true) (tag : List (BitVec 8)) (ep sq pl : Int) : rightO S.bytes tag ep sq pl = (S.tag == tag && (S.epoch == ep && (S.seq == sq && S.place == pl))) := by
  simp [rightO, getS_bytes h, (getVE h).1]
theorem rightO_none {b : List (BitVec 8)} (h : getS b = none) (tag : List (BitVec 8)) (ep sq pl : Int) : rightO b tag ep sq pl = false := by simp [rightO, h]
theorem putS_yes {S : Sec} (h : S.may = true) : putS S = S.bytes ∧ putE S = 0 := by simp [putS, putE, h]
theorem putS_no {S : Sec} (h : S.may = false) : putS S = [] ∧ putE S = 117 := by simp [putS, putE, h]
end Go.Proofs.YtinfhlepjmollaaDoor
