/- Numbers put one behind the other: the plain laws, and the numbers in memory. -/
import Derived.Test.YtmhcfifenclebaaBitsGP
namespace Go.Proofs.Ytmhcfifenclebaa
open Go.RowKit
def wd (x : Int) : Nat := if (x.tmod 4 + 4) % 4 = 0 then 1 else if (x.tmod 4 + 4) % 4 = 1 then 2 else if (x.tmod 4 + 4) % 4 = 2 then 4 else 8
theorem wd_Wd (x : Int) : Wd (wd x) := by
  unfold wd Wd
  split
  · exact Or.inl rfl
  · split
    · exact Or.inr (Or.inl rfl)
    · split
      · exact Or.inr (Or.inr (Or.inl rfl))
      · exact Or.inr (Or.inr (Or.inr rfl))
theorem wd_le (x : Int) : 0 < wd x ∧ wd x ≤ 8 := by have := wd_Wd x; unfold Wd at this; omega
def enc (s : List (BitVec 64 × Int)) : List (BitVec 8) := s.flatMap fun x => be x.1 (wd x.2)
theorem enc_append (s t : List (BitVec 64 × Int)) : enc (s ++ t) = enc s ++ enc t := by simp [enc]
def en (s : List (BitVec 64 × Int)) (j : Nat) : Nat := (enc (s.take j)).length
theorem take_succ' (s : List (BitVec 64 × Int)) (j : Nat) (hj : j < s.length) : s.take (j + 1) = s.take j ++ [s.getD j (0#64, 0)] := by
  rw [List.take_succ_eq_append_getElem hj]; simp [List.getD, hj]
theorem enc_succ (s : List (BitVec 64 × Int)) (j : Nat) (hj : j < s.length) : enc (s.take (j + 1)) = enc (s.take j) ++ be (s.getD j (0#64, 0)).1 (wd (s.getD j (0#64, 0)).2) := by
  rw [take_succ' s j hj, enc_append]
  simp [enc]
theorem en_succ (s : List (BitVec 64 × Int)) (j : Nat) (hj : j < s.length) : en s (j + 1) = en s j + wd (s.getD j (0#64, 0)).2 := by
  unfold en
  rw [enc_succ s j hj, List.length_append, be_length]
theorem en_zero (s : List (BitVec 64 × Int)) : en s 0 = 0 := by simp [en, enc]
theorem en_all (s : List (BitVec 64 × Int)) : en s s.length = (enc s).length := by unfold en; rw [List.take_length]
theorem enc_split (s : List (BitVec 64 × Int)) (j : Nat) (hj : j < s.length) : enc s = enc (s.take j) ++ (be (s.getD j (0#64, 0)).1 (wd (s.getD j (0#64, 0)).2) ++ enc (s.drop (j + 1))) := by
  rw [← List.append_assoc, ← enc_succ s j hj, ← enc_append, List.take_append_drop]
theorem enc_at (s : List (BitVec 64 × Int)) (j c : Nat) (hj : j < s.length) (hc : en s j + wd (s.getD j (0#64, 0)).2 ≤ c) :
    (((enc s).take c).drop (en s j)).take (wd (s.getD j (0#64, 0)).2) = be (s.getD j (0#64, 0)).1 (wd (s.getD j (0#64, 0)).2) := by
  rw [List.drop_take, List.take_take, Nat.min_eq_left (by omega), enc_split s j hj]
  unfold en
  rw [List.drop_left, List.take_left' (be_length _ _)]
theorem en_le (s : List (BitVec 64 × Int)) (j : Nat) (hj : j ≤ s.length) : en s j ≤ 8 * j ∧ en s j ≤ (enc s).length := by
  constructor
  · induction j with
    | zero => rw [en_zero]; omega
    | succ j ih => rw [en_succ s j hj]; have := ih (by omega); have := wd_le (s.getD j (0#64, 0)).2; omega
  · unfold en
    have : enc s = enc (s.take j) ++ enc (s.drop j) := by rw [← enc_append, List.take_append_drop]
    rw [this, List.length_append]; omega
def endsV (s : List (BitVec 64 × Int)) (j : Nat) : List Int := (List.range j).map fun i => ((en s (i + 1) : Nat) : Int)
theorem endsV_succ (s : List (BitVec 64 × Int)) (j : Nat) : endsV s (j + 1) = endsV s j ++ [((en s (j + 1) : Nat) : Int)] := by simp [endsV, List.range_succ]
theorem endsV_length (s : List (BitVec 64 × Int)) (j : Nat) : (endsV s j).length = j := by simp [endsV]
theorem endsV_get (s : List (BitVec 64 × Int)) (j i : Nat) (h : i < j) : (endsV s j).getD i 0 = ((en s (i + 1) : Nat) : Int) := by simp [endsV, List.getD, h]
/-- What a number cut to so many bytes is. -/
theorem val_mod (x : BitVec 64) (n : Nat) (hn : n ≤ 8) : (val (be x n)).toNat = x.toNat % 2 ^ (8 * n) := by
  rw [val_be, BitVec.toNat_and, BitVec.toNat_ofNat]
  have h1 : 2 ^ (8 * n) ≤ 2 ^ 64 := Nat.pow_le_pow_right (by omega) (by omega)
  have h2 : 0 < 2 ^ (8 * n) := Nat.pow_pos (by omega)
  rw [Nat.mod_eq_of_lt (a := 2 ^ (8 * n) - 1) (by omega), Nat.and_two_pow_sub_one_eq_mod]
theorem wideAt (x : Int) (w : World) : Calls Try.prog 13 #[.int .i64 x] w fun e w' => e = .returned (.int .i64 (wd x)) ∧ w' = w := by
  have h1 : -4 < x.tmod 4 := by have := Int.lt_tmod_of_pos x (b := 4) (by omega); omega
  have h2 : x.tmod 4 < 4 := Int.tmod_lt_of_pos x (by omega)
  have h3 : (x.tmod 4 + 4).tmod 4 = (x.tmod 4 + 4) % 4 := Int.tmod_eq_emod_of_nonneg (by omega)
  have h4 : (x.tmod 4 + 4) % 4 = 0 ∨ (x.tmod 4 + 4) % 4 = 1 ∨ (x.tmod 4 + 4) % 4 = 2 ∨ (x.tmod 4 + 4) % 4 = 3 := by omega
  rcases h4 with h4 | h4 | h4 | h4
  · have hw : wd x = 1 := by simp [wd, h4]
    have HW := Lib.hid hw
    rw [h4] at h3
    clear hw
    go_enter Try.func13, Try.ntmps13
    go_wp2
    go_ret
    exact ⟨by rw [HW.out]; rfl, rfl⟩
  · have hw : wd x = 2 := by simp [wd, h4]
    have HW := Lib.hid hw
    rw [h4] at h3
    clear hw
    go_enter Try.func13, Try.ntmps13
    go_wp2
    go_ret
    exact ⟨by rw [HW.out]; rfl, rfl⟩
  · have hw : wd x = 4 := by simp [wd, h4]
    have HW := Lib.hid hw
    rw [h4] at h3
    clear hw
    go_enter Try.func13, Try.ntmps13
    go_wp2
    go_ret
    exact ⟨by rw [HW.out]; rfl, rfl⟩
  · have hw : wd x = 8 := by simp [wd, h4]
    have HW := Lib.hid hw
    rw [h4] at h3
    clear hw
    go_enter Try.func13, Try.ntmps13
    go_wp2
    go_ret
    exact ⟨by rw [HW.out]; rfl, rfl⟩
/-- From an address on stand these numbers and widths. -/
def Nm (w : World) (ao : Option Addr) (l : List (BitVec 64 × Int)) : Prop := l = [] ∨ ∃ b o, ao = some ⟨b, o, none⟩ ∧ ∀ i, i < l.length →
  w.cell? ⟨b, o + i * 2, none⟩ = some (.int .u64 (n64 (l.getD i (0#64, 0)).1)) ∧ w.cell? ⟨b, o + i * 2 + 1, none⟩ = some (.int .i64 (l.getD i (0#64, 0)).2)
theorem Nm.on {w w' : World} {ao : Option Addr} {l : List (BitVec 64 × Int)} (h : Nm w ao l) (hb : Below w.heap.size w w') : Nm w' ao l := by
  rcases h with rfl | ⟨b, o, rfl, hc⟩
  · exact Or.inl rfl
  · refine Or.inr ⟨b, o, rfl, fun i hi => ?_⟩
    obtain ⟨h0, h1⟩ := hc i hi
    exact ⟨(hb.cell (p := ⟨b, _, none⟩) (lt_of_rd h0)).trans h0, (hb.cell (p := ⟨b, _, none⟩) (lt_of_rd h1)).trans h1⟩
theorem Nm.take {w : World} {ao : Option Addr} {l : List (BitVec 64 × Int)} (h : Nm w ao l) (n : Nat) : Nm w ao (l.take n) := by
  rcases h with rfl | ⟨b, o, rfl, hc⟩
  · exact Or.inl (by simp)
  · refine Or.inr ⟨b, o, rfl, fun i hi => ?_⟩
    simp only [List.length_take] at hi
    have := hc i (by omega)
    rw [show (l.take n).getD i (0#64, 0) = l.getD i (0#64, 0) by simp [List.getD, show i < n by omega]]
    exact this
def ints (l : List Int) : List Value := l.map fun x => .int .i64 x
theorem owns_ints {w : World} {B e : Nat} {v : Value} {n : Nat} {l : List Int} (h : w.ownsRow B e 1 v n (ints l)) :
    l.length = n ∧ ∃ ao cap, v = .slice ao n cap ∧ Rn w ao l ∧ (∀ a, ao = some a → B ≤ a.block) := by
  obtain ⟨h1, h2⟩ := h
  have hn : n = l.length := by simpa [ints] using h1.symm
  subst hn
  refine ⟨rfl, ?_⟩
  rcases h2 with ⟨rfl, h0⟩ | ⟨g, cap, cur, rfl, hg, hh, hc, hm, hs, ht⟩
  · exact ⟨none, 0, by rw [h0], Or.inl (List.length_eq_zero_iff.1 h0), fun a x => by cases x⟩
  · refine ⟨some ⟨g, 0, none⟩, cap, rfl, Or.inr ⟨g, 0, rfl, fun i hi => ?_⟩, fun a x => by cases x; exact hg⟩
    have e1 : cur[0 + i]? = some (.int .i64 (l.getD i 0)) := by
      have : (ints l)[i]? = some (.int .i64 (l.getD i 0)) := by simp [ints, List.getD, hi]
      rw [← this, ← ht]
      simp [hi]
    simp only [World.cell?, hh, e1]
    rfl
end Go.Proofs.Ytmhcfifenclebaa
