/- A sector's bytes: what Put makes of it, what Get takes. No program in sight. -/
import Derived.Test.YthaiibfnjgfgjaaDoorBitsNum
import Derived.Test.YthaiibfnjgfgjaaDoorCrcAlg
namespace Go.Proofs.YthaiibfnjgfgjaaDoor
open Go.RowKit
/-- A sector but for where its body lies; the tag by its bytes. -/
structure Sec where
  tag : List (BitVec 8)
  epoch : Int
  seq : Int
  place : Int
  body : List (BitVec 8)
def tags : List (List (BitVec 8)) := [[67#8, 86#8, 83#8, 49#8], [67#8, 86#8, 68#8, 49#8], [67#8, 86#8, 67#8, 49#8], [67#8, 86#8, 79#8, 49#8]]
def tagB (t : List (BitVec 8)) : Bool := tags.contains t
def Sec.may (S : Sec) : Bool := tagB S.tag && (decide (1 ≤ S.epoch) && (decide (S.epoch ≤ 4611686018427387904) && (decide (1 ≤ S.seq) && (decide (S.seq ≤ 4611686018427387904) && (decide (0 ≤ S.place) && (decide (S.place ≤ 8191) && decide (S.body.length ≤ 480)))))))
def w64 (x : Int) : BitVec 64 := BitVec.ofNat 64 x.toNat
def Sec.head (S : Sec) : List (BitVec 8) := S.tag ++ (be (w64 S.epoch) 8 ++ (be (w64 S.seq) 8 ++ (be (w64 S.place) 4 ++ (be (BitVec.ofNat 64 S.body.length) 2 ++ [0#8, 0#8]))))
def Sec.pre (S : Sec) : List (BitVec 8) := S.head ++ (S.body ++ List.replicate (480 - S.body.length) 0#8)
def sealed (l : List (BitVec 8)) : List (BitVec 8) := l ++ be ((Crc.sum l).setWidth 64) 4
def Sec.bytes (S : Sec) : List (BitVec 8) := sealed S.pre
theorem may_iff {S : Sec} : S.may = true ↔ S.tag ∈ tags ∧ (1 ≤ S.epoch ∧ S.epoch ≤ 4611686018427387904) ∧ (1 ≤ S.seq ∧ S.seq ≤ 4611686018427387904) ∧ (0 ≤ S.place ∧ S.place ≤ 8191) ∧ S.body.length ≤ 480 := by
  simp only [Sec.may, tagB, Bool.and_eq_true, decide_eq_true_eq, List.contains_iff_mem]
  constructor
  · rintro ⟨h1, h2, h3, h4, h5, h6, h7, h8⟩
    exact ⟨h1, ⟨h2, h3⟩, ⟨h4, h5⟩, ⟨h6, h7⟩, h8⟩
  · rintro ⟨h1, ⟨h2, h3⟩, ⟨h4, h5⟩, ⟨h6, h7⟩, h8⟩
    exact ⟨h1, h2, h3, h4, h5, h6, h7, h8⟩
theorem tag_len {t : List (BitVec 8)} (h : t ∈ tags) : t.length = 4 := by
  simp only [tags, List.mem_cons, List.not_mem_nil, or_false] at h
  rcases h with rfl | rfl | rfl | rfl <;> rfl
theorem head_len {S : Sec} (h : S.may = true) : S.head.length = 28 := by
  have := tag_len (may_iff.1 h).1
  simp [Sec.head, be_length, this]
theorem pre_len {S : Sec} (h : S.may = true) : S.pre.length = 508 := by
  have h1 := head_len h
  have h2 := (may_iff.1 h).2.2.2.2
  simp [Sec.pre, h1]
  omega
theorem bytes_len {S : Sec} (h : S.may = true) : S.bytes.length = 512 := by
  simp [Sec.bytes, sealed, be_length, pre_len h]
/-- A number comes back from its bytes. -/
theorem w64_inj {x y : Int} (hx : 0 ≤ x) (hx1 : x ≤ 4611686018427387904) (hy : 0 ≤ y) (hy1 : y ≤ 4611686018427387904) (h : w64 x = w64 y) : x = y := by
  have h1 := congrArg BitVec.toNat h
  simp only [w64, BitVec.toNat_ofNat] at h1
  omega
theorem be_inj8 {x y : BitVec 64} (h : be x 8 = be y 8) : x = y := by
  have h1 := congrArg val h
  rw [val_be, val_be] at h1
  have e : BitVec.ofNat 64 (2 ^ (8 * 8) - 1) = BitVec.allOnes 64 := by decide
  rw [e, BitVec.and_allOnes, BitVec.and_allOnes] at h1
  exact h1
theorem be_inj {n : Nat} {x y : BitVec 64} (hn : n ≤ 8) (hx : x.toNat < 2 ^ (8 * n)) (hy : y.toNat < 2 ^ (8 * n)) (h : be x n = be y n) : x = y := by
  have h1 := congrArg val h
  rw [val_be, val_be] at h1
  have h2 := congrArg BitVec.toNat h1
  have hp : 2 ^ (8 * n) ≤ 2 ^ 64 := Nat.pow_le_pow_right (by decide) (by omega)
  simp only [BitVec.toNat_and, BitVec.toNat_ofNat] at h2
  rw [Nat.mod_eq_of_lt (by omega), Nat.and_two_pow_sub_one_eq_mod, Nat.and_two_pow_sub_one_eq_mod, Nat.mod_eq_of_lt hx, Nat.mod_eq_of_lt hy] at h2
  exact BitVec.eq_of_toNat_eq h2
theorem sec_inj {S T : Sec} (hS : S.may = true) (hT : T.may = true) (h : S.bytes = T.bytes) : S = T := by
  have aS := may_iff.1 hS
  have aT := may_iff.1 hT
  have h1 : S.pre = T.pre := (List.append_inj h (by rw [pre_len hS, pre_len hT])).1
  obtain ⟨h2, h3⟩ := List.append_inj h1 (by rw [head_len hS, head_len hT])
  obtain ⟨t1, h4⟩ := List.append_inj h2 (by rw [tag_len aS.1, tag_len aT.1])
  obtain ⟨t2, h5⟩ := List.append_inj h4 (by simp [be_length])
  obtain ⟨t3, h6⟩ := List.append_inj h5 (by simp [be_length])
  obtain ⟨t4, h7⟩ := List.append_inj h6 (by simp [be_length])
  obtain ⟨t5, _⟩ := List.append_inj h7 (by simp [be_length])
  have e1 := w64_inj (by omega) aS.2.1.2 (by omega) aT.2.1.2 (be_inj8 t2)
  have e2 := w64_inj (by omega) aS.2.2.1.2 (by omega) aT.2.2.1.2 (be_inj8 t3)
  have bd : ∀ z : Int, 0 ≤ z → z ≤ 8191 → (w64 z).toNat < 2 ^ (8 * 4) := by
    intro z h0 h1
    simp only [w64, BitVec.toNat_ofNat]
    omega
  have e3 := w64_inj aS.2.2.2.1.1 (by omega) aT.2.2.2.1.1 (by omega) (be_inj (by decide) (bd _ aS.2.2.2.1.1 aS.2.2.2.1.2) (bd _ aT.2.2.2.1.1 aT.2.2.2.1.2) t4)
  have bl : ∀ n : Nat, n ≤ 480 → (BitVec.ofNat 64 n).toNat < 2 ^ (8 * 2) := by
    intro n hn
    simp only [BitVec.toNat_ofNat]
    omega
  have e4 := congrArg BitVec.toNat (be_inj (by decide) (bl _ aS.2.2.2.2) (bl _ aT.2.2.2.2) t5)
  simp only [BitVec.toNat_ofNat] at e4
  have e5 : S.body.length = T.body.length := by have := aS.2.2.2.2; have := aT.2.2.2.2; omega
  obtain ⟨e6, _⟩ := List.append_inj h3 e5
  obtain ⟨a, b, c, d, e⟩ := S
  obtain ⟨a', b', c', d', e'⟩ := T
  simp only at t1 e1 e2 e3 e6
  subst t1 e1 e2 e3 e6
  rfl
/-- What Get makes of bytes: the sector whose bytes they are. -/
def readS (b : List (BitVec 8)) : Sec := ⟨b.take 4, ((val ((b.drop 4).take 8)).toNat : Int), ((val ((b.drop 12).take 8)).toNat : Int), ((val ((b.drop 20).take 4)).toNat : Int), (b.drop 28).take (val ((b.drop 24).take 2)).toNat⟩
def getS (b : List (BitVec 8)) : Option Sec := if (readS b).may = true ∧ (readS b).bytes = b then some (readS b) else none
/-- A changed seal, or a changed list under the same seal. -/
theorem sealed_turned {l m : List (BitVec 8)} (hl : l.length = m.length) (h : sealed m = sealed l) : m = l := (List.append_inj h hl.symm).1
end Go.Proofs.YthaiibfnjgfgjaaDoor
