/- Numbers of Go's unsigned kinds as bit vectors, and the rules by which the walk reckons with them. No program in sight. -/
import Derived.WalkKit
import Derived.WalkSmall
import Derived.Deep.Quiet
import Derived.Lib.Hide
namespace Go.Proofs.YthaiibfnjgfgjaaDoor
open Go.RowKit
def n8 (b : BitVec 8) : Int := (b.toNat : Int)
def n16 (b : BitVec 16) : Int := (b.toNat : Int)
def n32 (b : BitVec 32) : Int := (b.toNat : Int)
def n64 (b : BitVec 64) : Int := (b.toNat : Int)
theorem n8_lo (b : BitVec 8) : 0 ≤ n8 b := Int.natCast_nonneg _
theorem n8_hi (b : BitVec 8) : n8 b < 256 := by have := b.isLt; unfold n8; omega
theorem n16_lo (b : BitVec 16) : 0 ≤ n16 b := Int.natCast_nonneg _
theorem n16_hi (b : BitVec 16) : n16 b < 65536 := by have := b.isLt; unfold n16; omega
theorem n32_lo (b : BitVec 32) : 0 ≤ n32 b := Int.natCast_nonneg _
theorem n32_hi (b : BitVec 32) : n32 b < 4294967296 := by have := b.isLt; unfold n32; omega
theorem n64_lo (b : BitVec 64) : 0 ≤ n64 b := Int.natCast_nonneg _
theorem n64_hi (b : BitVec 64) : n64 b < 18446744073709551616 := by have := b.isLt; unfold n64; omega
theorem n8_nat (b : BitVec 8) : (n8 b).toNat = b.toNat := rfl
theorem n16_nat (b : BitVec 16) : (n16 b).toNat = b.toNat := rfl
theorem n32_nat (b : BitVec 32) : (n32 b).toNat = b.toNat := rfl
theorem n64_nat (b : BitVec 64) : (n64 b).toNat = b.toNat := rfl
theorem n8_inj {a b : BitVec 8} (h : n8 a = n8 b) : a = b := BitVec.eq_of_toNat_eq (by unfold n8 at h; omega)
theorem n16_inj {a b : BitVec 16} (h : n16 a = n16 b) : a = b := BitVec.eq_of_toNat_eq (by unfold n16 at h; omega)
theorem n32_inj {a b : BitVec 32} (h : n32 a = n32 b) : a = b := BitVec.eq_of_toNat_eq (by unfold n32 at h; omega)
theorem n64_inj {a b : BitVec 64} (h : n64 a = n64 b) : a = b := BitVec.eq_of_toNat_eq (by unfold n64 at h; omega)
theorem n8_of (x : Int) (h0 : 0 ≤ x) (h1 : x < 256) : x = n8 (BitVec.ofNat 8 x.toNat) := by unfold n8; simp; omega
theorem n32_of (x : Int) (h0 : 0 ≤ x) (h1 : x < 4294967296) : x = n32 (BitVec.ofNat 32 x.toNat) := by unfold n32; simp; omega
theorem n64_of (x : Int) (h0 : 0 ≤ x) (h1 : x < 18446744073709551616) : x = n64 (BitVec.ofNat 64 x.toNat) := by unfold n64; simp; omega
@[go_sem] theorem n8_beq (a b : BitVec 8) : (n8 a == n8 b) = (a == b) := by
  rw [Bool.eq_iff_iff]; simp only [beq_iff_eq]; exact ⟨n8_inj, fun h => h ▸ rfl⟩
@[go_sem] theorem n16_beq (a b : BitVec 16) : (n16 a == n16 b) = (a == b) := by
  rw [Bool.eq_iff_iff]; simp only [beq_iff_eq]; exact ⟨n16_inj, fun h => h ▸ rfl⟩
@[go_sem] theorem n32_beq (a b : BitVec 32) : (n32 a == n32 b) = (a == b) := by
  rw [Bool.eq_iff_iff]; simp only [beq_iff_eq]; exact ⟨n32_inj, fun h => h ▸ rfl⟩
@[go_sem] theorem n64_beq (a b : BitVec 64) : (n64 a == n64 b) = (a == b) := by
  rw [Bool.eq_iff_iff]; simp only [beq_iff_eq]; exact ⟨n64_inj, fun h => h ▸ rfl⟩
@[go_sem] theorem xor8 (a b : BitVec 8) : bits .xor .u8 (n8 a) (n8 b) = n8 (a ^^^ b) := by
  unfold n8; rw [u8_xor_nat _ _ a.isLt b.isLt, BitVec.toNat_xor]
@[go_sem] theorem xor32 (a b : BitVec 32) : bits .xor .u32 (n32 a) (n32 b) = n32 (a ^^^ b) := by
  unfold n32; rw [u32_xor_nat _ _ a.isLt b.isLt, BitVec.toNat_xor]
@[go_sem] theorem and32_15 (a : BitVec 32) : bits .and .u32 (n32 a) 15 = n32 (a &&& 15#32) := by
  unfold n32; rw [show (15:Int) = ((15:Nat):Int) from rfl, u32_and_nat _ _ a.isLt (by omega), BitVec.toNat_and]; rfl
@[go_sem] theorem not32 (a : BitVec 32) : bits .xor .u32 IntKind.u32.max (n32 a) = n32 (~~~ a) := by
  unfold n32; rw [show IntKind.u32.max = ((4294967295:Nat):Int) from rfl, u32_xor_nat _ _ (by omega) a.isLt]
  rw [show (4294967295:Nat) = (BitVec.allOnes 32).toNat from rfl, ← BitVec.toNat_xor, BitVec.allOnes_xor]
@[go_sem] theorem not32' (a : BitVec 32) : bits .xor .u32 (n32 a) 4294967295 = n32 (~~~ a) := by
  unfold n32; rw [show (4294967295:Int) = ((4294967295:Nat):Int) from rfl, u32_xor_nat _ _ a.isLt (by omega)]
  rw [show (4294967295:Nat) = (BitVec.allOnes 32).toNat from rfl, ← BitVec.toNat_xor, BitVec.xor_allOnes]
@[go_sem] theorem div32_16 (a : BitVec 32) : n32 a / (16 : Int) = n32 (a >>> 4) := by
  unfold n32; rw [BitVec.toNat_ushiftRight, Nat.shiftRight_eq_div_pow]; simp
@[go_sem] theorem div32_2 (a : BitVec 32) : n32 a / (2 : Int) = n32 (a >>> 1) := by
  unfold n32; rw [BitVec.toNat_ushiftRight, Nat.shiftRight_eq_div_pow]; simp
@[go_sem] theorem wrap32_8 (a : BitVec 8) : IntKind.u32.wrap (n8 a) = n32 (a.setWidth 32) := by
  have := a.isLt
  rw [IntKind.wrap_u32']; unfold n8 n32; rw [BitVec.toNat_setWidth]; omega
@[go_sem] theorem and32_1 (a : BitVec 32) : bits .and .u32 (n32 a) 1 = n32 (a &&& 1#32) := by
  unfold n32; rw [show (1:Int) = ((1:Nat):Int) from rfl, u32_and_nat _ _ a.isLt (by omega), BitVec.toNat_and]; rfl
@[go_sem] theorem div32_256 (a : BitVec 32) : n32 a / (256 : Int) = n32 (a >>> 8) := by
  unfold n32; rw [BitVec.toNat_ushiftRight, Nat.shiftRight_eq_div_pow]; simp
@[go_sem] theorem div32_65536 (a : BitVec 32) : n32 a / (65536 : Int) = n32 (a >>> 16) := by
  unfold n32; rw [BitVec.toNat_ushiftRight, Nat.shiftRight_eq_div_pow]; simp
@[go_sem] theorem div32_16777216 (a : BitVec 32) : n32 a / (16777216 : Int) = n32 (a >>> 24) := by
  unfold n32; rw [BitVec.toNat_ushiftRight, Nat.shiftRight_eq_div_pow]; simp
@[go_sem] theorem wrap8_32 (a : BitVec 32) : IntKind.u8.wrap (n32 a) = n8 (a.setWidth 8) := by
  rw [IntKind.wrap_u8']; unfold n8 n32; rw [BitVec.toNat_setWidth]; omega
attribute [irreducible] n8 n16 n32 n64
/-- The world after some draws. -/
def Still (w w' : World) : Prop := ∃ n, w' = w.drewN n
theorem Still.refl (w : World) : Still w w := ⟨0, rfl⟩
theorem Still.drewN {w w' : World} (h : Still w w') (n : Nat) : Still w (w'.drewN n) := by
  obtain ⟨m, rfl⟩ := h
  exact ⟨m + n, by simp [World.drewN, Nat.add_assoc]⟩
theorem Still.trans {a b c : World} (h : Still a b) (k : Still b c) : Still a c := by
  obtain ⟨n, rfl⟩ := k
  exact h.drewN n
theorem Still.below {w w' : World} (h : Still w w') (B : Nat) : Below B w w' := by
  obtain ⟨n, rfl⟩ := h
  exact below_drewN (Below.refl B w) n
theorem alloc_old (w : World) (o : Obj) (k : Nat) (h : k < w.heap.size) : (w.alloc o).heap[k]? = w.heap[k]? := by
  show (w.heap.push o)[k]? = w.heap[k]?
  rw [Array.getElem?_push, if_neg (Nat.ne_of_lt h)]
/-- Bytes as cells. -/
def bts (l : List (BitVec 8)) : List Value := l.map fun b => Value.int .u8 (n8 b)
theorem bts_length (l : List (BitVec 8)) : (bts l).length = l.length := by simp [bts]
theorem bts_append (l m : List (BitVec 8)) : bts (l ++ m) = bts l ++ bts m := by simp [bts]
theorem bts_get (l : List (BitVec 8)) (i : Nat) (h : i < l.length) : (bts l)[i]? = some (.int .u8 (n8 (l.getD i 0#8))) := by
  simp [bts, List.getD, h]
/-- From an address on stand these bytes (of no bytes nothing is said, not even of the address). -/
def Rd (w : World) (ao : Option Addr) (l : List (BitVec 8)) : Prop := l = [] ∨ ∃ b o, ao = some ⟨b, o, none⟩ ∧ ∀ i, i < l.length → w.cell? ⟨b, o + i, none⟩ = some (.int .u8 (n8 (l.getD i 0#8)))
theorem Rd.at {w : World} {ao : Option Addr} {l : List (BitVec 8)} (h : Rd w ao l) (hl : 0 < l.length) : ∃ b o, ao = some ⟨b, o, none⟩ ∧ ∀ i, i < l.length → w.cell? ⟨b, o + i, none⟩ = some (.int .u8 (n8 (l.getD i 0#8))) := by
  rcases h with rfl | h
  · simp at hl
  · exact h
theorem Rd.nil (w : World) (ao : Option Addr) : Rd w ao [] := Or.inl rfl
theorem Rd.below {B : Nat} {w w' : World} {ao : Option Addr} {l : List (BitVec 8)} (h : Rd w ao l) (hb : Below B w w') (ha : ∀ a, ao = some a → a.block < B) : Rd w' ao l := by
  rcases h with rfl | ⟨b, o, rfl, hc⟩
  · exact Rd.nil _ _
  · exact Or.inr ⟨b, o, rfl, fun i hi => (hb.cell (p := ⟨b, o + i, none⟩) (ha ⟨b, o, none⟩ rfl)).trans (hc i hi)⟩
theorem lt_of_rd {w : World} {b o : Nat} {v : Value} (h : w.cell? ⟨b, o, none⟩ = some v) : b < w.heap.size := World.block_lt_of_cell? w _ h
/-- What stood before a call stands behind it. -/
theorem Rd.on {w w' : World} {ao : Option Addr} {l : List (BitVec 8)} (h : Rd w ao l) (hb : Below w.heap.size w w') : Rd w' ao l := by
  rcases h with rfl | ⟨b, o, rfl, hc⟩
  · exact Rd.nil _ _
  · refine Or.inr ⟨b, o, rfl, fun i hi => ?_⟩
    exact (hb.cell (p := ⟨b, o + i, none⟩) (lt_of_rd (hc i hi))).trans (hc i hi)
theorem Rd.take {w : World} {ao : Option Addr} {l : List (BitVec 8)} (h : Rd w ao l) (n : Nat) : Rd w ao (l.take n) := by
  rcases h with rfl | ⟨b, o, rfl, hc⟩
  · simp [Rd.nil]
  · refine Or.inr ⟨b, o, rfl, fun i hi => ?_⟩
    simp only [List.length_take] at hi
    rw [hc i (by omega)]
    simp [List.getD, show i < n by omega]
theorem Rd.drop {w : World} {b o : Nat} {l : List (BitVec 8)} (h : Rd w (some ⟨b, o, none⟩) l) (n : Nat) : Rd w (some ⟨b, o + n, none⟩) (l.drop n) := by
  rcases h with rfl | ⟨b', o', he, hc⟩
  · simp [Rd.nil]
  · cases he
    refine Or.inr ⟨b, o + n, rfl, fun i hi => ?_⟩
    simp only [List.length_drop] at hi
    rw [show o + n + i = o + (n + i) by omega, hc (n + i) (by omega)]
    simp [List.getD]
/-- What is owned reads so. -/
theorem owns_rd {w : World} {B e : Nat} {v : Value} {n : Nat} {l : List (BitVec 8)} (h : w.ownsRow B e 1 v n (bts l)) :
    n = l.length ∧ ∃ ao cap, v = .slice ao l.length cap ∧ Rd w ao l ∧ (∀ a, ao = some a → B ≤ a.block ∧ a.block < w.heap.size) ∧ (ao = none → l = []) ∧ l.length ≤ cap ∧ cap ≤ maxLen := by
  obtain ⟨h1, h2⟩ := h
  have hn : n = l.length := by simpa [bts_length] using h1.symm
  refine ⟨hn, ?_⟩
  subst hn
  rcases h2 with ⟨rfl, h0⟩ | ⟨g, cap, cur, rfl, hg, hh, hc, hm, hs, ht⟩
  · exact ⟨none, 0, by rw [h0], Or.inl (List.length_eq_zero_iff.1 h0), (fun a h => by cases h), (fun _ => List.length_eq_zero_iff.1 h0), by omega, by simp⟩
  · refine ⟨some ⟨g, 0, none⟩, cap, rfl, Or.inr ⟨g, 0, rfl, ?_⟩, ?_, (fun h => by cases h), hc, hm⟩
    · intro i hi
      have e1 : cur[0 + i]? = some (.int .u8 (n8 (l.getD i 0#8))) := by
        rw [← bts_get l i hi, ← ht]
        simp [hi]
      simp only [World.cell?, hh, e1]
      rfl
    · intro a ha
      cases ha
      exact ⟨hg, (Array.getElem?_eq_some_iff.1 hh).1⟩
/-- The bytes of a block that was made last. -/
theorem Rd_new (w : World) (t : TypeId) (cs : Array Value) (fr : Nat × Nat) (l : List (BitVec 8)) (h : cs.toList = bts l) : Rd (w.alloc (.cells cs t fr)) (some ⟨w.heap.size, 0, none⟩) l := by
  refine Or.inr ⟨w.heap.size, 0, rfl, fun i hi => ?_⟩
  have h1 : (w.alloc (.cells cs t fr)).heap[w.heap.size]? = some (.cells cs t fr) := heap_alloc_new w _
  rw [cell_of_row _ _ _ _ _ _ h1]
  have h2 := bts_get l i hi
  rw [← h] at h2
  simpa using h2
theorem owns_rdn {w : World} {B e : Nat} {v : Value} {n : Nat} {l : List (BitVec 8)} (h : w.ownsRow B e 1 v n (bts l)) :
    l.length = n ∧ ∃ ao cap, v = .slice ao n cap ∧ Rd w ao l ∧ (∀ a, ao = some a → B ≤ a.block ∧ a.block < w.heap.size) ∧ (ao = none → cap = 0) ∧ n ≤ cap ∧ cap ≤ maxLen := by
  obtain ⟨h1, h2⟩ := h
  have hn : n = l.length := by simpa [bts_length] using h1.symm
  refine ⟨hn.symm, ?_⟩
  obtain ⟨_, ao, cap, rfl, h3, h4, h5, h6, h7⟩ := owns_rd ⟨h1, h2⟩
  refine ⟨ao, cap, by rw [hn], h3, h4, fun h => ?_, by omega, h7⟩
  subst h
  rcases h2 with ⟨h8, _⟩ | ⟨g, _, _, h8, _⟩
  · simp only [Value.slice.injEq] at h8; exact h8.2.2
  · simp only [Value.slice.injEq] at h8; cases h8.1
/-- A row of one's own whose first cells are these bytes. -/
def Own (w : World) (g cap : Nat) (e : TypeId) (l : List (BitVec 8)) : Prop := ∃ cur, w.heap[g]? = some (.cells cur e (0, 0)) ∧ cur.size = cap ∧ l.length ≤ cap ∧ cur.toList.take l.length = bts l
theorem Own.kept {w w' : World} {g cap : Nat} {e : TypeId} {l : List (BitVec 8)} (h : Own w g cap e l) (hk : w'.heap[g]? = w.heap[g]?) : Own w' g cap e l := by
  obtain ⟨cur, h1, h2⟩ := h
  exact ⟨cur, hk.trans h1, h2⟩
theorem Own.below {B : Nat} {w w' : World} {g cap : Nat} {e : TypeId} {l : List (BitVec 8)} (h : Own w g cap e l) (hb : Below B w w') (hg : g < B) : Own w' g cap e l := h.kept (hb.block g hg)
theorem Own.still {w w' : World} {g cap : Nat} {e : TypeId} {l : List (BitVec 8)} (h : Own w g cap e l) (hs : Still w w') : Own w' g cap e l := by
  obtain ⟨n, rfl⟩ := hs
  exact h
theorem Own.lt {w : World} {g cap : Nat} {e : TypeId} {l : List (BitVec 8)} (h : Own w g cap e l) : g < w.heap.size := by
  obtain ⟨cur, h1, _⟩ := h
  exact (Array.getElem?_eq_some_iff.1 h1).1
theorem Own.cell {w : World} {g cap : Nat} {e : TypeId} {l : List (BitVec 8)} (h : Own w g cap e l) (i : Nat) (hi : i < l.length) : w.cell? ⟨g, i, none⟩ = some (.int .u8 (n8 (l.getD i 0#8))) := by
  obtain ⟨cur, h1, h2, h3, h4⟩ := h
  rw [cell_of_row w g i cur e (0, 0) h1, ← bts_get l i hi, ← h4]
  simp [hi]
theorem Own.free {w : World} {g cap : Nat} {e : TypeId} {l : List (BitVec 8)} (h : Own w g cap e l) (i : Nat) : w.frozen? ⟨g, i, none⟩ = false := by
  obtain ⟨cur, h1, _⟩ := h
  exact frozen_of_row w g i cur e h1
theorem Own.rd {w : World} {g cap : Nat} {e : TypeId} {l : List (BitVec 8)} (h : Own w g cap e l) : Rd w (some ⟨g, 0, none⟩) l :=
  Or.inr ⟨g, 0, rfl, fun i hi => by rw [Nat.zero_add]; exact h.cell i hi⟩
theorem Own.set {w : World} {g cap : Nat} {e : TypeId} {l : List (BitVec 8)} (h : Own w g cap e l) (i : Nat) (x : BitVec 8) : Own (w.setCell ⟨g, i, none⟩ (.int .u8 (n8 x))) g cap e (l.set i x) := by
  obtain ⟨cur, h1, h2, h3, h4⟩ := h
  refine ⟨cur.setIfInBounds i (.int .u8 (n8 x)), heap_setCell_same w g i cur e _ h1, by simp [h2], by simpa using h3, ?_⟩
  simp only [List.length_set, Array.toList_setIfInBounds]
  rw [List.take_set, h4]
  simp [bts, List.map_set]
theorem Own.take {w : World} {g cap : Nat} {e : TypeId} {l : List (BitVec 8)} (h : Own w g cap e l) (n : Nat) : Own w g cap e (l.take n) := by
  obtain ⟨cur, h1, h2, h3, h4⟩ := h
  refine ⟨cur, h1, h2, by simp; omega, ?_⟩
  have : bts (l.take n) = (bts l).take n := by simp [bts, List.map_take]
  rw [this, ← h4, List.take_take, List.length_take]
theorem Own.pre {w : World} {g cap : Nat} {e : TypeId} {l m : List (BitVec 8)} (h : Own w g cap e (l ++ m)) : Own w g cap e l := by
  have := h.take l.length
  rwa [List.take_left'] at this
  rfl
theorem owns_own {w : World} {B e : Nat} {v : Value} {n : Nat} {l : List (BitVec 8)} (h : w.ownsRow B e 1 v n (bts l)) (hl : 0 < l.length) :
    ∃ g cap, v = .slice (some ⟨g, 0, none⟩) l.length cap ∧ B ≤ g ∧ l.length ≤ cap ∧ cap ≤ maxLen ∧ Own w g cap e l := by
  obtain ⟨h1, h2⟩ := h
  have hn : n = l.length := by simpa [bts_length] using h1.symm
  subst hn
  rcases h2 with ⟨rfl, h0⟩ | ⟨g, cap, cur, rfl, hg, hh, hc, hm, hs, ht⟩
  · omega
  · exact ⟨g, cap, rfl, hg, hc, hm, cur, hh, by simpa using hs, hc, by simpa using ht⟩
/-- From an address on stand these whole numbers. -/
def Rn (w : World) (ao : Option Addr) (l : List Int) : Prop := l = [] ∨ ∃ b o, ao = some ⟨b, o, none⟩ ∧ ∀ i, i < l.length → w.cell? ⟨b, o + i, none⟩ = some (.int .i64 (l.getD i 0))
theorem Rn.on {w w' : World} {ao : Option Addr} {l : List Int} (h : Rn w ao l) (hb : Below w.heap.size w w') : Rn w' ao l := by
  rcases h with rfl | ⟨b, o, rfl, hc⟩
  · exact Or.inl rfl
  · refine Or.inr ⟨b, o, rfl, fun i hi => ?_⟩
    exact (hb.cell (p := ⟨b, o + i, none⟩) (lt_of_rd (hc i hi))).trans (hc i hi)
#print axioms owns_rd
end Go.Proofs.YthaiibfnjgfgjaaDoor
