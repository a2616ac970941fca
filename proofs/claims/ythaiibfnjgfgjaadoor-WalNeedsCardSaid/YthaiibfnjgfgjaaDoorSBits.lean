/- bits.Put, NewReader, Get of the widths that stand here. -/
import Derived.Test.YthaiibfnjgfgjaaDoorProg
import Derived.Test.YthaiibfnjgfgjaaDoorBv
import Derived.Test.YthaiibfnjgfgjaaDoorBytes2
import Derived.Test.YthaiibfnjgfgjaaDoorMem
import Derived.Test.YthaiibfnjgfgjaaDoorBitsNum
import Derived.Deep.QuietTactic
import Derived.BigQuiet
namespace Go.Proofs.YthaiibfnjgfgjaaDoor
open Go.RowKit
set_option maxRecDepth 20000
theorem pow_div (m : Nat) : ((256 ^ (m + 1) - 1 : Nat) : Int) / 256 = ((256 ^ m - 1 : Nat) : Int) := by
  have := Nat.pow_pos (n := m) (show 0 < 256 by omega)
  rw [Nat.pow_succ]; omega
theorem pow_ne (m : Nat) : (((256 ^ (m + 1) - 1 : Nat) : Int) != 0) = true := by
  have := Nat.pow_pos (n := m) (show 0 < 256 by omega)
  rw [Nat.pow_succ]; simp; omega
theorem width16 (w : World) : Calls Tryd.prog 73 #[] w fun e w' => e = .returned (.int .i64 2) ∧ w' = w := by
  go_enter Tryd.func73, Tryd.ntmps73
  go_wp2
  go_loop [1, 2] (fun n x => ∃ k m : Nat, k + m = 2 ∧ n = .int .i64 k ∧ x = .int .u64 ((256 ^ m - 1 : Nat) : Int)) (fun n _ => 2 - (intOf n).toNat)
  case atStart => exact ⟨0, 2, rfl, rfl, rfl⟩
  case round =>
    obtain ⟨k, m, hk, rfl, rfl⟩ := hrel
    cases m with
    | zero =>
      obtain rfl : k = 2 := by omega
      go_wp2
      go_ret
      exact ⟨rfl, rfl⟩
    | succ m =>
      have h1 := pow_div m
      have h2 := pow_ne m
      have h3 : 256 ^ m ≤ 256 ^ 8 := Nat.pow_le_pow_right (by omega) (by omega)
      go_wp2
      go_round
      case rel => exact ⟨k + 1, m, by omega, by go_num, rfl⟩
      case measure => simp [intOf]; omega
theorem width32 (w : World) : Calls Tryd.prog 74 #[] w fun e w' => e = .returned (.int .i64 4) ∧ w' = w := by
  go_enter Tryd.func74, Tryd.ntmps74
  go_wp2
  go_loop [1, 2] (fun n x => ∃ k m : Nat, k + m = 4 ∧ n = .int .i64 k ∧ x = .int .u64 ((256 ^ m - 1 : Nat) : Int)) (fun n _ => 4 - (intOf n).toNat)
  case atStart => exact ⟨0, 4, rfl, rfl, rfl⟩
  case round =>
    obtain ⟨k, m, hk, rfl, rfl⟩ := hrel
    cases m with
    | zero =>
      obtain rfl : k = 4 := by omega
      go_wp2
      go_ret
      exact ⟨rfl, rfl⟩
    | succ m =>
      have h1 := pow_div m
      have h2 := pow_ne m
      have h3 : 256 ^ m ≤ 256 ^ 8 := Nat.pow_le_pow_right (by omega) (by omega)
      go_wp2
      go_round
      case rel => exact ⟨k + 1, m, by omega, by go_num, rfl⟩
      case measure => simp [intOf]; omega
theorem width64 (w : World) : Calls Tryd.prog 87 #[] w fun e w' => e = .returned (.int .i64 8) ∧ w' = w := by
  go_enter Tryd.func87, Tryd.ntmps87
  go_wp2
  go_loop [1, 2] (fun n x => ∃ k m : Nat, k + m = 8 ∧ n = .int .i64 k ∧ x = .int .u64 ((256 ^ m - 1 : Nat) : Int)) (fun n _ => 8 - (intOf n).toNat)
  case atStart => exact ⟨0, 8, rfl, rfl, rfl⟩
  case round =>
    obtain ⟨k, m, hk, rfl, rfl⟩ := hrel
    cases m with
    | zero =>
      obtain rfl : k = 8 := by omega
      go_wp2
      go_ret
      exact ⟨rfl, rfl⟩
    | succ m =>
      have h1 := pow_div m
      have h2 := pow_ne m
      have h3 : 256 ^ m ≤ 256 ^ 8 := Nat.pow_le_pow_right (by omega) (by omega)
      go_wp2
      go_round
      case rel => exact ⟨k + 1, m, by omega, by go_num, rfl⟩
      case measure => simp [intOf]; omega
/-- A reader at p over the bytes l, whose memory is g, at place k, with error e; what is read may have been written over. -/
structure Rdr (w : World) (p g : Nat) (l : List (BitVec 8)) (k : Nat) (e : Int) : Prop where
  cells : w.heap[p]? = some (.cells #[.slice (some ⟨g, 0, none⟩) l.length l.length, .int .i64 k, .int .i64 e] 131 (0, 0))
  mem : ∃ c, w.heap[g]? = some (.cells c 5 (0, 0)) ∧ c.size = l.length ∧ ∀ i, k ≤ i → i < l.length → c[i]? = some (.int .u8 (n8 (l.getD i 0#8)))
  le : k ≤ l.length
  ne : p ≠ g
theorem Rdr.lt {w : World} {p g : Nat} {l : List (BitVec 8)} {k : Nat} {e : Int} (h : Rdr w p g l k e) : p < w.heap.size := (Array.getElem?_eq_some_iff.1 h.cells).1
theorem Rdr.lt' {w : World} {p g : Nat} {l : List (BitVec 8)} {k : Nat} {e : Int} (h : Rdr w p g l k e) : g < w.heap.size := by
  obtain ⟨c, h1, _⟩ := h.mem
  exact (Array.getElem?_eq_some_iff.1 h1).1
theorem Rdr.kept {w w' : World} {p g : Nat} {l : List (BitVec 8)} {k : Nat} {e : Int} (h : Rdr w p g l k e) (hp : w'.heap[p]? = w.heap[p]?) (hg : w'.heap[g]? = w.heap[g]?) : Rdr w' p g l k e :=
  ⟨hp.trans h.cells, by rw [hg]; exact h.mem, h.le, h.ne⟩
theorem Rdr.only {S : Nat → Prop} {w w' : World} {p g : Nat} {l : List (BitVec 8)} {k : Nat} {e : Int} (h : Rdr w p g l k e) (hb : Only S w w') (hp : ¬ S p) (hg : ¬ S g) : Rdr w' p g l k e :=
  h.kept (hb.block p h.lt hp) (hb.block g h.lt' hg)
theorem Rdr.below {w w' : World} {p g : Nat} {l : List (BitVec 8)} {k : Nat} {e : Int} (h : Rdr w p g l k e) (hb : Below w.heap.size w w') : Rdr w' p g l k e :=
  h.kept (hb.block p h.lt) (hb.block g h.lt')
theorem Rdr.still {w w' : World} {p g : Nat} {l : List (BitVec 8)} {k : Nat} {e : Int} (h : Rdr w p g l k e) (hs : Still w w') : Rdr w' p g l k e := h.below (hs.below _)
theorem Rdr.c0 {w : World} {p g : Nat} {l : List (BitVec 8)} {k : Nat} {e : Int} (h : Rdr w p g l k e) : w.cell? ⟨p, 0, none⟩ = some (.slice (some ⟨g, 0, none⟩) l.length l.length) := by
  rw [cell_of_row _ _ _ _ _ _ h.cells]; rfl
theorem Rdr.c1 {w : World} {p g : Nat} {l : List (BitVec 8)} {k : Nat} {e : Int} (h : Rdr w p g l k e) : w.cell? ⟨p, 1, none⟩ = some (.int .i64 k) := by
  rw [cell_of_row _ _ _ _ _ _ h.cells]; rfl
theorem Rdr.c2 {w : World} {p g : Nat} {l : List (BitVec 8)} {k : Nat} {e : Int} (h : Rdr w p g l k e) : w.cell? ⟨p, 2, none⟩ = some (.int .i64 e) := by
  rw [cell_of_row _ _ _ _ _ _ h.cells]; rfl
theorem Rdr.free {w : World} {p g : Nat} {l : List (BitVec 8)} {k : Nat} {e : Int} (h : Rdr w p g l k e) (i : Nat) : w.frozen? ⟨p, i, none⟩ = false := frozen_of_row _ _ _ _ _ h.cells
theorem Rdr.setErr {w : World} {p g : Nat} {l : List (BitVec 8)} {k : Nat} {e : Int} (h : Rdr w p g l k e) (x : Int) : Rdr (w.setCell ⟨p, 2, none⟩ (.int .i64 x)) p g l k x := by
  refine ⟨heap_setCell_same w p 2 _ _ _ h.cells, ?_, h.le, h.ne⟩
  rw [heap_setCell_other w _ g _ (Ne.symm h.ne)]; exact h.mem
theorem Rdr.setAt {w : World} {p g : Nat} {l : List (BitVec 8)} {k : Nat} {e : Int} (h : Rdr w p g l k e) (n : Nat) (hn : n ≤ l.length) (hk : k ≤ n) : Rdr (w.setCell ⟨p, 1, none⟩ (.int .i64 n)) p g l n e := by
  refine ⟨heap_setCell_same w p 1 _ _ _ h.cells, ?_, hn, h.ne⟩
  rw [heap_setCell_other w _ g _ (Ne.symm h.ne)]
  obtain ⟨c, h1, h2, h3⟩ := h.mem
  exact ⟨c, h1, h2, fun i hi => h3 i (by omega)⟩
theorem Rdr.rd {w : World} {p g : Nat} {l : List (BitVec 8)} {k : Nat} {e : Int} (h : Rdr w p g l k e) (n : Nat) : Rd w (some ⟨g, k, none⟩) ((l.drop k).take n) := by
  obtain ⟨c, h1, h2, h3⟩ := h.mem
  refine Or.inr ⟨g, k, rfl, fun i hi => ?_⟩
  simp only [List.length_take, List.length_drop] at hi
  rw [cell_of_row _ _ _ _ _ _ h1, h3 (k + i) (by omega) (by omega)]
  simp [List.getD, show i < n by omega]
theorem newReader (ao : Option Addr) (l : List (BitVec 8)) (cap : Nat) (w : World) (hl : l.length ≤ 140737488351232) (hr : Rd w ao l) :
   Calls Tryd.prog 77 #[.slice ao l.length cap] w fun e w' => ∃ p g, e = .returned (.pointer (some ⟨p, 0, none⟩)) ∧ w.heap.size ≤ p ∧ w.heap.size ≤ g ∧ Rdr w' p g l 0 0 ∧ Below w.heap.size w w' := by
  obtain ⟨i0, hi, hz0, hz1, hz2⟩ := info_parts info_u8
  go_enter Tryd.func77, Tryd.ntmps77
  go_wp2_with (at_make; refine wpList_make_bytes rfl _ _ 29 rfl 5 i0 Tryd.underlying29 hi hz0 hz1 hz2 .i64 .i64 l.length (by go_num) (by go_num) (by omega) ?_)
  intro w2 hO hs2 hB2
  have hr2 := hr.on hB2.fresh
  go_wp2_with (with_reducible refine wpList_copy_bytes rfl (.tmp 12) (.tmp 13) 29 29 rfl 5 i0 Tryd.underlying29 hi hz1 w.heap.size l.length l.length ao l.length cap ?hd ?hs l.length 5 (List.replicate l.length 0#8) l ?hO ?hL ?hr rfl ?hmn ?_)
  case hd => rfl
  case hs => rfl
  case hO => exact hO.only (Only.alloc (fun _ => False) _ _) (fun h => h)
  case hL => simp
  case hr => exact hr2.only (Only.alloc (fun _ => False) _ _) (fun _ _ h => h)
  case hmn => omega
  intro w3 hO3 hs3 hB3
  have hp : w3.heap[w.heap.size + 1]? = some (.cells #[.slice (some ⟨w.heap.size, 0, none⟩) l.length l.length, .int .i64 0, .int .i64 0] 131 (0, 0)) := by
    rw [hB3.block (w.heap.size + 1) (by show _ < (w2.heap.push _).size; simp; omega) (by omega), ← hs2]
    exact heap_alloc_new w2 _
  have hb : Below w.heap.size w w3 := (((hB2.trans (Only.alloc (fun _ => False) w2 _)).mono (T := fun k => k = w.heap.size) (fun _ _ h => h.elim)).trans hB3).below (fun _ h => by omega) (Nat.le_refl _)
  have HO := Lib.hid hO3
  have HP := Lib.hid hp
  clear hO3 hp hO hr2 hr
  go_wp2
  go_ret
  refine ⟨w.heap.size + 1, w.heap.size, rfl, by omega, Nat.le_refl _, ⟨HP.out, ?_, Nat.zero_le _, by omega⟩, hb⟩
  obtain ⟨c, h1, h2, h3, h4⟩ := HO.out
  refine ⟨c, h1, h2, fun i _ hi => ?_⟩
  rw [← bts_get l i hi]
  have h5 : c.toList.take l.length = bts l := by simpa using h4
  rw [← h5]
  simp [hi]
/-- The error behind a read of n bytes that fails. -/
def failE (l : List (BitVec 8)) (k : Nat) (e n : Int) : Int := if e ≠ 0 then e else if n < 0 then 11 else if (l.length : Int) - k < n then 10 else 0
theorem takeNo {w : World} {p g : Nat} {l : List (BitVec 8)} {k : Nat} {e : Int} (h : Rdr w p g l k e) (hl : l.length ≤ 140737488351232) (n : Int) (hno : ¬ (e = 0 ∧ 0 ≤ n ∧ n ≤ (l.length : Int) - k)) :
   Calls Tryd.prog 85 #[.pointer (some ⟨p, 0, none⟩), .int .i64 n] w fun x w' => x = .returned (.tuple #[.slice none 0 0, .bool false]) ∧ Rdr w' p g l k (failE l k e n) ∧ failE l k e n ≠ 0 ∧ Only (fun j => j = p) w w' := by
  have h0 := h.c0
  have h1 := h.c1
  have h2 := h.c2
  have hk := h.le
  have hf := h.free 2
  have H := Lib.hid h
  have HNO := Lib.hid hno
  clear hno
  by_cases he : e = 0
  · subst he
    by_cases hn : n < 0
    · clear h
      go_enter Tryd.func85, Tryd.ntmps85
      go_wp2
      go_ret2
      have : failE l k 0 n = 11 := by simp [failE, hn]
      rw [this]
      exact ⟨rfl, H.out.setErr 11, by decide, Only.setCell _ _ _ _⟩
    · have hn2 : (l.length : Int) - k < n := by
        by_cases h3 : (l.length : Int) - k < n
        · exact h3
        · exact absurd ⟨rfl, by omega, by omega⟩ HNO.out
      clear h
      go_enter Tryd.func85, Tryd.ntmps85
      go_wp2_with fail
      go_quiet (fail)
      go_wp2
      go_ret2
      have : failE l k 0 n = 10 := by simp [failE, hn, hn2]
      rw [this]
      have hS := (Still.refl w).drewN nq
      exact ⟨rfl, (H.out.still hS).setErr 10, by decide, ((Still.refl w).drewN _).only.trans (Only.setCell _ _ _ _)⟩
  · have hne : (e != 0) = true := by simpa using he
    clear h hf
    go_enter Tryd.func85, Tryd.ntmps85
    go_wp2
    go_ret2
    have : failE l k e n = e := by simp [failE, he]
    rw [this]
    exact ⟨rfl, H.out, he, Only.refl _ _⟩
theorem takeYes {w : World} {p g : Nat} {l : List (BitVec 8)} {k : Nat} (h : Rdr w p g l k 0) (hl : l.length ≤ 140737488351232) (n : Nat) (hn : k + n ≤ l.length) :
   Calls Tryd.prog 85 #[.pointer (some ⟨p, 0, none⟩), .int .i64 n] w fun x w' => ∃ ao, x = .returned (.tuple #[.slice ao n n, .bool true]) ∧ (0 < n → ao = some ⟨g, k, none⟩) ∧ Rdr w' p g l (k + n) 0 ∧ Only (fun j => j = p) w w' := by
  have h0 := h.c0
  have h1 := h.c1
  have h2 := h.c2
  have hf := h.free 1
  have H := Lib.hid h
  clear h
  rcases Nat.eq_zero_or_pos n with rfl | hn0
  · go_enter Tryd.func85, Tryd.ntmps85
    go_wp2_with fail
    go_quiet (fail)
    go_wp2_with fail
    go_quiet (fail)
    go_wp2
    go_ret2
    exact ⟨_, rfl, fun h => by omega, (H.out.still ((Still.refl w).drewN _)).setAt k hn (Nat.le_refl _), ((Still.refl w).drewN _).only.trans (Only.setCell _ _ _ _)⟩
  · have hne : ¬ (n = 0) := by omega
    have hkn : k + n - k = n := by omega
    go_enter Tryd.func85, Tryd.ntmps85
    go_wp2_with fail
    go_quiet (fail)
    go_wp2_with fail
    go_quiet (fail)
    go_wp2
    go_ret2
    exact ⟨some ⟨g, k, none⟩, by show Ending.returned (.tuple #[.slice (some ⟨g, k, none⟩) (k + n - k) (k + n - k), .bool true]) = _; rw [hkn], fun _ => rfl, (H.out.still ((Still.refl w).drewN _)).setAt (k + n) hn (by omega), ((Still.refl w).drewN _).only.trans (Only.setCell _ _ _ _)⟩
theorem put16 (ao : Option Addr) (l : List (BitVec 8)) (cap : Nat) (x : BitVec 16) (w : World) (hl : l.length ≤ 140737488351232) (hr : Rd w ao l) :
   Calls Tryd.prog 61 #[.slice ao l.length cap, .int .u16 (n16 x)] w fun e w' => ∃ g, e = .returned (.slice (some ⟨g, 0, none⟩) (l.length + 2) (l.length + 2)) ∧ w.heap.size ≤ g ∧ Own w' g (l.length + 2) 5 (l ++ be (x.setWidth 64) 2) ∧ Below w.heap.size w w' := by
  obtain ⟨i0, hi, hz0, hz1, hz2⟩ := info_parts info_u8
  go_enter Tryd.func61, Tryd.ntmps61
  go_wp2_with fail
  refine (width16 w).mono ?_
  rintro e w1 ⟨rfl, rfl⟩
  go_wp2_with (at_make; go_loud (refine wpList_make_bytes rfl _ _ 29 rfl 5 i0 Tryd.underlying29 hi hz0 hz1 hz2 .i64 .i64 (l.length + 2) (by go_num) (by go_num) (by omega) ?_))
  intro w2 hO hs2 hB2
  have hr2 := hr.on hB2.fresh
  go_wp2_with (with_reducible refine wpList_copy_bytes rfl (.tmp 14) (.tmp 15) 29 29 rfl 5 i0 Tryd.underlying29 hi hz1 w1.heap.size (l.length + 2) (l.length + 2) ao l.length cap ?hd ?hs _ _ _ _ hO ?hL hr2 rfl ?hmn ?_)
  case hd => rfl
  case hs => rfl
  case hL => simp
  case hmn => omega
  intro w3 hO3 hs3 hB3
  have hB : Below w1.heap.size w1 w3 := ((hB2.mono (fun _ _ h => h.elim)).trans (S := fun k => k = w1.heap.size) hB3).below (fun _ h => by omega) (Nat.le_refl _)
  generalize hgg : w1.heap.size = g at *
  have hO3' := Lib.hid hO3
  clear hO3 hO hs2 hr2 hr hB2 hB3
  go_wp2_with fail
  go_loopw [18] (fun i wr => ∃ k : Nat, k ≤ 2 ∧ i = .int .i64 k ∧ Own wr g (l.length + 2) 5 (l ++ List.replicate (2 - k) 0#8 ++ be (x.setWidth 64) k) ∧ Below g w1 wr) (fun i _ => 2 - (intOf i).toNat)
  case atStart => exact ⟨0, Nat.zero_le _, rfl, by simpa [be] using hO3'.out, hB⟩
  case round =>
    obtain ⟨k, hk, rfl, hO, hB⟩ := hrel
    by_cases hlt : k < 2
    · have hc := hO.cell (l.length + 1 - k) (by simp [be_length]; omega)
      have hf := hO.free (l.length + 1 - k)
      have hS := hO.set (l.length + 1 - k) (((x.setWidth 64) >>> (8 * k)).setWidth 8)
      rw [be_step l (x.setWidth 64) 2 k _ hlt (by omega)] at hS
      have HS := Lib.hid hS
      have hB2 : Below g w1 (wr.setCell ⟨g, l.length + 1 - k, none⟩ (.int .u8 (n8 (((x.setWidth 64) >>> (8 * k)).setWidth 8)))) := hB.trans ((Only.setCell wr g _ _).below (B := g) (fun _ h => by omega) (Nat.le_of_lt hO.lt))
      clear hS hO
      go_wp2_with fail
      go_roundw
      case rel => exact ⟨k + 1, by omega, by go_num, HS.out, hB2⟩
      case measure => simp [intOf]; omega
    · obtain rfl : k = 2 := by omega
      go_wp2
      go_ret
      exact ⟨g, rfl, by omega, by simpa using hO, hgg ▸ hB⟩
theorem put32 (ao : Option Addr) (l : List (BitVec 8)) (cap : Nat) (x : BitVec 32) (w : World) (hl : l.length ≤ 140737488351232) (hr : Rd w ao l) :
   Calls Tryd.prog 62 #[.slice ao l.length cap, .int .u32 (n32 x)] w fun e w' => ∃ g, e = .returned (.slice (some ⟨g, 0, none⟩) (l.length + 4) (l.length + 4)) ∧ w.heap.size ≤ g ∧ Own w' g (l.length + 4) 5 (l ++ be (x.setWidth 64) 4) ∧ Below w.heap.size w w' := by
  obtain ⟨i0, hi, hz0, hz1, hz2⟩ := info_parts info_u8
  go_enter Tryd.func62, Tryd.ntmps62
  go_wp2_with fail
  refine (width32 w).mono ?_
  rintro e w1 ⟨rfl, rfl⟩
  go_wp2_with (at_make; go_loud (refine wpList_make_bytes rfl _ _ 29 rfl 5 i0 Tryd.underlying29 hi hz0 hz1 hz2 .i64 .i64 (l.length + 4) (by go_num) (by go_num) (by omega) ?_))
  intro w2 hO hs2 hB2
  have hr2 := hr.on hB2.fresh
  go_wp2_with (with_reducible refine wpList_copy_bytes rfl (.tmp 14) (.tmp 15) 29 29 rfl 5 i0 Tryd.underlying29 hi hz1 w1.heap.size (l.length + 4) (l.length + 4) ao l.length cap ?hd ?hs _ _ _ _ hO ?hL hr2 rfl ?hmn ?_)
  case hd => rfl
  case hs => rfl
  case hL => simp
  case hmn => omega
  intro w3 hO3 hs3 hB3
  have hB : Below w1.heap.size w1 w3 := ((hB2.mono (fun _ _ h => h.elim)).trans (S := fun k => k = w1.heap.size) hB3).below (fun _ h => by omega) (Nat.le_refl _)
  generalize hgg : w1.heap.size = g at *
  have hO3' := Lib.hid hO3
  clear hO3 hO hs2 hr2 hr hB2 hB3
  go_wp2_with fail
  go_loopw [18] (fun i wr => ∃ k : Nat, k ≤ 4 ∧ i = .int .i64 k ∧ Own wr g (l.length + 4) 5 (l ++ List.replicate (4 - k) 0#8 ++ be (x.setWidth 64) k) ∧ Below g w1 wr) (fun i _ => 4 - (intOf i).toNat)
  case atStart => exact ⟨0, Nat.zero_le _, rfl, by simpa [be] using hO3'.out, hB⟩
  case round =>
    obtain ⟨k, hk, rfl, hO, hB⟩ := hrel
    by_cases hlt : k < 4
    · have hc := hO.cell (l.length + 3 - k) (by simp [be_length]; omega)
      have hf := hO.free (l.length + 3 - k)
      have hS := hO.set (l.length + 3 - k) (((x.setWidth 64) >>> (8 * k)).setWidth 8)
      rw [be_step l (x.setWidth 64) 4 k _ hlt (by omega)] at hS
      have HS := Lib.hid hS
      have hB2 : Below g w1 (wr.setCell ⟨g, l.length + 3 - k, none⟩ (.int .u8 (n8 (((x.setWidth 64) >>> (8 * k)).setWidth 8)))) := hB.trans ((Only.setCell wr g _ _).below (B := g) (fun _ h => by omega) (Nat.le_of_lt hO.lt))
      clear hS hO
      go_wp2_with fail
      go_roundw
      case rel => exact ⟨k + 1, by omega, by go_num, HS.out, hB2⟩
      case measure => simp [intOf]; omega
    · obtain rfl : k = 4 := by omega
      go_wp2
      go_ret
      exact ⟨g, rfl, by omega, by simpa using hO, hgg ▸ hB⟩
theorem put64 (ao : Option Addr) (l : List (BitVec 8)) (cap : Nat) (x : BitVec 64) (w : World) (hl : l.length ≤ 140737488351232) (hr : Rd w ao l) :
   Calls Tryd.prog 82 #[.slice ao l.length cap, .int .u64 (n64 x)] w fun e w' => ∃ g, e = .returned (.slice (some ⟨g, 0, none⟩) (l.length + 8) (l.length + 8)) ∧ w.heap.size ≤ g ∧ Own w' g (l.length + 8) 5 (l ++ be x 8) ∧ Below w.heap.size w w' := by
  obtain ⟨i0, hi, hz0, hz1, hz2⟩ := info_parts info_u8
  go_enter Tryd.func82, Tryd.ntmps82
  go_wp2_with fail
  refine (width64 w).mono ?_
  rintro e w1 ⟨rfl, rfl⟩
  go_wp2_with (at_make; go_loud (refine wpList_make_bytes rfl _ _ 29 rfl 5 i0 Tryd.underlying29 hi hz0 hz1 hz2 .i64 .i64 (l.length + 8) (by go_num) (by go_num) (by omega) ?_))
  intro w2 hO hs2 hB2
  have hr2 := hr.on hB2.fresh
  go_wp2_with (with_reducible refine wpList_copy_bytes rfl (.tmp 14) (.tmp 15) 29 29 rfl 5 i0 Tryd.underlying29 hi hz1 w1.heap.size (l.length + 8) (l.length + 8) ao l.length cap ?hd ?hs _ _ _ _ hO ?hL hr2 rfl ?hmn ?_)
  case hd => rfl
  case hs => rfl
  case hL => simp
  case hmn => omega
  intro w3 hO3 hs3 hB3
  have hB : Below w1.heap.size w1 w3 := ((hB2.mono (fun _ _ h => h.elim)).trans (S := fun k => k = w1.heap.size) hB3).below (fun _ h => by omega) (Nat.le_refl _)
  generalize hgg : w1.heap.size = g at *
  have hO3' := Lib.hid hO3
  clear hO3 hO hs2 hr2 hr hB2 hB3
  go_wp2_with fail
  go_loopw [18] (fun i wr => ∃ k : Nat, k ≤ 8 ∧ i = .int .i64 k ∧ Own wr g (l.length + 8) 5 (l ++ List.replicate (8 - k) 0#8 ++ be x k) ∧ Below g w1 wr) (fun i _ => 8 - (intOf i).toNat)
  case atStart => exact ⟨0, Nat.zero_le _, rfl, by simpa [be] using hO3'.out, hB⟩
  case round =>
    obtain ⟨k, hk, rfl, hO, hB⟩ := hrel
    by_cases hlt : k < 8
    · have hc := hO.cell (l.length + 7 - k) (by simp [be_length]; omega)
      have hf := hO.free (l.length + 7 - k)
      have hS := hO.set (l.length + 7 - k) ((x >>> (8 * k)).setWidth 8)
      rw [be_step l x 8 k _ hlt (by omega)] at hS
      have HS := Lib.hid hS
      have hB2 : Below g w1 (wr.setCell ⟨g, l.length + 7 - k, none⟩ (.int .u8 (n8 ((x >>> (8 * k)).setWidth 8)))) := hB.trans ((Only.setCell wr g _ _).below (B := g) (fun _ h => by omega) (Nat.le_of_lt hO.lt))
      clear hS hO
      go_wp2_with fail
      go_roundw
      case rel => exact ⟨k + 1, by omega, by go_num, HS.out, hB2⟩
      case measure => simp [intOf]; omega
    · obtain rfl : k = 8 := by omega
      go_wp2
      go_ret
      exact ⟨g, rfl, by omega, by simpa using hO, hgg ▸ hB⟩
theorem val_step (m : List (BitVec 8)) (j : Nat) (hj : j < m.length) : val (m.take (j + 1)) = (val (m.take j) <<< 8) ||| (m.getD j 0#8).setWidth 64 := by
  rw [List.take_succ_eq_append_getElem hj, val_snoc]
  simp [List.getD, hj]
theorem n8_z : n8 0#8 = 0 := by unfold n8; rfl
theorem n16_z : n16 0#16 = 0 := by unfold n16; rfl
theorem n32_z : n32 0#32 = 0 := by unfold n32; rfl
theorem n64_z : n64 0#64 = 0 := by unfold n64; rfl
theorem getNo16 {w : World} {p g : Nat} {l : List (BitVec 8)} {k : Nat} {e : Int} (h : Rdr w p g l k e) (hl : l.length ≤ 140737488351232) (hno : ¬ (e = 0 ∧ k + 2 ≤ l.length)) :
   Calls Tryd.prog 84 #[.pointer (some ⟨p, 0, none⟩)] w fun x w' => x = .returned (.int .u16 0) ∧ Rdr w' p g l k (failE l k e 2) ∧ failE l k e 2 ≠ 0 ∧ Only (fun j => j = p) w w' := by
  go_enter Tryd.func84, Tryd.ntmps84
  go_wp2_with fail
  refine (width16 w).mono ?_
  rintro e w1 ⟨rfl, rfl⟩
  go_wp2_with fail
  refine (takeNo h hl 2 (fun ⟨h1, _, h2⟩ => hno ⟨h1, by have := h.le; omega⟩)).mono ?_
  rintro x w2 ⟨rfl, h1, h2, h3⟩
  have H1 := Lib.hid h1
  have H2 := Lib.hid h2
  clear h hno h1 h2
  go_wp2
  go_ret
  exact ⟨rfl, H1.out, H2.out, h3⟩
theorem getYes16 {w : World} {p g : Nat} {l : List (BitVec 8)} {k : Nat} (h : Rdr w p g l k 0) (hl : l.length ≤ 140737488351232) (hn : k + 2 ≤ l.length) :
   Calls Tryd.prog 84 #[.pointer (some ⟨p, 0, none⟩)] w fun x w' => x = .returned (.int .u16 (n16 ((val ((l.drop k).take 2)).setWidth 16))) ∧ Rdr w' p g l (k + 2) 0 ∧ Only (fun j => j = p) w w' := by
  have hrd := h.rd 2
  have hgp := h.ne
  have hml : ((l.drop k).take 2).length = 2 := by simp; omega
  go_enter Tryd.func84, Tryd.ntmps84
  go_wp2_with fail
  refine (width16 w).mono ?_
  rintro e w0 ⟨rfl, rfl⟩
  go_wp2_with fail
  refine (takeYes h hl 2 hn).mono ?_
  rintro x w1 ⟨ao, rfl, h0, h1, h3⟩
  have hr1 : Rd w1 ao ((l.drop k).take 2) := by
    rw [h0 (by omega)]; exact hrd.only h3 (fun a ha => by cases ha; exact Ne.symm hgp)
  obtain ⟨m, hm⟩ : ∃ m, (l.drop k).take 2 = m := ⟨_, rfl⟩
  rw [hm] at hr1 hml
  have HM := Lib.hid hm
  have H1 := Lib.hid h1
  clear h h1 h0 hrd hm
  obtain ⟨b, o, rfl, hc⟩ := hr1.at (by omega)
  clear hr1
  go_wp2_with fail
  go_loop [5, 18] (fun x i => ∃ j : Nat, j ≤ 2 ∧ i = .int .i64 j ∧ x = .int .u64 (n64 (val (m.take j)))) (fun _ i => 2 - (intOf i).toNat)
  case atStart => exact ⟨0, Nat.zero_le _, rfl, by simp [val, n64_z]⟩
  case round =>
    obtain ⟨j, hj, rfl, rfl⟩ := hrel
    by_cases hlt : j < 2
    · have hcj := hc j (by omega)
      have hv := val_step m j (by omega)
      obtain ⟨y, hy⟩ : ∃ y, m.getD j 0#8 = y := ⟨_, rfl⟩
      rw [hy] at hcj hv
      have HV := Lib.hid hv
      obtain ⟨a, ha⟩ : ∃ a, val (m.take j) = a := ⟨_, rfl⟩
      rw [ha] at HV ⊢
      clear hc hy hv ha
      go_wp2
      go_round
      case rel => exact ⟨j + 1, by omega, by go_num, by rw [HV.out]⟩
      case measure => simp [intOf]; omega
    · obtain rfl : j = 2 := by omega
      have hmt : m.take 2 = m := List.take_of_length_le (by omega)
      rw [hmt]
      obtain ⟨a, ha⟩ : ∃ a, val m = a := ⟨_, rfl⟩
      rw [ha]
      have HA := Lib.hid ha
      clear hc ha hmt
      go_wp2
      go_ret
      exact ⟨by rw [HM.out, HA.out]; rfl, H1.out, h3⟩
theorem getNo32 {w : World} {p g : Nat} {l : List (BitVec 8)} {k : Nat} {e : Int} (h : Rdr w p g l k e) (hl : l.length ≤ 140737488351232) (hno : ¬ (e = 0 ∧ k + 4 ≤ l.length)) :
   Calls Tryd.prog 78 #[.pointer (some ⟨p, 0, none⟩)] w fun x w' => x = .returned (.int .u32 0) ∧ Rdr w' p g l k (failE l k e 4) ∧ failE l k e 4 ≠ 0 ∧ Only (fun j => j = p) w w' := by
  go_enter Tryd.func78, Tryd.ntmps78
  go_wp2_with fail
  refine (width32 w).mono ?_
  rintro e w1 ⟨rfl, rfl⟩
  go_wp2_with fail
  refine (takeNo h hl 4 (fun ⟨h1, _, h2⟩ => hno ⟨h1, by have := h.le; omega⟩)).mono ?_
  rintro x w2 ⟨rfl, h1, h2, h3⟩
  have H1 := Lib.hid h1
  have H2 := Lib.hid h2
  clear h hno h1 h2
  go_wp2
  go_ret
  exact ⟨rfl, H1.out, H2.out, h3⟩
theorem getYes32 {w : World} {p g : Nat} {l : List (BitVec 8)} {k : Nat} (h : Rdr w p g l k 0) (hl : l.length ≤ 140737488351232) (hn : k + 4 ≤ l.length) :
   Calls Tryd.prog 78 #[.pointer (some ⟨p, 0, none⟩)] w fun x w' => x = .returned (.int .u32 (n32 ((val ((l.drop k).take 4)).setWidth 32))) ∧ Rdr w' p g l (k + 4) 0 ∧ Only (fun j => j = p) w w' := by
  have hrd := h.rd 4
  have hgp := h.ne
  have hml : ((l.drop k).take 4).length = 4 := by simp; omega
  go_enter Tryd.func78, Tryd.ntmps78
  go_wp2_with fail
  refine (width32 w).mono ?_
  rintro e w0 ⟨rfl, rfl⟩
  go_wp2_with fail
  refine (takeYes h hl 4 hn).mono ?_
  rintro x w1 ⟨ao, rfl, h0, h1, h3⟩
  have hr1 : Rd w1 ao ((l.drop k).take 4) := by
    rw [h0 (by omega)]; exact hrd.only h3 (fun a ha => by cases ha; exact Ne.symm hgp)
  obtain ⟨m, hm⟩ : ∃ m, (l.drop k).take 4 = m := ⟨_, rfl⟩
  rw [hm] at hr1 hml
  have HM := Lib.hid hm
  have H1 := Lib.hid h1
  clear h h1 h0 hrd hm
  obtain ⟨b, o, rfl, hc⟩ := hr1.at (by omega)
  clear hr1
  go_wp2_with fail
  go_loop [5, 18] (fun x i => ∃ j : Nat, j ≤ 4 ∧ i = .int .i64 j ∧ x = .int .u64 (n64 (val (m.take j)))) (fun _ i => 4 - (intOf i).toNat)
  case atStart => exact ⟨0, Nat.zero_le _, rfl, by simp [val, n64_z]⟩
  case round =>
    obtain ⟨j, hj, rfl, rfl⟩ := hrel
    by_cases hlt : j < 4
    · have hcj := hc j (by omega)
      have hv := val_step m j (by omega)
      obtain ⟨y, hy⟩ : ∃ y, m.getD j 0#8 = y := ⟨_, rfl⟩
      rw [hy] at hcj hv
      have HV := Lib.hid hv
      obtain ⟨a, ha⟩ : ∃ a, val (m.take j) = a := ⟨_, rfl⟩
      rw [ha] at HV ⊢
      clear hc hy hv ha
      go_wp2
      go_round
      case rel => exact ⟨j + 1, by omega, by go_num, by rw [HV.out]⟩
      case measure => simp [intOf]; omega
    · obtain rfl : j = 4 := by omega
      have hmt : m.take 4 = m := List.take_of_length_le (by omega)
      rw [hmt]
      obtain ⟨a, ha⟩ : ∃ a, val m = a := ⟨_, rfl⟩
      rw [ha]
      have HA := Lib.hid ha
      clear hc ha hmt
      go_wp2
      go_ret
      exact ⟨by rw [HM.out, HA.out]; rfl, H1.out, h3⟩
theorem getNo64 {w : World} {p g : Nat} {l : List (BitVec 8)} {k : Nat} {e : Int} (h : Rdr w p g l k e) (hl : l.length ≤ 140737488351232) (hno : ¬ (e = 0 ∧ k + 8 ≤ l.length)) :
   Calls Tryd.prog 83 #[.pointer (some ⟨p, 0, none⟩)] w fun x w' => x = .returned (.int .u64 0) ∧ Rdr w' p g l k (failE l k e 8) ∧ failE l k e 8 ≠ 0 ∧ Only (fun j => j = p) w w' := by
  go_enter Tryd.func83, Tryd.ntmps83
  go_wp2_with fail
  refine (width64 w).mono ?_
  rintro e w1 ⟨rfl, rfl⟩
  go_wp2_with fail
  refine (takeNo h hl 8 (fun ⟨h1, _, h2⟩ => hno ⟨h1, by have := h.le; omega⟩)).mono ?_
  rintro x w2 ⟨rfl, h1, h2, h3⟩
  have H1 := Lib.hid h1
  have H2 := Lib.hid h2
  clear h hno h1 h2
  go_wp2
  go_ret
  exact ⟨rfl, H1.out, H2.out, h3⟩
theorem getYes64 {w : World} {p g : Nat} {l : List (BitVec 8)} {k : Nat} (h : Rdr w p g l k 0) (hl : l.length ≤ 140737488351232) (hn : k + 8 ≤ l.length) :
   Calls Tryd.prog 83 #[.pointer (some ⟨p, 0, none⟩)] w fun x w' => x = .returned (.int .u64 (n64 (val ((l.drop k).take 8)))) ∧ Rdr w' p g l (k + 8) 0 ∧ Only (fun j => j = p) w w' := by
  have hrd := h.rd 8
  have hgp := h.ne
  have hml : ((l.drop k).take 8).length = 8 := by simp; omega
  go_enter Tryd.func83, Tryd.ntmps83
  go_wp2_with fail
  refine (width64 w).mono ?_
  rintro e w0 ⟨rfl, rfl⟩
  go_wp2_with fail
  refine (takeYes h hl 8 hn).mono ?_
  rintro x w1 ⟨ao, rfl, h0, h1, h3⟩
  have hr1 : Rd w1 ao ((l.drop k).take 8) := by
    rw [h0 (by omega)]; exact hrd.only h3 (fun a ha => by cases ha; exact Ne.symm hgp)
  obtain ⟨m, hm⟩ : ∃ m, (l.drop k).take 8 = m := ⟨_, rfl⟩
  rw [hm] at hr1 hml
  have HM := Lib.hid hm
  have H1 := Lib.hid h1
  clear h h1 h0 hrd hm
  obtain ⟨b, o, rfl, hc⟩ := hr1.at (by omega)
  clear hr1
  go_wp2_with fail
  go_loop [5, 18] (fun x i => ∃ j : Nat, j ≤ 8 ∧ i = .int .i64 j ∧ x = .int .u64 (n64 (val (m.take j)))) (fun _ i => 8 - (intOf i).toNat)
  case atStart => exact ⟨0, Nat.zero_le _, rfl, by simp [val, n64_z]⟩
  case round =>
    obtain ⟨j, hj, rfl, rfl⟩ := hrel
    by_cases hlt : j < 8
    · have hcj := hc j (by omega)
      have hv := val_step m j (by omega)
      obtain ⟨y, hy⟩ : ∃ y, m.getD j 0#8 = y := ⟨_, rfl⟩
      rw [hy] at hcj hv
      have HV := Lib.hid hv
      obtain ⟨a, ha⟩ : ∃ a, val (m.take j) = a := ⟨_, rfl⟩
      rw [ha] at HV ⊢
      clear hc hy hv ha
      go_wp2
      go_round
      case rel => exact ⟨j + 1, by omega, by go_num, by rw [HV.out]⟩
      case measure => simp [intOf]; omega
    · obtain rfl : j = 8 := by omega
      have hmt : m.take 8 = m := List.take_of_length_le (by omega)
      rw [hmt]
      obtain ⟨a, ha⟩ : ∃ a, val m = a := ⟨_, rfl⟩
      rw [ha]
      have HA := Lib.hid ha
      clear hc ha hmt
      go_wp2
      go_ret
      exact ⟨by rw [HM.out, HA.out]; rfl, H1.out, h3⟩
end Go.Proofs.YthaiibfnjgfgjaaDoor
