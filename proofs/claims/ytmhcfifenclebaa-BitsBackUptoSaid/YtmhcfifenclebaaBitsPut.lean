/- bits.Put of each type. -/
import Derived.Test.YtmhcfifenclebaaBitsW
import Derived.Test.YtmhcfifenclebaaBitsNum
import Derived.Test.YtmhcfifenclebaaMem
import Derived.Test.YtmhcfifenclebaaBytes2
namespace Go.Proofs.Ytmhcfifenclebaa
open Go.RowKit
theorem put8 (ao : Option Addr) (l : List (BitVec 8)) (cap : Nat) (x : BitVec 8) (w : World) (hl : l.length ≤ 140737488351232) (hr : Rd w ao l) :
   Calls Try.prog 27 #[.slice ao l.length cap, .int .u8 (n8 x)] w fun e w' => ∃ g, e = .returned (.slice (some ⟨g, 0, none⟩) (l.length + 1) (l.length + 1)) ∧ w.heap.size ≤ g ∧ Own w' g (l.length + 1) 5 (l ++ be (x.setWidth 64) 1) ∧ Below w.heap.size w w' := by
  obtain ⟨i0, hi, hz0, hz1, hz2⟩ := info_parts info_u8
  go_enter Try.func27, Try.ntmps27
  go_wp2_with fail
  refine (width8 w).mono ?_
  rintro e w1 ⟨rfl, rfl⟩
  go_wp2_with (at_make; go_loud (refine wpList_make_bytes rfl _ _ 22 rfl 5 i0 Try.underlying22 hi hz0 hz1 hz2 .i64 .i64 (l.length + 1) (by go_num) (by go_num) (by omega) ?_))
  intro w2 hO hs2 hB2
  have hr2 := hr.on hB2.fresh
  go_wp2_with (with_reducible refine wpList_copy_bytes rfl (.tmp 14) (.tmp 15) 22 22 rfl 5 i0 Try.underlying22 hi hz1 w1.heap.size (l.length + 1) (l.length + 1) ao l.length cap ?hd ?hs _ _ _ _ hO ?hL hr2 rfl ?hmn ?_)
  case hd => rfl
  case hs => rfl
  case hL => simp
  case hmn => omega
  intro w3 hO3 hs3 hB3
  have hB : Below w1.heap.size w1 w3 := ((hB2.mono (fun _ _ h => h.elim)).trans (S := fun k => k = w1.heap.size) hB3).below (fun _ h => by omega) (Nat.le_refl _)
  generalize hgg : w1.heap.size = g at *
  have hO3' := Lib.hid hO3
  clear hO3 hO hs2 hr2 hr hB2 hB3
  go_wp2_with fail
  go_loopw [18] (fun i wr => ∃ k : Nat, k ≤ 1 ∧ i = .int .i64 k ∧ Own wr g (l.length + 1) 5 (l ++ List.replicate (1 - k) 0#8 ++ be (x.setWidth 64) k) ∧ Below g w1 wr) (fun i _ => 1 - (intOf i).toNat)
  case atStart => exact ⟨0, Nat.zero_le _, rfl, by simpa [be] using hO3'.out, hB⟩
  case round =>
    obtain ⟨k, hk, rfl, hO, hB⟩ := hrel
    by_cases hlt : k < 1
    · have hc := hO.cell (l.length - k) (by simp [be_length]; omega)
      have hf := hO.free (l.length - k)
      have hS := hO.set (l.length - k) (((x.setWidth 64) >>> (8 * k)).setWidth 8)
      rw [be_step l (x.setWidth 64) 1 k _ hlt (by omega)] at hS
      have HS := Lib.hid hS
      have hB2 : Below g w1 (wr.setCell ⟨g, l.length - k, none⟩ (.int .u8 (n8 (((x.setWidth 64) >>> (8 * k)).setWidth 8)))) := hB.trans ((Only.setCell wr g _ _).below (B := g) (fun _ h => by omega) (Nat.le_of_lt hO.lt))
      clear hS hO
      go_wp2_with fail
      go_roundw
      case rel => exact ⟨k + 1, by omega, by go_num, HS.out, hB2⟩
      case measure => simp [intOf]; omega
    · obtain rfl : k = 1 := by omega
      go_wp2
      go_ret
      exact ⟨g, rfl, by omega, by simpa using hO, hgg ▸ hB⟩
theorem put16 (ao : Option Addr) (l : List (BitVec 8)) (cap : Nat) (x : BitVec 16) (w : World) (hl : l.length ≤ 140737488351232) (hr : Rd w ao l) :
   Calls Try.prog 23 #[.slice ao l.length cap, .int .u16 (n16 x)] w fun e w' => ∃ g, e = .returned (.slice (some ⟨g, 0, none⟩) (l.length + 2) (l.length + 2)) ∧ w.heap.size ≤ g ∧ Own w' g (l.length + 2) 5 (l ++ be (x.setWidth 64) 2) ∧ Below w.heap.size w w' := by
  obtain ⟨i0, hi, hz0, hz1, hz2⟩ := info_parts info_u8
  go_enter Try.func23, Try.ntmps23
  go_wp2_with fail
  refine (width16 w).mono ?_
  rintro e w1 ⟨rfl, rfl⟩
  go_wp2_with (at_make; go_loud (refine wpList_make_bytes rfl _ _ 22 rfl 5 i0 Try.underlying22 hi hz0 hz1 hz2 .i64 .i64 (l.length + 2) (by go_num) (by go_num) (by omega) ?_))
  intro w2 hO hs2 hB2
  have hr2 := hr.on hB2.fresh
  go_wp2_with (with_reducible refine wpList_copy_bytes rfl (.tmp 14) (.tmp 15) 22 22 rfl 5 i0 Try.underlying22 hi hz1 w1.heap.size (l.length + 2) (l.length + 2) ao l.length cap ?hd ?hs _ _ _ _ hO ?hL hr2 rfl ?hmn ?_)
  case hd => rfl
  case hs => rfl
  case hL => simp
  case hmn => omega
  intro w3 hO3 hs3 hB3
  have hB : Below w1.heap.size w1 w3 := ((hB2.mono (fun _ _ h => h.elim)).trans (S := fun k => k = w1.heap.size) hB3).below (fun _ h => by omega) (Nat.le_refl _)
  generalize hgg : w1.heap.size = g at *
  have hO3' := Lib.hid hO3
  clear hO3 hO hs2 hr2 hr hB2 hB3
  go_wp2_with fail
  go_loopw [18] (fun i wr => ∃ k : Nat, k ≤ 2 ∧ i = .int .i64 k ∧ Own wr g (l.length + 2) 5 (l ++ List.replicate (2 - k) 0#8 ++ be (x.setWidth 64) k) ∧ Below g w1 wr) (fun i _ => 2 - (intOf i).toNat)
  case atStart => exact ⟨0, Nat.zero_le _, rfl, by simpa [be] using hO3'.out, hB⟩
  case round =>
    obtain ⟨k, hk, rfl, hO, hB⟩ := hrel
    by_cases hlt : k < 2
    · have hc := hO.cell (l.length + 1 - k) (by simp [be_length]; omega)
      have hf := hO.free (l.length + 1 - k)
      have hS := hO.set (l.length + 1 - k) (((x.setWidth 64) >>> (8 * k)).setWidth 8)
      rw [be_step l (x.setWidth 64) 2 k _ hlt (by omega)] at hS
      have HS := Lib.hid hS
      have hB2 : Below g w1 (wr.setCell ⟨g, l.length + 1 - k, none⟩ (.int .u8 (n8 (((x.setWidth 64) >>> (8 * k)).setWidth 8)))) := hB.trans ((Only.setCell wr g _ _).below (B := g) (fun _ h => by omega) (Nat.le_of_lt hO.lt))
      clear hS hO
      go_wp2_with fail
      go_roundw
      case rel => exact ⟨k + 1, by omega, by go_num, HS.out, hB2⟩
      case measure => simp [intOf]; omega
    · obtain rfl : k = 2 := by omega
      go_wp2
      go_ret
      exact ⟨g, rfl, by omega, by simpa using hO, hgg ▸ hB⟩
theorem put32 (ao : Option Addr) (l : List (BitVec 8)) (cap : Nat) (x : BitVec 32) (w : World) (hl : l.length ≤ 140737488351232) (hr : Rd w ao l) :
   Calls Try.prog 28 #[.slice ao l.length cap, .int .u32 (n32 x)] w fun e w' => ∃ g, e = .returned (.slice (some ⟨g, 0, none⟩) (l.length + 4) (l.length + 4)) ∧ w.heap.size ≤ g ∧ Own w' g (l.length + 4) 5 (l ++ be (x.setWidth 64) 4) ∧ Below w.heap.size w w' := by
  obtain ⟨i0, hi, hz0, hz1, hz2⟩ := info_parts info_u8
  go_enter Try.func28, Try.ntmps28
  go_wp2_with fail
  refine (width32 w).mono ?_
  rintro e w1 ⟨rfl, rfl⟩
  go_wp2_with (at_make; go_loud (refine wpList_make_bytes rfl _ _ 22 rfl 5 i0 Try.underlying22 hi hz0 hz1 hz2 .i64 .i64 (l.length + 4) (by go_num) (by go_num) (by omega) ?_))
  intro w2 hO hs2 hB2
  have hr2 := hr.on hB2.fresh
  go_wp2_with (with_reducible refine wpList_copy_bytes rfl (.tmp 14) (.tmp 15) 22 22 rfl 5 i0 Try.underlying22 hi hz1 w1.heap.size (l.length + 4) (l.length + 4) ao l.length cap ?hd ?hs _ _ _ _ hO ?hL hr2 rfl ?hmn ?_)
  case hd => rfl
  case hs => rfl
  case hL => simp
  case hmn => omega
  intro w3 hO3 hs3 hB3
  have hB : Below w1.heap.size w1 w3 := ((hB2.mono (fun _ _ h => h.elim)).trans (S := fun k => k = w1.heap.size) hB3).below (fun _ h => by omega) (Nat.le_refl _)
  generalize hgg : w1.heap.size = g at *
  have hO3' := Lib.hid hO3
  clear hO3 hO hs2 hr2 hr hB2 hB3
  go_wp2_with fail
  go_loopw [18] (fun i wr => ∃ k : Nat, k ≤ 4 ∧ i = .int .i64 k ∧ Own wr g (l.length + 4) 5 (l ++ List.replicate (4 - k) 0#8 ++ be (x.setWidth 64) k) ∧ Below g w1 wr) (fun i _ => 4 - (intOf i).toNat)
  case atStart => exact ⟨0, Nat.zero_le _, rfl, by simpa [be] using hO3'.out, hB⟩
  case round =>
    obtain ⟨k, hk, rfl, hO, hB⟩ := hrel
    by_cases hlt : k < 4
    · have hc := hO.cell (l.length + 3 - k) (by simp [be_length]; omega)
      have hf := hO.free (l.length + 3 - k)
      have hS := hO.set (l.length + 3 - k) (((x.setWidth 64) >>> (8 * k)).setWidth 8)
      rw [be_step l (x.setWidth 64) 4 k _ hlt (by omega)] at hS
      have HS := Lib.hid hS
      have hB2 : Below g w1 (wr.setCell ⟨g, l.length + 3 - k, none⟩ (.int .u8 (n8 (((x.setWidth 64) >>> (8 * k)).setWidth 8)))) := hB.trans ((Only.setCell wr g _ _).below (B := g) (fun _ h => by omega) (Nat.le_of_lt hO.lt))
      clear hS hO
      go_wp2_with fail
      go_roundw
      case rel => exact ⟨k + 1, by omega, by go_num, HS.out, hB2⟩
      case measure => simp [intOf]; omega
    · obtain rfl : k = 4 := by omega
      go_wp2
      go_ret
      exact ⟨g, rfl, by omega, by simpa using hO, hgg ▸ hB⟩
theorem put64 (ao : Option Addr) (l : List (BitVec 8)) (cap : Nat) (x : BitVec 64) (w : World) (hl : l.length ≤ 140737488351232) (hr : Rd w ao l) :
   Calls Try.prog 24 #[.slice ao l.length cap, .int .u64 (n64 x)] w fun e w' => ∃ g, e = .returned (.slice (some ⟨g, 0, none⟩) (l.length + 8) (l.length + 8)) ∧ w.heap.size ≤ g ∧ Own w' g (l.length + 8) 5 (l ++ be x 8) ∧ Below w.heap.size w w' := by
  obtain ⟨i0, hi, hz0, hz1, hz2⟩ := info_parts info_u8
  go_enter Try.func24, Try.ntmps24
  go_wp2_with fail
  refine (width64 w).mono ?_
  rintro e w1 ⟨rfl, rfl⟩
  go_wp2_with (at_make; go_loud (refine wpList_make_bytes rfl _ _ 22 rfl 5 i0 Try.underlying22 hi hz0 hz1 hz2 .i64 .i64 (l.length + 8) (by go_num) (by go_num) (by omega) ?_))
  intro w2 hO hs2 hB2
  have hr2 := hr.on hB2.fresh
  go_wp2_with (with_reducible refine wpList_copy_bytes rfl (.tmp 14) (.tmp 15) 22 22 rfl 5 i0 Try.underlying22 hi hz1 w1.heap.size (l.length + 8) (l.length + 8) ao l.length cap ?hd ?hs _ _ _ _ hO ?hL hr2 rfl ?hmn ?_)
  case hd => rfl
  case hs => rfl
  case hL => simp
  case hmn => omega
  intro w3 hO3 hs3 hB3
  have hB : Below w1.heap.size w1 w3 := ((hB2.mono (fun _ _ h => h.elim)).trans (S := fun k => k = w1.heap.size) hB3).below (fun _ h => by omega) (Nat.le_refl _)
  generalize hgg : w1.heap.size = g at *
  have hO3' := Lib.hid hO3
  clear hO3 hO hs2 hr2 hr hB2 hB3
  go_wp2_with fail
  go_loopw [18] (fun i wr => ∃ k : Nat, k ≤ 8 ∧ i = .int .i64 k ∧ Own wr g (l.length + 8) 5 (l ++ List.replicate (8 - k) 0#8 ++ be x k) ∧ Below g w1 wr) (fun i _ => 8 - (intOf i).toNat)
  case atStart => exact ⟨0, Nat.zero_le _, rfl, by simpa [be] using hO3'.out, hB⟩
  case round =>
    obtain ⟨k, hk, rfl, hO, hB⟩ := hrel
    by_cases hlt : k < 8
    · have hc := hO.cell (l.length + 7 - k) (by simp [be_length]; omega)
      have hf := hO.free (l.length + 7 - k)
      have hS := hO.set (l.length + 7 - k) ((x >>> (8 * k)).setWidth 8)
      rw [be_step l x 8 k _ hlt (by omega)] at hS
      have HS := Lib.hid hS
      have hB2 : Below g w1 (wr.setCell ⟨g, l.length + 7 - k, none⟩ (.int .u8 (n8 ((x >>> (8 * k)).setWidth 8)))) := hB.trans ((Only.setCell wr g _ _).below (B := g) (fun _ h => by omega) (Nat.le_of_lt hO.lt))
      clear hS hO
      go_wp2_with fail
      go_roundw
      case rel => exact ⟨k + 1, by omega, by go_num, HS.out, hB2⟩
      case measure => simp [intOf]; omega
    · obtain rfl : k = 8 := by omega
      go_wp2
      go_ret
      exact ⟨g, rfl, by omega, by simpa using hO, hgg ▸ hB⟩
theorem putWord (ao : Option Addr) (l : List (BitVec 8)) (cap : Nat) (x : BitVec 16) (w : World) (hl : l.length ≤ 140737488351232) (hr : Rd w ao l) :
   Calls Try.prog 29 #[.slice ao l.length cap, .int .u16 (n16 x)] w fun e w' => ∃ g, e = .returned (.slice (some ⟨g, 0, none⟩) (l.length + 2) (l.length + 2)) ∧ w.heap.size ≤ g ∧ Own w' g (l.length + 2) 5 (l ++ be (x.setWidth 64) 2) ∧ Below w.heap.size w w' := by
  obtain ⟨i0, hi, hz0, hz1, hz2⟩ := info_parts info_u8
  go_enter Try.func29, Try.ntmps29
  go_wp2_with fail
  refine (widthWord w).mono ?_
  rintro e w1 ⟨rfl, rfl⟩
  go_wp2_with (at_make; go_loud (refine wpList_make_bytes rfl _ _ 22 rfl 5 i0 Try.underlying22 hi hz0 hz1 hz2 .i64 .i64 (l.length + 2) (by go_num) (by go_num) (by omega) ?_))
  intro w2 hO hs2 hB2
  have hr2 := hr.on hB2.fresh
  go_wp2_with (with_reducible refine wpList_copy_bytes rfl (.tmp 14) (.tmp 15) 22 22 rfl 5 i0 Try.underlying22 hi hz1 w1.heap.size (l.length + 2) (l.length + 2) ao l.length cap ?hd ?hs _ _ _ _ hO ?hL hr2 rfl ?hmn ?_)
  case hd => rfl
  case hs => rfl
  case hL => simp
  case hmn => omega
  intro w3 hO3 hs3 hB3
  have hB : Below w1.heap.size w1 w3 := ((hB2.mono (fun _ _ h => h.elim)).trans (S := fun k => k = w1.heap.size) hB3).below (fun _ h => by omega) (Nat.le_refl _)
  generalize hgg : w1.heap.size = g at *
  have hO3' := Lib.hid hO3
  clear hO3 hO hs2 hr2 hr hB2 hB3
  go_wp2_with fail
  go_loopw [18] (fun i wr => ∃ k : Nat, k ≤ 2 ∧ i = .int .i64 k ∧ Own wr g (l.length + 2) 5 (l ++ List.replicate (2 - k) 0#8 ++ be (x.setWidth 64) k) ∧ Below g w1 wr) (fun i _ => 2 - (intOf i).toNat)
  case atStart => exact ⟨0, Nat.zero_le _, rfl, by simpa [be] using hO3'.out, hB⟩
  case round =>
    obtain ⟨k, hk, rfl, hO, hB⟩ := hrel
    by_cases hlt : k < 2
    · have hc := hO.cell (l.length + 1 - k) (by simp [be_length]; omega)
      have hf := hO.free (l.length + 1 - k)
      have hS := hO.set (l.length + 1 - k) (((x.setWidth 64) >>> (8 * k)).setWidth 8)
      rw [be_step l (x.setWidth 64) 2 k _ hlt (by omega)] at hS
      have HS := Lib.hid hS
      have hB2 : Below g w1 (wr.setCell ⟨g, l.length + 1 - k, none⟩ (.int .u8 (n8 (((x.setWidth 64) >>> (8 * k)).setWidth 8)))) := hB.trans ((Only.setCell wr g _ _).below (B := g) (fun _ h => by omega) (Nat.le_of_lt hO.lt))
      clear hS hO
      go_wp2_with fail
      go_roundw
      case rel => exact ⟨k + 1, by omega, by go_num, HS.out, hB2⟩
      case measure => simp [intOf]; omega
    · obtain rfl : k = 2 := by omega
      go_wp2
      go_ret
      exact ⟨g, rfl, by omega, by simpa using hO, hgg ▸ hB⟩
theorem putLong (ao : Option Addr) (l : List (BitVec 8)) (cap : Nat) (x : BitVec 64) (w : World) (hl : l.length ≤ 140737488351232) (hr : Rd w ao l) :
   Calls Try.prog 30 #[.slice ao l.length cap, .int .u64 (n64 x)] w fun e w' => ∃ g, e = .returned (.slice (some ⟨g, 0, none⟩) (l.length + 8) (l.length + 8)) ∧ w.heap.size ≤ g ∧ Own w' g (l.length + 8) 5 (l ++ be x 8) ∧ Below w.heap.size w w' := by
  obtain ⟨i0, hi, hz0, hz1, hz2⟩ := info_parts info_u8
  go_enter Try.func30, Try.ntmps30
  go_wp2_with fail
  refine (widthLong w).mono ?_
  rintro e w1 ⟨rfl, rfl⟩
  go_wp2_with (at_make; go_loud (refine wpList_make_bytes rfl _ _ 22 rfl 5 i0 Try.underlying22 hi hz0 hz1 hz2 .i64 .i64 (l.length + 8) (by go_num) (by go_num) (by omega) ?_))
  intro w2 hO hs2 hB2
  have hr2 := hr.on hB2.fresh
  go_wp2_with (with_reducible refine wpList_copy_bytes rfl (.tmp 14) (.tmp 15) 22 22 rfl 5 i0 Try.underlying22 hi hz1 w1.heap.size (l.length + 8) (l.length + 8) ao l.length cap ?hd ?hs _ _ _ _ hO ?hL hr2 rfl ?hmn ?_)
  case hd => rfl
  case hs => rfl
  case hL => simp
  case hmn => omega
  intro w3 hO3 hs3 hB3
  have hB : Below w1.heap.size w1 w3 := ((hB2.mono (fun _ _ h => h.elim)).trans (S := fun k => k = w1.heap.size) hB3).below (fun _ h => by omega) (Nat.le_refl _)
  generalize hgg : w1.heap.size = g at *
  have hO3' := Lib.hid hO3
  clear hO3 hO hs2 hr2 hr hB2 hB3
  go_wp2_with fail
  go_loopw [18] (fun i wr => ∃ k : Nat, k ≤ 8 ∧ i = .int .i64 k ∧ Own wr g (l.length + 8) 5 (l ++ List.replicate (8 - k) 0#8 ++ be x k) ∧ Below g w1 wr) (fun i _ => 8 - (intOf i).toNat)
  case atStart => exact ⟨0, Nat.zero_le _, rfl, by simpa [be] using hO3'.out, hB⟩
  case round =>
    obtain ⟨k, hk, rfl, hO, hB⟩ := hrel
    by_cases hlt : k < 8
    · have hc := hO.cell (l.length + 7 - k) (by simp [be_length]; omega)
      have hf := hO.free (l.length + 7 - k)
      have hS := hO.set (l.length + 7 - k) ((x >>> (8 * k)).setWidth 8)
      rw [be_step l x 8 k _ hlt (by omega)] at hS
      have HS := Lib.hid hS
      have hB2 : Below g w1 (wr.setCell ⟨g, l.length + 7 - k, none⟩ (.int .u8 (n8 ((x >>> (8 * k)).setWidth 8)))) := hB.trans ((Only.setCell wr g _ _).below (B := g) (fun _ h => by omega) (Nat.le_of_lt hO.lt))
      clear hS hO
      go_wp2_with fail
      go_roundw
      case rel => exact ⟨k + 1, by omega, by go_num, HS.out, hB2⟩
      case measure => simp [intOf]; omega
    · obtain rfl : k = 8 := by omega
      go_wp2
      go_ret
      exact ⟨g, rfl, by omega, by simpa using hO, hgg ▸ hB⟩
end Go.Proofs.Ytmhcfifenclebaa
