/- The walk of the program's twice: a linear map done two times. -/
import Derived.Test.YtihiomgnegcbbaaDoorCrcArr
import Derived.Laws.CopyOwn
namespace Go.Proofs.YtihiomgnegcbbaaDoor
open Go.RowKit
theorem alloc3_0 (w : World) (A B C : Obj) : (((w.alloc A).alloc B).alloc C).heap[w.heap.size]? = some A := by
  show (((w.heap.push A).push B).push C)[w.heap.size]? = _
  simp only [Array.getElem?_push, Array.size_push]; rw [if_neg (by omega), if_neg (by omega), if_pos trivial]
theorem alloc3_1 (w : World) (A B C : Obj) : (((w.alloc A).alloc B).alloc C).heap[w.heap.size + 1]? = some B := by
  show (((w.heap.push A).push B).push C)[w.heap.size + 1]? = _
  simp only [Array.getElem?_push, Array.size_push]; rw [if_neg (by omega), if_pos trivial]
theorem alloc3_2 (w : World) (A B C : Obj) : (((w.alloc A).alloc B).alloc C).heap[w.heap.size + 1 + 1]? = some C := by
  show (((w.heap.push A).push B).push C)[w.heap.size + 1 + 1]? = _
  simp only [Array.getElem?_push, Array.size_push]; rw [if_pos trivial]
theorem tw_zero (l : List (BitVec 32)) : Crc.tw l 0 = List.replicate 32 0#32 := by rfl
theorem tw_length (l : List (BitVec 32)) (k : Nat) : (Crc.tw l k).length = 32 := by simp [Crc.tw]
theorem tw_get (l : List (BitVec 32)) (k : Nat) : (Crc.tw l k).getD k 0#32 = 0#32 := by
  by_cases h : k < 32 <;> simp [Crc.tw, h]
theorem tw_succ (l : List (BitVec 32)) (k : Nat) (_h : k < 32) : Crc.tw l (k + 1) = (Crc.tw l k).set k (Crc.img l (l.getD k 0#32) 32) := by
  apply List.ext_getElem
  · simp [tw_length]
  · intro i h1 h2
    simp only [tw_length] at h1
    rw [List.getElem_set]
    simp only [Crc.tw, List.getElem_map, List.getElem_range]
    by_cases hik : k = i
    · subst hik; simp
    · rw [if_neg hik]
      by_cases h3 : i < k
      · rw [if_pos h3, if_pos (by omega)]
      · rw [if_neg h3, if_neg (by omega)]
theorem m32_zeros : m32 (List.replicate 32 0#32) = (List.replicate 32 (Value.int .u32 0)).toArray := by
  unfold m32; rw [List.map_replicate, show n32 0#32 = 0 from by unfold n32; rfl]
set_option maxHeartbeats 400000 in
theorem crcTwice (l : List (BitVec 32)) (hl : l.length = 32) (w : World) :
   Calls Tryd.prog 27 #[.agg (m32 l)] w fun e w' => e = .returned (.agg (m32 (Crc.tw l 32))) ∧ Below w.heap.size w w' := by
  have hsz : (Tryd.prog.info? 45).map (·.size) = some (m32 l).size := by rw [m32_size, hl]; exact info_lin
  have hsz2 : (Tryd.prog.info? 45).map (·.size) = some (m32 (Crc.tw l 32)).size := by rw [m32_size, tw_length]; exact info_lin
  have HI := Lib.hid (index_lin l hl)
  have HZ := Lib.hid hsz
  have HZ2 := Lib.hid hsz2
  have HL := Lib.hid hl
  clear hl hsz hsz2
  go_enter Tryd.func27, Tryd.ntmps27
  go_wp2_with (with_reducible refine wpList_load_row rfl 45 (.tmp 1) rfl w.heap.size rfl 45 (m32 l) (0, 0) _ (alloc3_0 w _ _ _) Tryd.underlying45 rfl HZ.out ?_)
  go_loopw [7] (fun i wr => ∃ k : Nat, k ≤ 32 ∧ i = .int .i64 k ∧ wr.heap[w.heap.size]? = some (.cells (m32 l) 45 (0, 0)) ∧ wr.heap[w.heap.size + 1]? = some (.cells (m32 (List.replicate 32 0#32)) 45 (0, 0)) ∧ wr.heap[w.heap.size + 1 + 1]? = some (.cells (m32 (Crc.tw l k)) 45 (0, 0)) ∧ Below w.heap.size w wr) (fun i _ => 32 - (intOf i).toNat)
  case atStart => exact ⟨0, Nat.zero_le _, rfl, alloc3_0 w _ _ _, by rw [alloc3_1, m32_zeros]; rfl, by rw [alloc3_2, tw_zero, m32_zeros]; rfl, (((Below.refl _ _).alloc (Nat.le_refl _) _).alloc (by simp) _).alloc (by simp; omega) _⟩
  case round =>
    obtain ⟨k, hk, rfl, hA, hB, hC, hW⟩ := hrel
    by_cases hlt : k < 32
    · have hi := fun w => HI.out k hlt w
      have hS := tw_succ l k hlt
      obtain ⟨x, hx⟩ : ∃ x, l.getD k 0#32 = x := ⟨_, rfl⟩
      rw [hx] at hi hS
      have HS := Lib.hid hS
      clear hS hx
      have HA := Lib.hid hA
      have HB := Lib.hid hB
      have HC := Lib.hid hC
      clear hA hB hC
      go_wp2_with (first | (with_reducible refine wpList_load_row rfl 45 (.tmp 1) rfl w.heap.size rfl 45 (m32 l) (0, 0) _ HA.out Tryd.underlying45 rfl HZ.out ?_))
      refine (crcOf l HL.out x wr).mono ?_
      rintro e w1 ⟨rfl, hb⟩
      have lt2 := (Array.getElem?_eq_some_iff.1 HC.out).1
      have HA1 := Lib.hid ((hb.block w.heap.size (by omega)).trans HA.out)
      have HB1 := Lib.hid ((hb.block (w.heap.size + 1) (by omega)).trans HB.out)
      have HC1 := Lib.hid ((hb.block (w.heap.size + 1 + 1) lt2).trans HC.out)
      have hc : w1.cell? ⟨w.heap.size + 1 + 1, k, none⟩ = some (.int .u32 (n32 0#32)) := by
        rw [cell_of_row w1 _ k _ _ _ HC1.out, m32_get _ _ (by rw [tw_length]; exact hlt), tw_get]
      have hf : w1.frozen? ⟨w.heap.size + 1 + 1, k, none⟩ = false := frozen_of_row w1 _ k _ _ HC1.out
      have hW1 := hW.trans (hb.mono hW.size)
      clear hb HA HB HC hW lt2
      go_wp2
      go_roundw
      case rel => exact ⟨k + 1, by omega, by go_num, by rw [heap_setCell_other _ _ _ _ (by simp; omega)]; exact HA1.out, by rw [heap_setCell_other _ _ _ _ (by simp)]; exact HB1.out, by rw [heap_setCell_same _ _ _ _ _ _ HC1.out, m32_set, HS.out], hW1.setCell (by simp; omega) _⟩
      case measure => simp [intOf]; omega
    · obtain rfl : k = 32 := by omega
      have HA := Lib.hid hA
      have HB := Lib.hid hB
      have HC := Lib.hid hC
      clear hA hB hC
      have HO := Lib.hid (show (m32 (List.replicate 32 0#32)).size = (m32 (Crc.tw l 32)).size by rw [m32_size, m32_size, tw_length, List.length_replicate])
      go_wp2_with (first | (with_reducible refine wpList_load_row rfl 45 (.tmp 3) rfl (w.heap.size + 1 + 1) rfl 45 (m32 (Crc.tw l 32)) (0, 0) _ HC.out Tryd.underlying45 rfl HZ2.out ?_) | (with_reducible refine wpList_store_row rfl 45 (.tmp 2) (.tmp 17) rfl (w.heap.size + 1) (m32 (Crc.tw l 32)) rfl rfl 45 _ HB.out HZ2.out HO.out (m32_one _) ?_))
      refine bodyPost_ret (v := .agg (m32 (Crc.tw l 32))) (results_cell_row (g := w.heap.size + 1) rfl _ _ _ _ _ _ rfl (setRow_heap _ _ _ _ _ _ HB.out) Tryd.underlying45 rfl HZ2.out) rfl ⟨rfl, ?_⟩
      exact below_setRow hW (by omega) _
end Go.Proofs.YtihiomgnegcbbaaDoor
