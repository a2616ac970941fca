/- The walks of the program's step (the map of one step) and Join. -/
import Derived.Test.YtihiomgnegcbbaaDoorCrcArr2
namespace Go.Proofs.YtihiomgnegcbbaaDoor
open Go.RowKit
theorem one_length (k : Nat) : (Crc.one k).length = 32 := by simp [Crc.one]
theorem one_get (k : Nat) : (Crc.one k).getD k 0#32 = 0#32 := by
  by_cases h : k < 32 <;> simp [Crc.one, h]
theorem one_one : Crc.one 1 = Crc.poly :: List.replicate 31 0#32 := by decide
theorem one_succ (k : Nat) (h : k < 32) (h0 : 0 < k) : Crc.one (k + 1) = (Crc.one k).set k (1#32 <<< (k - 1)) := by
  apply List.ext_getElem
  · simp [one_length]
  · intro i h1 h2
    simp only [one_length] at h1
    rw [List.getElem_set]
    simp only [Crc.one, List.getElem_map, List.getElem_range]
    by_cases hik : k = i
    · subst hik; simp; omega
    · rw [if_neg hik]
      by_cases h3 : i < k
      · rw [if_pos h3, if_pos (by omega)]
      · rw [if_neg h3, if_neg (by omega)]
theorem one_shl (k : Nat) : (2 : Int) ^ k % 4294967296 = n32 (1#32 <<< k) := by
  unfold n32; rw [BitVec.toNat_shiftLeft, Nat.shiftLeft_eq]; simp
theorem wpList_built {P : Program} {ops : Array Oper} {rest : List Oper} {o : Oper} {a : Act} {w : World} {Q : Exit → Act → World → Prop} (hg : o.guard = none) (t : TypeId) (parts : Array (Nat × Operand)) (ho : o.op = .build t parts)
    (cells : Array Value) (hb : P.built t (parts.map fun (i, x) => (i, a.eval x)).toList = some cells)
    (h : wpList P ops Q rest (a.put o.dst (.agg cells)) w) : wpList P ops Q (o :: rest) a w :=
  wpList_build hg t parts ho (by rw [hb]; rfl) (by rw [hb]; exact h)
theorem built_raw : Tryd.prog.built 45 [(0, .int .u32 2197175160)] = some (#[Value.int .u32 2197175160] ++ (List.replicate 31 (Value.int .u32 0)).toArray) := by kernel_rfl
theorem built_one (a : Act) : Tryd.prog.built 45 ((#[(0, Operand.const (.int .u32 2197175160))] : Array (Nat × Operand)).map fun (i, x) => (i, a.eval x)).toList = some (m32 (Crc.one 1)) := by
  have e : ((#[(0, Operand.const (.int .u32 2197175160))] : Array (Nat × Operand)).map fun (i, x) => (i, a.eval x)).toList = [(0, .int .u32 2197175160)] := by simp [Act.eval]
  rw [e, built_raw]
  congr 1
  rw [one_one]
  simp only [m32, List.map_cons, List.map_replicate]
  rw [show n32 Crc.poly = 2197175160 from by unfold n32; rfl, show n32 0#32 = 0 from by unfold n32; rfl]
  rfl
theorem alloc2_1 (w : World) (A B : Obj) : ((w.alloc A).alloc B).heap[w.heap.size + 1]? = some B := heap_alloc2_new w A B
set_option maxHeartbeats 400000 in
theorem crcStep (w : World) :
   Calls Tryd.prog 25 #[] w fun e w' => e = .returned (.agg (m32 (Crc.one 32))) ∧ Below w.heap.size w w' := by
  have hsz : ∀ k, (Tryd.prog.info? 45).map (·.size) = some (m32 (Crc.one k)).size := fun k => by rw [m32_size, one_length]; exact info_lin
  have HZ := Lib.hid hsz
  clear hsz
  go_enter Tryd.func25, Tryd.ntmps25
  go_wp2_with (first | (with_reducible refine wpList_built rfl 45 _ rfl (m32 (Crc.one 1)) (built_one _) ?_) | (with_reducible refine wpList_store_row rfl 45 (.tmp 1) (.tmp 3) rfl (w.heap.size + 1) (m32 (Crc.one 1)) rfl rfl 45 _ (alloc2_1 w _ _) (HZ.out 1) (by simp [m32_size, one_length]) (m32_one _) ?_))
  go_loopw [2] (fun i wr => ∃ k : Nat, 0 < k ∧ k ≤ 32 ∧ i = .int .i64 k ∧ wr.heap[w.heap.size]? = some (.cells (List.replicate 32 (Value.int .u32 0)).toArray 45 (0, 0)) ∧ wr.heap[w.heap.size + 1]? = some (.cells (m32 (Crc.one k)) 45 (0, 0)) ∧ Below w.heap.size w wr) (fun i _ => 32 - (intOf i).toNat)
  case atStart => exact ⟨1, by omega, by omega, rfl, (setRow_other _ _ _ _ (by omega)).trans (heap_alloc2_old w _ _), setRow_heap _ _ _ _ _ _ (alloc2_1 w _ _), below_setRow (((Below.refl _ _).alloc (Nat.le_refl _) _).alloc (by simp) _) (by omega) _⟩
  case round =>
    obtain ⟨k, h0, hk, rfl, hA, hB, hW⟩ := hrel
    by_cases hlt : k < 32
    · have HS := Lib.hid (one_succ k hlt h0)
      have hc : wr.cell? ⟨w.heap.size + 1, k, none⟩ = some (.int .u32 (n32 0#32)) := by
        rw [cell_of_row wr _ k _ _ _ hB, m32_get _ _ (by rw [one_length]; exact hlt), one_get]
      have hf : wr.frozen? ⟨w.heap.size + 1, k, none⟩ = false := frozen_of_row wr _ k _ _ hB
      have HA := Lib.hid hA
      have HB := Lib.hid hB
      clear hA hB
      go_wp2
      go_roundw
      case rel =>
        refine ⟨k + 1, by omega, by omega, by go_num, by rw [heap_setCell_other _ _ _ _ (by simp)]; exact HA.out, ?_, hW.setCell (by simp) _⟩
        rw [heap_setCell_same _ _ _ _ _ _ HB.out]
        rw [one_shl, m32_set, HS.out]
      case measure => simp [intOf]; omega
    · obtain rfl : k = 32 := by omega
      have HA := Lib.hid hA
      have HB := Lib.hid hB
      clear hA hB
      go_wp2_with (first | (with_reducible refine wpList_load_row rfl 45 (.tmp 1) rfl (w.heap.size + 1) rfl 45 (m32 (Crc.one 32)) (0, 0) _ HB.out Tryd.underlying45 rfl (HZ.out 32) ?_) | (with_reducible refine wpList_store_row rfl 45 (.tmp 0) (.tmp 13) rfl w.heap.size (m32 (Crc.one 32)) rfl rfl 45 _ HA.out (HZ.out 32) (by simp [m32_size, one_length]) (m32_one _) ?_))
      refine bodyPost_ret (v := .agg (m32 (Crc.one 32))) (results_cell_row (g := w.heap.size) rfl _ _ _ _ _ _ rfl (setRow_heap _ _ _ _ _ _ HA.out) Tryd.underlying45 rfl (HZ.out 32)) rfl ⟨rfl, ?_⟩
      exact below_setRow hW (by omega) _
end Go.Proofs.YtihiomgnegcbbaaDoor
