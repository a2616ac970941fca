/- The walks of the reference's image, Steps and Join. -/
import Derived.Test.YtihiomgnegcbbaaDoorCrcJoin
import Derived.Test.YtihiomgnegcbbaaDoorCrcRef2
import Derived.StillTailTactics
namespace Go.Proofs.YtihiomgnegcbbaaDoor
open Go.RowKit
set_option maxHeartbeats 400000 in
theorem refImage (g : Nat) (l : List (BitVec 32)) (hl : l.length = 32) (r : BitVec 32) (w : World) (hg : w.heap[g]? = some (.cells (m32 l) 51 (0, 0))) :
   Calls Tryd.prog 29 #[.pointer (some ⟨g, 0, none⟩), .int .u32 (n32 r)] w fun e w' => e = .returned (.int .u32 (n32 (Crc.img l r 32))) ∧ w = w' := by
  have hcs : ∀ k, k < 32 → w.cell? ⟨g, k, none⟩ = some (.int .u32 (n32 (l.getD k 0#32))) := fun k hk => by
    rw [cell_of_row w g k _ _ _ hg, m32_get _ _ (by omega)]
  have HC := Lib.hid hcs
  clear hcs hg hl
  go_enter Tryd.func29, Tryd.ntmps29
  go_wp2
  go_loop [5, 6] (fun v i => ∃ k : Nat, k ≤ 32 ∧ i = .int .i64 k ∧ v = .int .u32 (n32 (Crc.img l r k))) (fun _ i => 32 - (intOf i).toNat)
  case atStart => exact ⟨0, Nat.zero_le _, rfl, by unfold n32; rfl⟩
  case round =>
    obtain ⟨k, hk, rfl, rfl⟩ := hrel
    by_cases hlt : k < 32
    · have hc := HC.out k hlt
      have hs : ∀ a : BitVec 32, n32 a / 2 ^ k = n32 (a >>> k) := fun a => shr_pow a k
      have hb := bit_test r k
      obtain ⟨x, hx⟩ : ∃ x, l.getD k 0#32 = x := ⟨_, rfl⟩
      rw [hx] at hc
      have hS : Crc.img l r (k + 1) = if r.getLsbD k then Crc.img l r k ^^^ x else Crc.img l r k := by rw [← hx]; rfl
      clear hx
      cases hbit : r.getLsbD k
      all_goals
        rw [hbit] at hb hS
        have HS := Lib.hid hS
        clear hS hbit
        go_wp2
        go_round
        case rel => exact ⟨k + 1, by omega, by go_num, by rw [HS.out]; rfl⟩
        case measure => simp [intOf]; omega
    · obtain rfl : k = 32 := by omega
      go_wp2
      go_ret
      exact ⟨rfl, rfl⟩
/-- The reference's map of one step, the first k images done. -/
def Crc.mp (k : Nat) : List (BitVec 32) := (List.range 32).map fun i => if i < k then Crc.stp (1#32 <<< i) else 0#32
theorem mp_length (k : Nat) : (Crc.mp k).length = 32 := by simp [Crc.mp]
theorem mp_get (k : Nat) : (Crc.mp k).getD k 0#32 = 0#32 := by
  by_cases k < 32 <;> simp [Crc.mp, *]
theorem mp_zero : Crc.mp 0 = List.replicate 32 0#32 := by rfl
theorem mp_one : Crc.mp 32 = Crc.one 32 := by decide +kernel
theorem mp_succ (k : Nat) (_h : k < 32) : Crc.mp (k + 1) = (Crc.mp k).set k (Crc.stp (1#32 <<< k)) := by
  apply List.ext_getElem
  · simp [mp_length]
  · intro i h1 h2
    simp only [mp_length] at h1
    rw [List.getElem_set]
    simp only [Crc.mp, List.getElem_map, List.getElem_range]
    by_cases hik : k = i
    · subst hik; simp
    · rw [if_neg hik]
      by_cases h3 : i < k
      · rw [if_pos h3, if_pos (by omega)]
      · rw [if_neg h3, if_neg (by omega)]
set_option maxHeartbeats 400000 in
theorem refSteps (r0 : BitVec 32) (n : Nat) (hn : n < 2147483647) (w : World) :
   Calls Tryd.prog 28 #[.int .u32 (n32 r0), .int .u64 n] w fun e w' => e = .returned (.int .u32 (n32 (Crc.pw 32 (Crc.one 32) n r0))) ∧ Below w.heap.size w w' := by
  go_enter Tryd.func28, Tryd.ntmps28
  go_wp2_with fail
  go_loopw [6] (fun i wr => ∃ k : Nat, k ≤ 32 ∧ i = .int .i64 k ∧ wr.heap[w.heap.size]? = some (.cells (m32 (Crc.mp k)) 51 (0, 0)) ∧ Below w.heap.size w wr) (fun i _ => 32 - (intOf i).toNat)
  case atStart => exact ⟨0, by omega, rfl, by rw [heap_alloc_new, mp_zero, m32_zeros]; rfl, (Below.refl _ _).alloc (Nat.le_refl _) _⟩
  case round =>
    obtain ⟨k, hk, rfl, hA, hW⟩ := hrel
    by_cases hlt : k < 32
    · have HS := Lib.hid (mp_succ k hlt)
      have hc : wr.cell? ⟨w.heap.size, k, none⟩ = some (.int .u32 (n32 0#32)) := by
        rw [cell_of_row wr _ k _ _ _ hA, m32_get _ _ (by rw [mp_length]; exact hlt), mp_get]
      have hf : wr.frozen? ⟨w.heap.size, k, none⟩ = false := frozen_of_row wr _ k _ _ hA
      have hsh : IntKind.u32.wrap (2 ^ k) = n32 (1#32 <<< k) := by rw [IntKind.wrap_u32']; exact one_shl k
      have hk64 : IntKind.u64.wrap (k : Int) = (k : Int) := IntWalk.u64_in _ (by omega)
      have hmin : min k 32 = k := by omega
      have HA := Lib.hid hA
      clear hA
      go_wp2_with fail
      go_still_tail 9, (by kernel_rfl)
      still_call ((refStep (1#32 <<< k) _).mono (fun e w' h => ⟨h.1, h.2.symm⟩))
      repeat still_step
      refine wpStill_nil ?_
      change wpList _ _ _ _ _ wr.drew
      go_wp2
      go_roundw
      case rel => exact ⟨k + 1, by omega, by go_num, by rw [HS.out, ← m32_set]; exact heap_setCell_same _ _ _ _ _ _ HA.out, (hW.setCell (by simp) _).drew⟩
      case measure => simp [intOf]; omega
    · rw [show k = 32 by omega] at hA
      have lt0 := (Array.getElem?_eq_some_iff.1 hA).1
      have HA0 := Lib.hid hA
      clear hA
      go_wp2_with fail
      go_loopw [0, 1, 5] (fun av kv mv wr => ∃ (k f : Nat) (r : BitVec 32) (l : List (BitVec 32)) (g : Nat), l.length = 32 ∧ mv = .pointer (some ⟨g, 0, none⟩) ∧ kv = .int .u64 k ∧ av = .int .u32 (n32 r) ∧ k < 2 ^ f ∧ k < 2147483647 ∧ Crc.pw f l k r = Crc.pw 32 (Crc.one 32) n r0 ∧ w.heap.size ≤ g ∧ wr.heap[g]? = some (.cells (m32 l) 51 (0, 0)) ∧ Below w.heap.size w wr) (fun _ kv _ _ => (intOf kv).toNat)
      case atStart => exact ⟨n, 32, r0, Crc.mp 32, w.heap.size, mp_length 32, rfl, rfl, rfl, by omega, by omega, by rw [mp_one], Nat.le_refl _, HA0.out, hW⟩
      case round =>
        obtain ⟨wo, rfl⟩ : ∃ wo : World, wo = wr := ⟨_, rfl⟩
        obtain ⟨k, f, r, l, g, hl, rfl, rfl, rfl, hf, hk, hpw, hg0, hA, hW⟩ := hrel
        have HP := Lib.hid hpw
        have HL := Lib.hid hl
        have lt1 := (Array.getElem?_eq_some_iff.1 hA).1
        have hgr : w.heap.size ≤ wo.heap.size := hW.size
        have HA := Lib.hid hA
        have HW := Lib.hid hW
        clear hpw hl hA hW lt0
        by_cases h0 : k = 0
        · have HF := Lib.hid (show Crc.pw f l k r = r by subst h0; cases f <;> rfl)
          have hz : decide (0 < k) = false := by simp [h0]
          clear hf h0
          go_wp2
          go_ret
          exact ⟨by rw [← HP.out, HF.out]; rfl, HW.out⟩
        obtain ⟨f, rfl⟩ : ∃ f', f = f' + 1 := by
          cases f with
          | zero => omega
          | succ g => exact ⟨g, rfl⟩
        have HF := Lib.hid (show Crc.pw (f + 1) l k r = Crc.pw f (Crc.tw l 32) (k / 2) (if k % 2 = 1 then Crc.img l r 32 else r) by rw [Crc.pw, if_neg h0])
        have HG := Lib.hid (show k / 2 < 2 ^ f by rw [Nat.pow_succ] at hf; omega)
        have hpos : 0 < k := by omega
        clear h0 hf
        by_cases hodd : k % 2 = 1
        · have hd : ((k : Int) % 2 == 1) = true := by rw [beq_iff_eq]; omega
          have HO := Lib.hid hodd
          clear hodd
          go_wp2_with fail
          refine (refImage g l HL.out r wo HA.out).mono ?_
          rintro e w2 ⟨rfl, rfl⟩
          go_wp2_with fail
          go_loopw [8] (fun i wr => ∃ j : Nat, j ≤ 32 ∧ i = .int .i64 j ∧ wr.heap[g]? = some (.cells (m32 l) 51 (0, 0)) ∧ wr.heap[wo.heap.size]? = some (.cells (m32 (Crc.tw l j)) 51 (0, 0)) ∧ Below w.heap.size w wr) (fun i _ => 32 - (intOf i).toNat)
          case atStart => exact ⟨0, by omega, rfl, (alloc_old wo _ g lt1).trans HA.out, by rw [heap_alloc_new, tw_zero, m32_zeros]; rfl, HW.out.alloc HW.out.size _⟩
          case round =>
            obtain ⟨j, hj, rfl, hA2, hB2, hW2⟩ := hrel
            by_cases hlt2 : j < 32
            · have HS := Lib.hid (tw_succ l j hlt2)
              have hc1 : wr.cell? ⟨g, j, none⟩ = some (.int .u32 (n32 (l.getD j 0#32))) := by
                rw [cell_of_row wr _ j _ _ _ hA2, m32_get _ _ (by rw [HL.out]; exact hlt2)]
              have hc2 : wr.cell? ⟨wo.heap.size, j, none⟩ = some (.int .u32 (n32 0#32)) := by
                rw [cell_of_row wr _ j _ _ _ hB2, m32_get _ _ (by rw [tw_length]; exact hlt2), tw_get]
              have hf2 : wr.frozen? ⟨wo.heap.size, j, none⟩ = false := frozen_of_row wr _ j _ _ hB2
              obtain ⟨x, hx⟩ : ∃ x, l.getD j 0#32 = x := ⟨_, rfl⟩
              rw [hx] at hc1 HS
              have HA2 := Lib.hid hA2
              have HB2 := Lib.hid hB2
              clear hA2 hB2 hx
              go_wp2_with fail
              go_still_tail 13, (by kernel_rfl)
              still_call ((refImage g l HL.out x wr.drew HA2.out).mono (fun e w' h => ⟨h.1, h.2.symm⟩))
              repeat still_step
              refine wpStill_nil ?_
              change wpList _ _ _ _ _ wr.drew
              go_wp2
              go_roundw
              case rel => exact ⟨j + 1, by omega, by go_num, by rw [← HA2.out]; exact heap_setCell_other _ _ _ _ (by simp; omega), by rw [HS.out, ← m32_set]; exact heap_setCell_same _ _ _ _ _ _ HB2.out, (hW2.setCell (by simpa using hgr) _).drew⟩
              case measure => simp [intOf]; omega
            · rw [show j = 32 by omega] at hB2
              go_wp2
              go_roundw
              case rel => exact ⟨k / 2, f, Crc.img l r 32, Crc.tw l 32, wo.heap.size, tw_length l 32, rfl, by go_num, rfl, HG.out, by omega, by rw [← HP.out, HF.out, if_pos HO.out], hgr, hB2, hW2⟩
              case measure => simp [intOf]; omega
        · have hd : ((k : Int) % 2 == 1) = false := by rw [beq_eq_false_iff_ne]; omega
          have HO := Lib.hid hodd
          clear hodd
          go_wp2_with fail
          go_loopw [8] (fun i wr => ∃ j : Nat, j ≤ 32 ∧ i = .int .i64 j ∧ wr.heap[g]? = some (.cells (m32 l) 51 (0, 0)) ∧ wr.heap[wo.heap.size]? = some (.cells (m32 (Crc.tw l j)) 51 (0, 0)) ∧ Below w.heap.size w wr) (fun i _ => 32 - (intOf i).toNat)
          case atStart => exact ⟨0, by omega, rfl, (alloc_old wo _ g lt1).trans HA.out, by rw [heap_alloc_new, tw_zero, m32_zeros]; rfl, HW.out.alloc HW.out.size _⟩
          case round =>
            obtain ⟨j, hj, rfl, hA2, hB2, hW2⟩ := hrel
            by_cases hlt2 : j < 32
            · have HS := Lib.hid (tw_succ l j hlt2)
              have hc1 : wr.cell? ⟨g, j, none⟩ = some (.int .u32 (n32 (l.getD j 0#32))) := by
                rw [cell_of_row wr _ j _ _ _ hA2, m32_get _ _ (by rw [HL.out]; exact hlt2)]
              have hc2 : wr.cell? ⟨wo.heap.size, j, none⟩ = some (.int .u32 (n32 0#32)) := by
                rw [cell_of_row wr _ j _ _ _ hB2, m32_get _ _ (by rw [tw_length]; exact hlt2), tw_get]
              have hf2 : wr.frozen? ⟨wo.heap.size, j, none⟩ = false := frozen_of_row wr _ j _ _ hB2
              obtain ⟨x, hx⟩ : ∃ x, l.getD j 0#32 = x := ⟨_, rfl⟩
              rw [hx] at hc1 HS
              have HA2 := Lib.hid hA2
              have HB2 := Lib.hid hB2
              clear hA2 hB2 hx
              go_wp2_with fail
              go_still_tail 13, (by kernel_rfl)
              still_call ((refImage g l HL.out x wr.drew HA2.out).mono (fun e w' h => ⟨h.1, h.2.symm⟩))
              repeat still_step
              refine wpStill_nil ?_
              change wpList _ _ _ _ _ wr.drew
              go_wp2
              go_roundw
              case rel => exact ⟨j + 1, by omega, by go_num, by rw [← HA2.out]; exact heap_setCell_other _ _ _ _ (by simp; omega), by rw [HS.out, ← m32_set]; exact heap_setCell_same _ _ _ _ _ _ HB2.out, (hW2.setCell (by simpa using hgr) _).drew⟩
              case measure => simp [intOf]; omega
            · rw [show j = 32 by omega] at hB2
              go_wp2
              go_roundw
              case rel => exact ⟨k / 2, f, r, Crc.tw l 32, wo.heap.size, tw_length l 32, rfl, by go_num, rfl, HG.out, by omega, by rw [← HP.out, HF.out, if_neg HO.out], hgr, hB2, hW2⟩
              case measure => simp [intOf]; omega
end Go.Proofs.YtihiomgnegcbbaaDoor
