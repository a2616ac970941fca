/- The law's own num and key. -/
import Derived.Test.YtihndipgdogebaaLane11
import Derived.Test.YtihndipgdogebaaLane7b
import Derived.Test.YtihndipgdogebaaLane7c
import Derived.Test.YtihndipgdogebaaLane8b
import Derived.Test.YtihndipgdogebaaLane10a
import Derived.Test.YtihndipgdogebaaLane10b
import Derived.Test.YtihndipgdogebaaLane10c
namespace Go.Proofs.Ytihndipgdogebaa
open Go.RowKit
theorem numOf (e : Int) (w : World) : Calls Try.prog 27 #[.int .i64 e] w fun x w' => x = .returned (.int .i64 e) ∧ w' = w := by
  go_enter Try.func27, Try.ntmps27
  go_wp2
  go_ret
  exact ⟨rfl, rfl⟩
def key1 : List (BitVec 8) := [1#8, 2#8, 3#8, 4#8, 5#8, 6#8, 7#8, 8#8, 9#8, 10#8, 11#8, 12#8, 13#8, 14#8, 15#8, 16#8, 17#8, 18#8, 19#8, 20#8, 21#8, 22#8, 23#8, 24#8, 25#8, 26#8, 27#8, 28#8, 29#8, 30#8, 31#8, 32#8]
theorem key1_get : ∀ k : Fin 32, n8 (key1.getD k.val 0#8) = 1 + (k.val : Int) := by
  unfold n8
  decide
set_option maxHeartbeats 800000 in
theorem laneKey (w : World) : Calls Try.prog 43 #[.int .u8 1] w fun e w' => ∃ g, e = .returned (.slice (some ⟨g, 0, none⟩) 32 32) ∧ w.heap.size ≤ g ∧ Own w' g 32 5 key1 ∧ Below w.heap.size w w' := by
  obtain ⟨i0, hi, hz0, hz1, hz2⟩ := info_parts info_u8
  go_enter Try.func43, Try.ntmps43
  go_wp2_with (at_make; refine wpList_make_bytes rfl _ _ 22 rfl 5 i0 Try.underlying22 hi hz0 hz1 hz2 .i64 .i64 32 (by go_num) (by go_num) (by omega) ?_)
  intro w2 hO hs2 hB2
  have hb0 : Below w.heap.size w w2 := hB2.fresh
  clear hB2
  go_wp2_with fail
  go_loopw [4] (fun i wr => ∃ k : Nat, k ≤ 32 ∧ i = .int .i64 k ∧ Own wr w.heap.size 32 5 (key1.take k ++ List.replicate (32 - k) 0#8) ∧ Below w.heap.size w wr) (fun i _ => 32 - (intOf i).toNat)
  case atStart => exact ⟨0, by omega, rfl, by simpa using hO, hb0⟩
  case round =>
    obtain ⟨k, hk, rfl, hO1, hb1⟩ := hrel
    clear hO hb0
    by_cases hlt : k < 32
    · have hkey := key1_get ⟨k, hlt⟩
      have hlen : key1.length = 32 := rfl
      have hcell : wr.cell? ⟨w.heap.size, k, none⟩ = some (.int .u8 0) := by
        have := hO1.cell k (by simp [hlen]; omega)
        rw [this]
        have e0 : (key1.take k ++ List.replicate (32 - k) 0#8).getD k 0#8 = 0#8 := by
          rw [List.getD_eq_getElem?_getD, List.getElem?_append_right (by simp [hlen]; omega), List.getElem?_replicate]
          split <;> rfl
        rw [e0, ← n8_zero]
      have hfree := hO1.free k
      have hset := hO1.set k (key1.getD k 0#8)
      have heq : (key1.take k ++ List.replicate (32 - k) 0#8).set k (key1.getD k 0#8) = key1.take (k + 1) ++ List.replicate (32 - (k + 1)) 0#8 := by
        refine List.ext_getElem (by simp [hlen]; omega) fun i h1 h2 => ?_
        simp only [List.getElem_set, List.getElem_append, List.length_take, List.getElem_take, List.getElem_replicate, hlen]
        by_cases hik : k = i
        · subst hik
          simp [List.getD, hlen, hlt]
          omega
        · simp only [hik, if_false]
          by_cases hi2 : i < k
          · rw [dif_pos (by omega), dif_pos (by omega)]
          · rw [dif_neg (by omega), dif_neg (by omega)]
      rw [heq, hkey] at hset
      have HS := Lib.hid hset
      have HB := Lib.hid hb1
      clear hset heq hkey hO1 hb1 hlen
      have hk0 : (0 : Int) ≤ (k : Int) := by omega
      go_wp2_with fail
      go_roundw
      case rel => exact ⟨k + 1, by omega, by go_num, HS.out, Below.set HB.out _ _ _ (Nat.le_refl _)⟩
      case measure => simp [intOf]; omega
    · obtain rfl : k = 32 := by omega
      have hO2 : Own wr w.heap.size 32 5 key1 := by
        have h := hO1
        rw [show key1.take 32 ++ List.replicate (32 - 32) 0#8 = key1 from rfl] at h
        exact h
      clear hO1
      go_wp2_with fail
      go_ret
      exact ⟨_, rfl, Nat.le_refl _, hO2, hb1⟩
end Go.Proofs.Ytihndipgdogebaa
