/- The walk of the program's Join. -/
import Derived.Test.YtihiomgnegcbbaaDoorCrcArr3
namespace Go.Proofs.YtihiomgnegcbbaaDoor
open Go.RowKit
set_option maxHeartbeats 400000 in
theorem crcJoin_neg (a b : BitVec 32) (n : Int) (hn : n < 0) (w : World) :
   Calls Tryd.prog 20 #[.int .u32 (n32 a), .int .u32 (n32 b), .int .i64 n] w fun e w' => e = .returned (.int .u32 (n32 0#32)) ∧ Below w.heap.size w w' := by
  have h0 : decide (n < 0) = true := by simpa using hn
  go_enter Tryd.func20, Tryd.ntmps20
  go_wp2
  go_ret
  exact ⟨by unfold n32; rfl, Below.refl _ _⟩
set_option maxHeartbeats 400000 in
theorem crcJoin_pos (a b : BitVec 32) (n : Nat) (hn : n < 9223372036854775808) (w : World) :
   Calls Tryd.prog 20 #[.int .u32 (n32 a), .int .u32 (n32 b), .int .i64 n] w fun e w' => e = .returned (.int .u32 (n32 (Crc.pw 32 (Crc.one 32) (n % 2147483647 * 8 % 2147483647) a ^^^ b))) ∧ Below w.heap.size w w' := by
  have h0 : decide ((n : Int) < 0) = false := by simp
  go_enter Tryd.func20, Tryd.ntmps20
  go_wp2_with fail
  refine (crcStep w).mono ?_
  rintro e w1 ⟨rfl, hb⟩
  have hsz := fun (l : List (BitVec 32)) (hl : l.length = 32) => show (Tryd.prog.info? 45).map (·.size) = some (m32 l).size by rw [m32_size, hl]; exact info_lin
  have HZ := Lib.hid hsz
  clear hsz
  go_wp2_with (with_reducible refine wpList_store_row rfl 45 (.tmp 7) (.tmp 11) rfl w1.heap.size (m32 (Crc.one 32)) rfl rfl 45 _ (heap_alloc_new w1 _) (HZ.out _ (one_length 32)) (by simp [m32_size, one_length]) (m32_one _) ?_)
  go_loopw [0, 8] (fun av kv wr => ∃ (k f : Nat) (r : BitVec 32) (l : List (BitVec 32)), l.length = 32 ∧ kv = .int .i64 k ∧ av = .int .u32 (n32 r) ∧ k < 2 ^ f ∧ k < 2147483647 ∧ Crc.pw f l k r = Crc.pw 32 (Crc.one 32) (n % 2147483647 * 8 % 2147483647) a ∧ wr.heap[w1.heap.size]? = some (.cells (m32 l) 45 (0, 0)) ∧ Below w.heap.size w wr) (fun _ kv _ => (intOf kv).toNat)
  case atStart => exact ⟨n % 2147483647 * 8 % 2147483647, 32, a, Crc.one 32, one_length 32, by go_num, rfl, by omega, by omega, rfl, setRow_heap _ _ _ _ _ _ (heap_alloc_new w1 _), below_setRow (hb.alloc hb.size _) hb.size _⟩
  case round =>
    obtain ⟨k, f, r, l, hl, rfl, rfl, hf, hk, hpw, hA, hW⟩ := hrel
    have HP := Lib.hid hpw
    have HA := Lib.hid hA
    have HL := Lib.hid hl
    have lt1 := (Array.getElem?_eq_some_iff.1 hA).1
    have hB1 : w.heap.size ≤ w1.heap.size := hb.size
    clear hpw hA hl
    by_cases h0 : k = 0
    · have HF := Lib.hid (show Crc.pw f l k r = r by subst h0; cases f <;> rfl)
      have hz : decide (0 < k) = false := by simp [h0]
      clear hf h0
      go_wp2
      go_ret
      exact ⟨by rw [← HP.out, HF.out]; rfl, hW⟩
    · obtain ⟨g, rfl⟩ : ∃ g, f = g + 1 := by
        cases f with
        | zero => omega
        | succ g => exact ⟨g, rfl⟩
      have HF := Lib.hid (show Crc.pw (g + 1) l k r = Crc.pw g (Crc.tw l 32) (k / 2) (if k % 2 = 1 then Crc.img l r 32 else r) by rw [Crc.pw, if_neg h0])
      have hg : k / 2 < 2 ^ g := by rw [Nat.pow_succ] at hf; omega
      have HG := Lib.hid hg
      have hpos : 0 < k := by omega
      have HW := Lib.hid hW
      clear h0 hf hg hW
      by_cases hodd : k % 2 = 1
      · have hd : ((k : Int) % 2 == 1) = true := by rw [beq_iff_eq]; omega
        have HO := Lib.hid hodd
        clear hodd
        go_wp2_with (with_reducible refine wpList_load_row rfl 45 (.tmp 7) rfl w1.heap.size rfl 45 (m32 l) (0, 0) _ HA.out Tryd.underlying45 rfl (HZ.out l HL.out) ?_)
        refine (crcOf l HL.out r wr).mono ?_
        rintro e w2 ⟨rfl, hb2⟩
        have hHA2 := (hb2.block w1.heap.size lt1).trans HA.out
        have lt2 := (Array.getElem?_eq_some_iff.1 hHA2).1
        have HA2 := Lib.hid hHA2
        have hW2 := HW.out.trans (hb2.mono HW.out.size)
        have HW2 := Lib.hid hW2
        clear hHA2 hb2 hW2
        go_wp2_with (with_reducible refine wpList_load_row rfl 45 (.tmp 7) rfl w1.heap.size rfl 45 (m32 l) (0, 0) _ HA2.out Tryd.underlying45 rfl (HZ.out l HL.out) ?_)
        refine (crcTwice l HL.out w2).mono ?_
        rintro e w3 ⟨rfl, hb3⟩
        have hHA3 := (hb3.block w1.heap.size lt2).trans HA2.out
        have HA3 := Lib.hid hHA3
        have HWW := Lib.hid (HW2.out.trans (hb3.mono HW2.out.size))
        clear hHA3 hb3
        go_wp2_with (with_reducible refine wpList_store_row rfl 45 (.tmp 7) (.tmp 27) rfl w1.heap.size (m32 (Crc.tw l 32)) rfl rfl 45 _ HA3.out (HZ.out _ (tw_length l 32)) (by simp [m32_size, tw_length, HL.out]) (m32_one _) ?_)
        go_roundw
        case rel => exact ⟨k / 2, g, Crc.img l r 32, Crc.tw l 32, tw_length l 32, by go_num, rfl, HG.out, by omega, by rw [← HP.out, HF.out, if_pos HO.out], setRow_heap _ _ _ _ _ _ HA3.out, below_setRow HWW.out hB1 _⟩
        case measure => simp [intOf]; omega
      · have hd : ((k : Int) % 2 == 1) = false := by rw [beq_eq_false_iff_ne]; omega
        have HO := Lib.hid hodd
        clear hodd
        go_wp2_with (with_reducible refine wpList_load_row rfl 45 (.tmp 7) rfl w1.heap.size rfl 45 (m32 l) (0, 0) _ HA.out Tryd.underlying45 rfl (HZ.out l HL.out) ?_)
        refine (crcTwice l HL.out wr).mono ?_
        rintro e w3 ⟨rfl, hb3⟩
        have hHA3 := (hb3.block w1.heap.size lt1).trans HA.out
        have HA3 := Lib.hid hHA3
        have HWW := Lib.hid (HW.out.trans (hb3.mono HW.out.size))
        clear hHA3 hb3
        go_wp2_with (with_reducible refine wpList_store_row rfl 45 (.tmp 7) (.tmp 27) rfl w1.heap.size (m32 (Crc.tw l 32)) rfl rfl 45 _ HA3.out (HZ.out _ (tw_length l 32)) (by simp [m32_size, tw_length, HL.out]) (m32_one _) ?_)
        go_roundw
        case rel => exact ⟨k / 2, g, r, Crc.tw l 32, tw_length l 32, by go_num, rfl, HG.out, by omega, by rw [← HP.out, HF.out, if_neg HO.out], setRow_heap _ _ _ _ _ _ HA3.out, below_setRow HWW.out hB1 _⟩
        case measure => simp [intOf]; omega
end Go.Proofs.YtihiomgnegcbbaaDoor
