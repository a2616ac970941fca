/- The walk of the laws' own 'first': sums that the document tells. -/
import Derived.Test.YtihiomgnegcbbaaDoorCrcJoins
import Derived.Test.YtihiomgnegcbbaaDoorBytes2
import Derived.Lib.SlBytesConst
namespace Go.Proofs.YtihiomgnegcbbaaDoor
open Go.RowKit
def l9 : List (BitVec 8) := [49#8, 50#8, 51#8, 52#8, 53#8, 54#8, 55#8, 56#8, 57#8]
def l5 : List (BitVec 8) := [49#8, 50#8, 51#8, 52#8, 53#8]
def l4 : List (BitVec 8) := [54#8, 55#8, 56#8, 57#8]
theorem sum9 : Crc.sum l9 = 3808858755#32 := by decide +kernel
theorem sum0 : Crc.sum [] = 0#32 := by decide +kernel
theorem upd5 : Crc.upd (Crc.sum l5) l4 = 3808858755#32 := by decide +kernel
theorem join5 : Crc.join (Crc.sum l5) (Crc.sum l4) 4 = 3808858755#32 := by decide +kernel
theorem joinn : Crc.join 1#32 5#32 (-1) = 0#32 := by decide +kernel
theorem join1 : Crc.join 1#32 0#32 1 = 4067132163#32 := by decide +kernel
theorem bts9 : bts l9 = [.int .u8 49, .int .u8 50, .int .u8 51, .int .u8 52, .int .u8 53, .int .u8 54, .int .u8 55, .int .u8 56, .int .u8 57] := by unfold bts n8 l9; rfl
theorem bts5 : bts l5 = [.int .u8 49, .int .u8 50, .int .u8 51, .int .u8 52, .int .u8 53] := by unfold bts n8 l5; rfl
theorem bts4 : bts l4 = [.int .u8 54, .int .u8 55, .int .u8 56, .int .u8 57] := by unfold bts n8 l4; rfl
theorem call9 (ao : Option Addr) (w : World) (hr : Rd w ao l9) (ht : Tab w) : Calls Tryd.prog 15 #[.slice ao 9 9] w fun e w' => e = .returned (.int .u32 3808858755) ∧ w = w' := by
  have := crcSum ao l9 9 w (by decide) hr ht
  rw [sum9, show n32 3808858755#32 = 3808858755 from by unfold n32; rfl] at this
  exact this
theorem call0 (w : World) (ht : Tab w) : Calls Tryd.prog 15 #[.slice none 0 0] w fun e w' => e = .returned (.int .u32 0) ∧ w = w' := by
  have := crcSum none [] 0 w (by decide) (Rd.nil _ _) ht
  rw [sum0, show n32 0#32 = 0 from by unfold n32; rfl] at this
  exact this
theorem call54 (ao : Option Addr) (w : World) (hr : Rd w ao l4) (ht : Tab w) : Calls Tryd.prog 18 #[.int .u32 (n32 (Crc.sum l5)), .slice ao 4 4] w fun e w' => e = .returned (.int .u32 3808858755) ∧ w = w' := by
  have := crcUpdate (Crc.sum l5) ao l4 4 w (by decide) hr ht
  rw [upd5, show n32 3808858755#32 = 3808858755 from by unfold n32; rfl] at this
  exact this
theorem callj (w : World) : Calls Tryd.prog 20 #[.int .u32 (n32 (Crc.sum l5)), .int .u32 (n32 (Crc.sum l4)), .int .i64 4] w fun e w' => e = .returned (.int .u32 3808858755) ∧ Below w.heap.size w w' := by
  have := crcJoin (Crc.sum l5) (Crc.sum l4) 4 (by omega) w
  rw [join5, show n32 3808858755#32 = 3808858755 from by unfold n32; rfl] at this
  exact this
theorem callj2 (w : World) : Calls Tryd.prog 20 #[.int .u32 1, .int .u32 5, .int .i64 (-1)] w fun e w' => e = .returned (.int .u32 0) ∧ Below w.heap.size w w' := by
  have := crcJoin 1#32 5#32 (-1) (by omega) w
  rw [joinn, show n32 1#32 = 1 from by unfold n32; rfl, show n32 5#32 = 5 from by unfold n32; rfl, show n32 0#32 = 0 from by unfold n32; rfl] at this
  exact this
theorem callj3 (w : World) : Calls Tryd.prog 20 #[.int .u32 1, .int .u32 0, .int .i64 1] w fun e w' => e = .returned (.int .u32 4067132163) ∧ Below w.heap.size w w' := by
  have := crcJoin 1#32 0#32 1 (by omega) w
  rw [join1, show n32 1#32 = 1 from by unfold n32; rfl, show n32 0#32 = 0 from by unfold n32; rfl, show n32 4067132163#32 = 4067132163 from by unfold n32; rfl] at this
  exact this
set_option maxHeartbeats 400000 in
theorem lawFirst (w : World) (ht : Tab w) (hw : 0 < w.heap.size) :
   Calls Tryd.prog 13 #[] w fun e w' => e = .returned (.bool true) ∧ Below w.heap.size w w' := by
  have HT := Lib.hid (fun (w' : World) (hb : Below w.heap.size w w') => ht.below hb hw)
  have kc := fun (w : World) (C : Array Value) (n c : Nat) => Lib.run_convert_bytes_const (P := Tryd.prog) w 22 5 C n c Tryd.underlying22 Tryd.underlying5
  clear ht hw
  go_enter Tryd.func13, Tryd.ntmps13
  go_wp2_with fail
  have hb0 := (Below.refl w.heap.size w).alloc (Nat.le_refl _) (.cells #[.int .u8 49, .int .u8 50, .int .u8 51, .int .u8 52, .int .u8 53, .int .u8 54, .int .u8 55, .int .u8 56, .int .u8 57] 5 (9, 10))
  refine (call9 _ _ (Rd_new w _ _ _ l9 bts9.symm) (HT.out _ hb0)).mono ?_
  rintro e w1 ⟨rfl, rfl⟩
  go_wp2_with fail
  refine (call0 _ (HT.out _ hb0)).mono ?_
  rintro e w1 ⟨rfl, rfl⟩
  generalize w.alloc (.cells #[.int .u8 49, .int .u8 50, .int .u8 51, .int .u8 52, .int .u8 53, .int .u8 54, .int .u8 55, .int .u8 56, .int .u8 57] 5 (9, 10)) = w1 at hb0 ⊢
  go_wp2_with fail
  have hb1 := hb0.alloc hb0.size (.cells #[.int .u8 49, .int .u8 50, .int .u8 51, .int .u8 52, .int .u8 53] 5 (5, 6))
  refine (crcSum _ l5 5 _ (by decide) (Rd_new w1 _ _ _ l5 bts5.symm) (HT.out _ hb1)).mono ?_
  rintro e w2 ⟨rfl, rfl⟩
  generalize w1.alloc (.cells #[.int .u8 49, .int .u8 50, .int .u8 51, .int .u8 52, .int .u8 53] 5 (5, 6)) = w2 at hb1 ⊢
  clear hb0
  go_wp2_with fail
  have hb2 := hb1.alloc hb1.size (.cells #[.int .u8 54, .int .u8 55, .int .u8 56, .int .u8 57] 5 (4, 5))
  refine (call54 _ _ (Rd_new w2 _ _ _ l4 bts4.symm) (HT.out _ hb2)).mono ?_
  rintro e w3 ⟨rfl, rfl⟩
  generalize w2.alloc (.cells #[.int .u8 54, .int .u8 55, .int .u8 56, .int .u8 57] 5 (4, 5)) = w3 at hb2 ⊢
  clear hb1
  go_wp2_with fail
  have hb3 := hb2.alloc hb2.size (.cells #[.int .u8 49, .int .u8 50, .int .u8 51, .int .u8 52, .int .u8 53] 5 (5, 6))
  refine (crcSum _ l5 5 _ (by decide) (Rd_new w3 _ _ _ l5 bts5.symm) (HT.out _ hb3)).mono ?_
  rintro e w4 ⟨rfl, rfl⟩
  generalize w3.alloc (.cells #[.int .u8 49, .int .u8 50, .int .u8 51, .int .u8 52, .int .u8 53] 5 (5, 6)) = w4 at hb3 ⊢
  clear hb2
  go_wp2_with fail
  have hb4 := hb3.alloc hb3.size (.cells #[.int .u8 54, .int .u8 55, .int .u8 56, .int .u8 57] 5 (4, 5))
  refine (crcSum _ l4 4 _ (by decide) (Rd_new w4 _ _ _ l4 bts4.symm) (HT.out _ hb4)).mono ?_
  rintro e w5 ⟨rfl, rfl⟩
  generalize w4.alloc (.cells #[.int .u8 54, .int .u8 55, .int .u8 56, .int .u8 57] 5 (4, 5)) = w5 at hb4 ⊢
  clear hb3
  go_wp2_with fail
  refine (callj _).mono ?_
  rintro e w6 ⟨rfl, hb6⟩
  go_wp2_with fail
  refine (callj2 _).mono ?_
  rintro e w7 ⟨rfl, hb7⟩
  go_wp2_with fail
  refine (callj3 _).mono ?_
  rintro e w8 ⟨rfl, hb8⟩
  have hb := ((hb4.trans (hb6.mono hb4.size)).trans (hb7.mono (Nat.le_trans hb4.size hb6.size))).trans (hb8.mono (Nat.le_trans (Nat.le_trans hb4.size hb6.size) hb7.size))
  clear hb4 hb6 hb7 hb8 kc
  go_wp2
  go_ret
  exact ⟨rfl, hb⟩
end Go.Proofs.YtihiomgnegcbbaaDoor
