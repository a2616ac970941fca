/- The walk of CrcBehind. -/
import Derived.Test.YtihiomgnegcbbaaDoorCrcRoom
import Derived.Test.YtihiomgnegcbbaaDoorAppend
namespace Go.Proofs.YtihiomgnegcbbaaDoor
open Go.RowKit
set_option maxHeartbeats 1000000 in
theorem lawBehind (ao : Option Addr) (l : List (BitVec 8)) (cap : Nat) (w : World) (hl : l.length ≤ 140737488351232) (hr : Rd w ao l) (ht : Tab w) (hw : 0 < w.heap.size) :
   Calls Tryd.prog 11 #[.slice ao l.length cap] w fun e w' => e = .returned (.bool true) ∧ Below w.heap.size w w' := by
  obtain ⟨i0, hi, hz0, hz1, hz2⟩ := info_parts info_u8
  go_enter Tryd.func11, Tryd.ntmps11
  go_wp2_with fail
  refine (lawFirst w ht hw).mono ?_
  rintro e w1 ⟨rfl, hb1⟩
  by_cases hlen : 65536 < l.length
  · clear hr ht
    go_wp2
    go_ret
    exact ⟨rfl, hb1⟩
  have hle : l.length ≤ 65536 := by omega
  have HR := Lib.hid (fun (w' : World) (hb : Below w.heap.size w w') => hr.on hb)
  have HT := Lib.hid (fun (w' : World) (hb : Below w.heap.size w w') => ht.below hb hw)
  clear hlen hr ht
  go_wp2_with fail
  refine (crcSum ao l cap w1 (by omega) (HR.out _ hb1) (HT.out _ hb1)).mono ?_
  rintro e w2 ⟨rfl, rfl⟩
  go_wp2_with fail
  refine (bytesOf ao l cap w1 (by omega) (HR.out _ hb1)).mono ?_
  rintro e w2 ⟨v, rfl, hown, hb2⟩
  have hsz2 : w1.heap.size ≤ w2.heap.size := hb2.size
  have hB2 := hb1.trans (hb2.mono hb1.size)
  obtain ⟨s, hs⟩ : ∃ s, Crc.sum l = s := ⟨_, rfl⟩
  rw [hs]
  have HS := Lib.hid hs
  clear hs hb2
  go_wp2_with (at_builtin; refine wpList_append_bytes rfl _ _ 22 rfl w1.heap.size 5 i0 Tryd.underlying22 hi hz0 hz1 hz2 _ _ l rfl (hown.alloc _) (some ⟨w2.heap.size, 0, none⟩) 4 4 (Crc.le4 s) rfl rfl (Rd_new w2 _ _ _ _ rfl) (fun h => by cases h) (by omega) w.heap.size (hB2.alloc hB2.size _) hb1.size (by simp; omega) ?_)
  intro v2 w3 ho2 hB3
  obtain ⟨hn2, a2, c2, rfl, r2, _, _, _, _⟩ := owns_rdn ho2
  clear ho2 hown
  have hlast : (Crc.sum (l ++ Crc.le4 s)) = 1214729159#32 := by rw [← HS.out]; exact Crc.sum_behind l
  have k1 := crcSum' a2 (l ++ Crc.le4 s) _ c2 w3 hn2 (by rw [hn2]; omega) r2 (HT.out _ hB3)
  rw [hlast, show n32 1214729159#32 = 1214729159 from by unfold n32; rfl] at k1
  clear hlast hn2 r2
  go_wp2_with fail
  refine k1.mono ?_
  clear k1
  rintro e w4 ⟨rfl, rfl⟩
  go_wp2
  go_ret
  exact ⟨rfl, hB3⟩
end Go.Proofs.YtihiomgnegcbbaaDoor
