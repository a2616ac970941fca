/- The walk of SectorGets. -/
import Derived.Test.YtinfhlepjmollaaDoorSecGets
import Derived.Test.YtinfhlepjmollaaDoorSecMayL
namespace Go.Proofs.YtinfhlepjmollaaDoor
open Go.RowKit
set_option maxHeartbeats 4000000 in
theorem lawSectorGets (b : List (BitVec 8)) (ao : Option Addr) (cap : Nat) (at_ : Int) (x : BitVec 8) (w : World) (_hlc : b.length ≤ cap) (hr : Rd w ao b) (ht : Tab w) (hT : 0 < w.heap.size) :
   Calls Tryd.prog 4 #[.slice ao b.length cap, .int .i64 at_, .int .u8 (n8 x)] w fun e w' => e = .returned (.bool true) ∧ Below w.heap.size w w' := by
  have HTB := Lib.hid (fun (w' : World) (hb : Below w.heap.size w w') => (⟨ht.below hb hT, Nat.lt_of_lt_of_le hT hb.size⟩ : _ ∧ _))
  have HRB := Lib.hid (fun (w' : World) (hb : Below w.heap.size w w') => hr.on hb)
  clear hr ht hT
  go_enter Tryd.func4, Tryd.ntmps4
  go_wp2_with fail
  have HB := Lib.hid (Bag.start w)
  refine (lawFirst _ (HTB.out _ (Below.refl _ _)).1 (HTB.out _ (Below.refl _ _)).2).mono ?_
  rintro e W1 ⟨rfl, hb⟩
  have h0 := HB.out.call hb
  clear HB
  have HB := Lib.hid h0
  clear h0
  clear hb
  by_cases hlen : 2000 < b.length
  · have hlx : (2000 : Int) < (b.length : Int) := by omega
    go_wp2_with fail
    go_ret
    exact ⟨rfl, HB.out.below⟩
  go_wp2_with fail
  refine (roomOf ao b b.length cap _ rfl (by omega) (HRB.out _ HB.out.below)).mono ?_
  rintro e W2 ⟨g, cx, rfl, hg, hcx, Ox, hb⟩
  have h0 := HB.out.own hb Ox hg
  clear HB
  have HB := Lib.hid h0
  clear h0
  clear Ox hg
  clear hb
  go_wp2_with fail
  refine (lawGets b (some ⟨g, 0, none⟩) b.length cx _ rfl (by omega) hcx (HB.out.mineRd 0 rfl) (HTB.out _ HB.out.below).1 (HTB.out _ HB.out.below).2).mono ?_
  rintro e W3 ⟨rfl, hb⟩
  have h0 := HB.out.call hb
  clear HB
  have HB := Lib.hid h0
  clear h0
  clear hb
  by_cases h0 : b.length = 0
  · have hz : ((b.length : Int) == 0) = true := by rw [beq_iff_eq]; omega
    clear h0
    go_wp2_with fail
    go_ret
    exact ⟨rfl, HB.out.below⟩
  have hz : ((b.length : Int) == 0) = false := by rw [beq_eq_false_iff_ne]; omega
  obtain ⟨hb1', hb2', i, hi, hidx⟩ := place at_ b.length (by omega)
  have hcell := (HB.out.mineOwn 0 rfl).pre.cell i hi
  have hfree := (HB.out.mineOwn 0 rfl).free i
  obtain ⟨y, hy⟩ : ∃ y, b.getD i 0#8 = y := ⟨_, rfl⟩
  rw [hy] at hcell
  clear h0 hy
  go_wp2_with fail
  generalize hU : W3.setCell ⟨g, i, none⟩ (.int .u8 (n8 (y ^^^ x))) = U4
  have h0 := HB.out.byte 0 rfl i (y ^^^ x)
  rw [hU, List.set_append_left _ _ hi] at h0
  simp only [List.set_cons_zero] at h0
  clear HB
  have HB := Lib.hid h0
  clear h0
  clear hU hcell hfree
  refine (lawGets (b.set i (y ^^^ x)) (some ⟨g, 0, none⟩) b.length cx _ List.length_set (by omega) hcx (HB.out.mineRd 0 rfl) (HTB.out _ HB.out.below).1 (HTB.out _ HB.out.below).2).mono ?_
  rintro e W5 ⟨rfl, hb⟩
  have h0 := HB.out.call hb
  clear HB
  have HB := Lib.hid h0
  clear h0
  clear hb
  go_wp2_with fail
  go_ret
  exact ⟨rfl, HB.out.below⟩
end Go.Proofs.YtinfhlepjmollaaDoor
