/- The walk of the laws' own 'turn'. -/
import Derived.Test.YtihiomgnegcbbaaDoorCrcRoom
import Derived.RegionTactic
import Derived.ChangeAlike
import Derived.BigRegion
namespace Go.Proofs.YtihiomgnegcbbaaDoor
open Go.RowKit
theorem shl8 (k : Nat) : (2 : Int) ^ k % 256 = n8 (1#8 <<< k) := by
  unfold n8; rw [BitVec.toNat_shiftLeft, Nat.shiftLeft_eq]; simp
set_option maxHeartbeats 1000000 in
theorem lawTurn (g cap : Nat) (l : List (BitVec 8)) (k : Nat) (w : World) (hk : k < 8 * l.length) (hl : l.length ≤ 1000000) (ho : Own w g cap 5 l) :
   Calls Tryd.prog 23 #[.slice (some ⟨g, 0, none⟩) l.length cap, .int .i64 k] w fun e w' => e = .returned (.tuple #[]) ∧ Own w' g cap 5 (Crc.turn l k) ∧ ∀ B, B ≤ g → Below B w w' := by
  have hi : k / 8 < l.length := by omega
  have hcell := ho.cell (k / 8) hi
  have hfree := ho.free (k / 8)
  obtain ⟨y, hy⟩ : ∃ y, l.getD (k / 8) 0#8 = y := ⟨_, rfl⟩
  have hT : Crc.turn l k = l.set (k / 8) (y ^^^ (1#8 <<< (k % 8))) := by unfold Crc.turn; rw [hy]
  rw [hy] at hcell
  have HT := Lib.hid hT
  have HO := Lib.hid ho
  have h8 : k % 8 < 8 := Nat.mod_lt _ (by omega)
  have hsh := shl8 (k % 8)
  clear hT ho hy
  go_enter Tryd.func23, Tryd.ntmps23
  go_wp2
  go_region
  go_end0
  refine ⟨rfl, ?_, fun B hB => ?_⟩
  · rw [HT.out]
    exact HO.out.set (k / 8) (y ^^^ (1#8 <<< (k % 8)))
  · first
      | exact ((Below.refl B w).setCell (p := ⟨g, k / 8, none⟩) hB _).drew
      | exact (Below.refl B w).drew.setCell (p := ⟨g, k / 8, none⟩) hB _
/-- Whatever sign a place has: it is brought among the bits. -/
theorem place (x : Int) (M : Nat) (hM : 0 < M) : -(M : Int) < x.tmod M ∧ x.tmod M < (M : Int) ∧ ∃ i : Nat, i < M ∧ (x.tmod (M : Int) + (M : Int)) % (M : Int) = (i : Int) := by
  have h1 : -(M : Int) < x.tmod M := by have := Int.lt_tmod_of_pos x (b := (M : Int)) (by omega); omega
  have h2 : x.tmod M < (M : Int) := Int.tmod_lt_of_pos x (by omega)
  refine ⟨h1, h2, ?_⟩
  have h3 := Int.emod_nonneg (x.tmod (M : Int) + (M : Int)) (b := (M : Int)) (by omega)
  have h4 := Int.emod_lt_of_pos (x.tmod (M : Int) + (M : Int)) (b := (M : Int)) (by omega)
  exact ⟨_, by omega, (Int.toNat_of_nonneg h3).symm⟩
end Go.Proofs.YtihiomgnegcbbaaDoor
