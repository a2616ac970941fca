/- The Book's lists of bytes: marks; the things of a Book in a bag. -/
import Derived.Test.YtjlhnepjpjlppaaGreatDoorBookZ
import Derived.Test.YtjlhnepjpjlppaaGreatDoorSame
import Derived.Test.YtjlhnepjpjlppaaGreatDoorBytes2
import Derived.Deep.RegionHeldLaw
import Derived.StillTailTactics
namespace Go.Proofs.YtjlhnepjpjlppaaGreatDoor
open Go.RowKit
def markZ (pass id j : Int) : Int := if pass = 1 then wrap64 (wrap64 (id * 97) + wrap64 (j * 31)) else wrap64 (wrap64 (wrap64 (wrap64 (wrap64 (id.tdiv 256) * 59) + wrap64 (j * 13)) + wrap64 (id.tmod 256 * 3)) + 1)
/-- The mark of element j of the list number id. -/
def bm (pass id j : Int) : BitVec 8 := BitVec.ofInt 8 (markZ pass id j)
theorem n8_ofInt (z : Int) : n8 (BitVec.ofInt 8 z) = z % 256 := by
  unfold n8
  rw [BitVec.toNat_ofInt]
  have := Int.emod_nonneg z (b := 256) (by decide)
  omega
theorem byteMark (p : Nat) (pass id j : Int) (w : World) (h : w.cell? ⟨p, 1, none⟩ = some (.int .i64 pass)) : Calls Tryz.prog 107 #[.pointer (some ⟨p, 0, none⟩), .int .i64 id, .int .i64 j] w fun e w' => e = .returned (.int .u8 (n8 (bm pass id j))) ∧ w' = w := by
  by_cases hp : pass = 1
  · have hz : n8 (bm pass id j) = wrap64 (wrap64 (id * 97) + wrap64 (j * 31)) % 256 := by rw [bm, n8_ofInt, markZ, if_pos hp]
    have HZ := Lib.hid hz
    subst hp
    clear hz
    go_enter Tryz.func107, Tryz.ntmps107
    go_wp2
    go_ret
    exact ⟨by rw [HZ.out]; rfl, rfl⟩
  · have hp1 : (pass == 1) = false := by rw [beq_eq_false_iff_ne]; exact hp
    have hz : n8 (bm pass id j) = wrap64 (wrap64 (wrap64 (wrap64 (wrap64 (id.tdiv 256) * 59) + wrap64 (j * 13)) + wrap64 (id.tmod 256 * 3)) + 1) % 256 := by rw [bm, n8_ofInt, markZ, if_neg hp]
    have HZ := Lib.hid hz
    clear hz hp
    go_enter Tryz.func107, Tryz.ntmps107
    go_wp2
    go_ret
    exact ⟨by rw [HZ.out]; rfl, rfl⟩
/-- The first n marks of a list. -/
def marks (pass id : Int) (n : Nat) : List (BitVec 8) := (List.range n).map fun j : Nat => bm pass id (j : Int)
theorem marks_len (pass id : Int) (n : Nat) : (marks pass id n).length = n := by simp [marks]
theorem marks_succ (pass id : Int) (n : Nat) : marks pass id (n + 1) = marks pass id n ++ [bm pass id n] := by simp [marks, List.range_succ]
theorem marks_get (pass id : Int) (n j : Nat) (h : j < n) : (marks pass id n).getD j 0#8 = bm pass id j := by simp [marks, List.getD, h]
theorem marks_set (pass id : Int) (l : List (BitVec 8)) (j : Nat) (h : j < l.length) : (marks pass id j ++ l.drop j).set j (bm pass id j) = marks pass id (j + 1) ++ l.drop (j + 1) := by
  rw [List.set_append_right _ _ (by rw [marks_len]; exact Nat.le_refl _), marks_len, Nat.sub_self, List.drop_eq_getElem_cons h, List.set_cons_zero, marks_succ, List.append_assoc]
  rfl
set_option maxHeartbeats 400000 in
theorem bytesShow (p : Nat) (pass id : Int) (ao : Option Addr) (n cap : Nat) (w : World) (h : w.cell? ⟨p, 1, none⟩ = some (.int .i64 pass)) (hn : n ≤ 140737488355328) (hr : Rd w ao (marks pass id n)) :
   Calls Tryz.prog 124 #[.pointer (some ⟨p, 0, none⟩), .slice ao n cap, .int .i64 id] w fun e w' => e = .returned (.bool true) ∧ w' = w := by
  have hc : ∀ j, j < n → ∃ b o, ao = some ⟨b, o, none⟩ ∧ w.cell? ⟨b, o + j, none⟩ = some (.int .u8 (n8 (bm pass id j))) := by
    intro j hj
    obtain ⟨b, o, rfl, hc⟩ := hr.at (by rw [marks_len]; omega)
    refine ⟨b, o, rfl, ?_⟩
    rw [hc j (by rw [marks_len]; exact hj), marks_get _ _ _ _ hj]
  have HC := Lib.hid hc
  clear hc hr
  go_enter Tryz.func124, Tryz.ntmps124
  go_wp2
  go_loop [7, 8, 9] (fun i _ _ => ∃ j : Nat, j ≤ n ∧ i = .int .i64 j) (fun i _ _ => n - (intOf i).toNat)
  case atStart => exact ⟨0, Nat.zero_le _, rfl⟩
  case round =>
    obtain ⟨j, hj, rfl⟩ := hrel
    by_cases hlt : j < n
    · obtain ⟨b, o, rfl, hcell⟩ := HC.out j hlt
      clear HC
      go_wp2_with (go_at_call 107; refine (byteMark p pass id j _ h).mono ?_; rintro e w' ⟨rfl, hw⟩; obtain rfl := hw.symm; clear hw)
      have hbb : (bm pass id j == bm pass id j) = true := by simp
      go_wp2
      go_round
      case rel => exact ⟨j + 1, by omega, by go_num⟩
      case measure => simp [intOf]; omega
    · clear HC
      go_wp2
      go_ret
      exact ⟨rfl, rfl⟩
end Go.Proofs.YtjlhnepjpjlppaaGreatDoor
