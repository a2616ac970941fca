/- The reference's Put; the law's room. -/
import Derived.Test.YtmhcfifenclebaaBytes2
import Derived.Test.YtmhcfifenclebaaBitsNum
import Derived.Test.YtmhcfifenclebaaMem
import Derived.Test.YtmhcfifenclebaaAppend
namespace Go.Proofs.Ytmhcfifenclebaa
open Go.RowKit
theorem refPut (ao : Option Addr) (l : List (BitVec 8)) (cap n : Nat) (x : BitVec 64) (w : World) (hl : l.length ≤ 140737488351232) (hr : Rd w ao l) (hn : n ≤ 8) :
   Calls Try.prog 31 #[.slice ao l.length cap, .int .u64 (n64 x), .int .i64 n] w fun e w' => ∃ v, e = .returned v ∧ w'.ownsRow w.heap.size 5 1 v (l.length + n) (bts (l ++ be x n)) ∧ Below w.heap.size w w' := by
  obtain ⟨i0, hi, hz0, hz1, hz2⟩ := info_parts info_u8
  go_enter Try.func31, Try.ntmps31
  go_wp2_with fail
  refine (bytesOf ao l cap w hl hr).mono ?_
  rintro e w1 ⟨v, rfl, hown, hb1⟩
  clear hr
  go_wp2_with fail
  go_loopw [7, 8] (fun v i wr => ∃ (m : Nat) (P : List (BitVec 8)), m ≤ n ∧ P ++ be x m = be x n ∧ i = .int .i64 ((m : Int) - 1) ∧ wr.ownsRow w.heap.size 5 1 v (l.length + (n - m)) (bts (l ++ P)) ∧ Below w.heap.size w wr) (fun _ i _ => (intOf i + 1).toNat)
  case atStart => exact ⟨n, [], Nat.le_refl _, rfl, rfl, by simpa using hown, hb1⟩
  case round =>
    obtain ⟨m, P, hm, hP, rfl, hown, hnx⟩ := hrel
    cases m with
    | zero =>
      have HP := Lib.hid hP
      clear hP
      go_wp2
      go_ret
      refine ⟨_, rfl, ?_, hnx⟩
      have := HP.out
      simp only [be, List.append_nil] at this
      rw [← this]
      simpa using hown
    | succ m =>
      rw [show (((m + 1 : Nat) : Int)) - 1 = (m : Int) by omega]
      have HP : Hid ((P ++ [(x >>> (8 * m)).setWidth 8]) ++ be x m = be x n) := by show _ = _; rw [← hP]; simp [be]
      clear hP
      go_wp2_with (at_builtin; refine wpList_append_bytes rfl _ _ 22 rfl w.heap.size 5 i0 Try.underlying22 hi hz0 hz1 hz2 _ _ (l ++ P) rfl (hown.alloc _) (some ⟨wr.heap.size, 0, none⟩) 1 1 [(x >>> (8 * m)).setWidth 8] rfl rfl (Rd_new wr _ _ _ _ rfl) (fun h => by cases h) (by omega) w.heap.size (hnx.alloc hnx.size _) (Nat.le_refl _) (by have := hnx.size; simp; omega) ?_)
      intro v' w2 hown' hb2
      go_wp2_with fail
      go_roundw
      case rel => exact ⟨m, _, by omega, HP.out, by go_num, by rw [show l.length + (n - m) = l.length + (n - (m + 1)) + 1 by omega]; exact hown', hb2⟩
      case measure => simp [intOf]
theorem roomOf (ao : Option Addr) (l : List (BitVec 8)) (cap : Nat) (w : World) (hl : l.length ≤ 65536) (hr : Rd w ao l) :
   Calls Try.prog 9 #[.slice ao l.length cap] w fun e w' => ∃ g c, e = .returned (.slice (some ⟨g, 0, none⟩) (l.length + 3) c) ∧ w.heap.size ≤ g ∧ l.length + 3 ≤ c ∧ Own w' g c 5 (l ++ [161#8, 162#8, 163#8]) ∧ Below w.heap.size w w' := by
  obtain ⟨i0, hi, hz0, hz1, hz2⟩ := info_parts info_u8
  go_enter Try.func9, Try.ntmps9
  go_wp2_with fail
  refine (bytesOf ao l cap w (by omega) hr).mono ?_
  rintro e w1 ⟨v, rfl, hown, hb1⟩
  clear hr
  go_wp2_with (at_builtin; refine wpList_append_bytes rfl _ _ 22 rfl w.heap.size 5 i0 Try.underlying22 hi hz0 hz1 hz2 _ _ l rfl (hown.alloc _) (some ⟨w1.heap.size, 0, none⟩) 3 3 [161#8, 162#8, 163#8] rfl rfl (Rd_new w1 _ _ _ _ (by simp [bts, n8])) (fun h => by cases h) (by omega) w.heap.size (hb1.alloc hb1.size _) (Nat.le_refl _) (by have := hb1.size; simp; omega) ?_)
  intro v' w2 hown' hb2
  go_wp2
  go_ret
  obtain ⟨g, c, rfl, hg, hc, _, ho⟩ := owns_own hown' (by simp)
  exact ⟨g, c, by simp, hg, by simpa using hc, ho, hb2⟩
end Go.Proofs.Ytmhcfifenclebaa
