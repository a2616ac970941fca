/- The walk of the reference's Bytes: the same bytes in new memory. -/
import Derived.Test.YthaiibfnjgfgjaaDoorBytes
namespace Go.Proofs.YthaiibfnjgfgjaaDoor
open Go.RowKit
theorem info_u8 : (Tryd.prog.info? 5).map (fun i => (i.zero, i.size, i.bytes)) = some (some (.int .u8 0), 1, 1) := by kernel_rfl
theorem take_snoc8 (l : List (BitVec 8)) (k : Nat) (h : k < l.length) : bts (l.take (k + 1)) = bts (l.take k) ++ [.int .u8 (n8 (l.getD k 0#8))] := by
  rw [List.take_succ_eq_append_getElem h, bts_append]; simp [bts, List.getD, h]
set_option maxHeartbeats 400000 in
theorem bytesOf (ao : Option Addr) (l : List (BitVec 8)) (cap : Nat) (w : World)
   (hl : l.length ≤ 140737488351232) (hr : Rd w ao l) :
   Calls Tryd.prog 39 #[.slice ao l.length cap] w fun e w' => ∃ v, e = .returned v ∧ w'.ownsRow w.heap.size 5 1 v l.length (bts l) ∧ Below w.heap.size w w' := by
  by_cases hl0 : 0 < l.length
  · obtain ⟨b, o, rfl, hb⟩ := hr.at hl0
    have hbB : b < w.heap.size := lt_of_rd (hb 0 hl0)
    obtain ⟨i0, hi, hz0, hz1, hz2⟩ := info_parts info_u8
    clear hr
    go_enter Tryd.func39, Tryd.ntmps39
    go_wp2
    go_loopw [3, 4] (fun v i wr => ∃ k : Nat, k ≤ l.length ∧ i = .int .i64 k ∧ wr.ownsRow w.heap.size 5 1 v k (bts (l.take k)) ∧ Below w.heap.size w wr) (fun _ i _ => l.length - (intOf i).toNat)
    case atStart => exact ⟨0, Nat.zero_le _, rfl, World.ownsRow_nil _ _ _ _, Below.refl _ _⟩
    case round =>
      obtain ⟨k, hk, rfl, hown, hnx⟩ := hrel
      by_cases hlt : k < l.length
      · have hc : wr.cell? ⟨b, o + k, none⟩ = some (.int .u8 (n8 (l.getD k 0#8))) := (hnx.cell hbB).trans (hb k hlt)
        have hS := take_snoc8 l k hlt
        obtain ⟨x, hx⟩ : ∃ x, l.getD k 0#8 = x := ⟨_, rfl⟩
        rw [hx] at hc hS
        have HS := Lib.hid hS
        clear hb hx hS
        go_wp2_with (at_builtin; refine wpList_append_own _ rfl _ _ 29 rfl w.heap.size 5 i0 (.int .u8 0) 1 1 Tryd.underlying29 hi hz0 hz1 hz2 rfl (by decide) _ _ _ rfl (hown.alloc _) ⟨wr.heap.size, 0, none⟩ 1 1 [.int .u8 (n8 x)] rfl rfl ?c1 ?c2 ?c3 ?c4 ?c5 ?_)
        case c1 =>
          intro j u hj
          match j, hj with
          | 0, hj => simp at hj; subst hj; simp [Addr.add]
        case c2 => intro u hu; simp at hu; subst hu; rfl
        case c3 => unfold maxLen; omega
        case c4 => omega
        case c5 => have := hnx.size; simp; omega
        intro v' w1 hown' hgrow _
        have hn1 : Below w.heap.size w w1 := (hnx.alloc hnx.size _).grown hgrow (by have := hnx.size; simp; omega) (fun g hg => (hown.lt g hg).1)
        clear hown hgrow hnx hc
        go_wp2
        go_roundw
        case rel => exact ⟨k + 1, by omega, by go_num, by rw [HS.out]; exact hown', hn1⟩
        case measure => simp [intOf]; omega
      · obtain rfl : k = l.length := by omega
        rw [List.take_length] at hown
        clear hb
        go_wp2
        go_ret
        exact ⟨_, rfl, hown, hnx⟩
  · obtain rfl : l = [] := List.length_eq_zero_iff.1 (by omega)
    clear hr
    go_enter Tryd.func39, Tryd.ntmps39
    go_wp2
    go_loop [3, 4] (fun v i => v = .slice none 0 0 ∧ i = .int .i64 0) (fun _ _ => 0)
    case atStart => exact ⟨rfl, rfl⟩
    case round =>
      obtain ⟨rfl, rfl⟩ := hrel
      go_wp2
      go_ret
      exact ⟨_, rfl, World.ownsRow_nil _ _ _ _, Below.refl _ _⟩
theorem bytesOf' (ao : Option Addr) (l : List (BitVec 8)) (n cap : Nat) (w : World) (hn : l.length = n)
   (hl : l.length ≤ 140737488351232) (hr : Rd w ao l) :
   Calls Tryd.prog 39 #[.slice ao n cap] w fun e w' => ∃ v, e = .returned v ∧ w'.ownsRow w.heap.size 5 1 v n (bts l) ∧ Below w.heap.size w w' := by
  subst hn; exact bytesOf ao l cap w hl hr
end Go.Proofs.YthaiibfnjgfgjaaDoor
