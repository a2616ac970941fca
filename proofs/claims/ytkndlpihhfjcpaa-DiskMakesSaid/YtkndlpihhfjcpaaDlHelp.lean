/- The law's small helpers: num, full, padded, place. -/
import Derived.Test.YtkndlpihhfjcpaaDkTell
import Derived.Test.YtkndlpihhfjcpaaSame
namespace Go.Proofs.Ytkndlpihhfjcpaa
open Go.RowKit
theorem numOf (e : Int) (w : World) : Calls Try.prog 13 #[.int .i64 e] w fun x w' => x = .returned (.int .i64 e) ∧ w = w' := by
  go_enter Try.func13, Try.ntmps13
  go_wp2
  go_ret
  exact ⟨rfl, rfl⟩
def placeZ (k n : Int) : Int := (k.tmod n + n).tmod n
theorem tmod_gt (k n : Int) (hn : 0 < n) : -n < k.tmod n := by
  by_cases hk : 0 ≤ k
  · rw [Int.tmod_eq_emod_of_nonneg hk]
    have := Int.emod_nonneg k (show n ≠ 0 by omega)
    omega
  · have h1 : k.tmod n = -((-k).tmod n) := by rw [Int.neg_tmod, Int.neg_neg]
    have h2 := Int.tmod_lt_of_pos (-k) hn
    omega
theorem placeZ_bd (k n : Int) (hn : 1 ≤ n) : 0 ≤ placeZ k n ∧ placeZ k n < n := by
  unfold placeZ
  have h1 := Int.tmod_lt_of_pos k (show 0 < n by omega)
  have h2 : -n < k.tmod n := tmod_gt k n (by omega)
  rw [Int.tmod_eq_emod_of_nonneg (show 0 ≤ k.tmod n + n by omega)]
  exact ⟨Int.emod_nonneg _ (by omega), Int.emod_lt_of_pos _ (by omega)⟩
theorem placeOf (k n : Int) (w : World) (hn : 1 ≤ n) (hn1 : n ≤ 1000000) : Calls Try.prog 41 #[.int .i64 k, .int .i64 n] w fun x w' => x = .returned (.int .i64 (placeZ k n)) ∧ w = w' := by
  have h1 := Int.tmod_lt_of_pos k (show 0 < n by omega)
  have h2 := tmod_gt k n (by omega)
  have HZ := Lib.hid (show placeZ k n = (k.tmod n + n) % n by unfold placeZ; rw [Int.tmod_eq_emod_of_nonneg (show 0 ≤ k.tmod n + n by omega)])
  have h3 : (n == 0) = false := by rw [beq_eq_false_iff_ne]; omega
  have h4 : 0 ≤ k.tmod n + n := by omega
  obtain ⟨z, hz⟩ : ∃ z, k.tmod n = z := ⟨_, rfl⟩
  by_cases hk : 0 ≤ k
  · have hkk : k % n = z := by rw [← hz, Int.tmod_eq_emod_of_nonneg hk]
    rw [hz] at HZ h1 h2 h4
    clear hz
    go_enter Try.func41, Try.ntmps41
    go_wp2
    go_ret
    exact ⟨by rw [HZ.out]; first | rfl | (rw [Int.add_emod_right]; rfl), rfl⟩
  · rw [hz] at HZ h1 h2 h4
    go_enter Try.func41, Try.ntmps41
    go_wp2
    go_ret
    exact ⟨by rw [HZ.out]; first | rfl | (rw [Int.add_emod_right]; rfl), rfl⟩
/-- The first j bytes are x, then zeros, up to a sector. -/
def fillJ (x : BitVec 8) (j : Nat) : List (BitVec 8) := List.replicate j x ++ List.replicate (512 - j) 0#8
theorem fillJ_len (x : BitVec 8) (j : Nat) (h : j ≤ 512) : (fillJ x j).length = 512 := by
  unfold fillJ
  rw [List.length_append, List.length_replicate, List.length_replicate]
  omega
theorem fillJ_set (x : BitVec 8) (j : Nat) (h : j < 512) : (fillJ x j).set j x = fillJ x (j + 1) := by
  unfold fillJ
  rw [List.set_append_right _ _ (by rw [List.length_replicate]; exact Nat.le_refl _), List.length_replicate, Nat.sub_self, show 512 - j = (512 - (j + 1)) + 1 by omega, List.replicate_succ, List.set_cons_zero, List.replicate_succ', List.append_assoc]
  rfl
def fullB (x : BitVec 8) : List (BitVec 8) := fillJ x 512
theorem fullB_len (x : BitVec 8) : (fullB x).length = 512 := fillJ_len x 512 (Nat.le_refl _)
theorem fillJ_zero (x : BitVec 8) : fillJ x 0 = Dk.zs := rfl
theorem fullB_zero : fullB 0#8 = Dk.zs := by
  unfold fullB fillJ Dk.zs
  rw [List.replicate_append_replicate]
theorem fullB_get (x : BitVec 8) (j : Nat) (h : j < 512) : (fullB x)[j]? = some x := by
  unfold fullB fillJ
  rw [List.getElem?_append_left (by rw [List.length_replicate]; exact h), List.getElem?_replicate, if_pos h]
set_option maxRecDepth 20000 in
set_option maxHeartbeats 400000 in
theorem fullOf (x : BitVec 8) (w : World) : Calls Try.prog 30 #[.int .u8 (n8 x)] w fun e w' => ∃ g, e = .returned (slv g) ∧ w.heap.size ≤ g ∧ Own w' g 512 5 (fullB x) ∧ Below w.heap.size w w' := by
  obtain ⟨i0, hi, hz0, hz1, hz2⟩ := info_parts info_u8
  unfold slv
  go_enter Try.func30, Try.ntmps30
  go_wp2_with (at_make; refine wpList_make_zeros rfl _ _ 37 rfl 5 i0 Try.underlying37 hi hz0 hz1 hz2 .i64 .i64 512 (by go_num) (by go_num) (by omega) Dk.zs rfl ?_)
  intro w2 hO hb
  have HB := Lib.hid ((Bag.start w).own hb hO (Nat.le_refl _))
  clear hO hb
  generalize hg : w.heap.size = g at HB ⊢
  have HG := Lib.hid hg
  clear hg
  go_wp2
  go_loopw [4] (fun t wr => ∃ j : Nat, j ≤ 512 ∧ t = .int .i64 j ∧ Bag w wr [.mine 5 (some ⟨g, 0, none⟩) 512 (fillJ x j)]) (fun t _ => 512 - (intOf t).toNat)
  case atStart => exact ⟨0, Nat.zero_le _, rfl, by rw [fillJ_zero]; exact HB.out⟩
  case round =>
    obtain ⟨j, hj, rfl, hB⟩ := hrel
    clear HB
    have HB := Lib.hid hB
    clear hB
    by_cases hlt : j < 512
    · have hO := HB.out.mineOwn 0 rfl
      have c := hO.cell j (by rw [fillJ_len x j hj]; exact hlt)
      have hf := hO.free j
      have h1 := HB.out.byte 0 rfl j x
      simp only [List.set_cons_zero] at h1
      rw [fillJ_set x j hlt] at h1
      have HB2 := Lib.hid h1
      generalize (fillJ x j).getD j 0#8 = y at c
      clear hO h1 HB
      go_wp2
      go_roundw
      case rel => exact ⟨j + 1, by omega, by go_num, HB2.out⟩
      case measure => simp [intOf]; omega
    · obtain rfl : j = 512 := by omega
      have hO := Lib.hid (HB.out.mineOwn 0 rfl)
      have hb := Lib.hid HB.out.below
      go_wp2
      go_ret
      exact ⟨g, rfl, by rw [← HG.out]; exact Nat.le_refl _, hO.out, hb.out⟩
/-- The bytes with zeros behind them, up to a sector. -/
def padJ (b : List (BitVec 8)) (j : Nat) : List (BitVec 8) := b.take j ++ Dk.zs.drop j
def padB (b : List (BitVec 8)) : List (BitVec 8) := padJ b (min b.length 512)
theorem padJ_len (b : List (BitVec 8)) (j : Nat) (h : j ≤ b.length) (h5 : j ≤ 512) : (padJ b j).length = 512 := by
  unfold padJ
  rw [List.length_append, List.length_take, List.length_drop, Dk.zs_len]
  omega
theorem padB_len (b : List (BitVec 8)) : (padB b).length = 512 := padJ_len b _ (Nat.min_le_left _ _) (Nat.min_le_right _ _)
theorem padJ_set (b : List (BitVec 8)) (j : Nat) {x : BitVec 8} (hx : b[j]? = some x) (h5 : j < 512) : (padJ b j).set j x = padJ b (j + 1) := by
  obtain ⟨hj, hxx⟩ := List.getElem?_eq_some_iff.1 hx
  unfold padJ
  have e : (b.take j).length = j := by rw [List.length_take]; omega
  rw [List.set_append_right _ _ (by omega), e, Nat.sub_self, List.drop_eq_getElem_cons (show j < Dk.zs.length by rw [Dk.zs_len]; exact h5), List.set_cons_zero, List.take_succ_eq_append_getElem hj, hxx, List.append_assoc]
  rfl
set_option maxRecDepth 20000 in
set_option maxHeartbeats 400000 in
theorem paddedOf (ao : Option Addr) (b : List (BitVec 8)) (n c : Nat) (w : World) (hn : b.length = n) (hn1 : n ≤ 1000000000000000) (hr : Rd w ao b) : Calls Try.prog 43 #[.slice ao n c] w fun e w' => ∃ g, e = .returned (slv g) ∧ w.heap.size ≤ g ∧ Own w' g 512 5 (padB b) ∧ Below w.heap.size w w' := by
  obtain ⟨i0, hi, hz0, hz1, hz2⟩ := info_parts info_u8
  have HR := Lib.hid (fun (w' : World) (hb : Below w.heap.size w w') => hr.on hb)
  have HN := Lib.hid hn
  clear hr hn
  unfold slv
  go_enter Try.func43, Try.ntmps43
  go_wp2_with (at_make; refine wpList_make_zeros rfl _ _ 37 rfl 5 i0 Try.underlying37 hi hz0 hz1 hz2 .i64 .i64 512 (by go_num) (by go_num) (by omega) Dk.zs rfl ?_)
  intro w2 hO hb
  have HB := Lib.hid ((Bag.start w).own hb hO (Nat.le_refl _))
  clear hO hb
  generalize hg : w.heap.size = g at HB ⊢
  have HG := Lib.hid hg
  clear hg
  go_wp2
  go_loopw [4] (fun t wr => ∃ j : Nat, j ≤ 512 ∧ j ≤ n ∧ t = .int .i64 j ∧ Bag w wr [.mine 5 (some ⟨g, 0, none⟩) 512 (padJ b j)]) (fun t _ => 512 - (intOf t).toNat)
  case atStart => exact ⟨0, Nat.zero_le _, Nat.zero_le _, rfl, HB.out⟩
  case round =>
    obtain ⟨j, hj, hjn, rfl, hB⟩ := hrel
    clear HB
    have HB := Lib.hid hB
    clear hB
    by_cases hlt : j < 512 ∧ j < n
    · obtain ⟨hlt, hln⟩ := hlt
      obtain ⟨x, hx⟩ : ∃ x, b[j]? = some x := ⟨b[j]'(by rw [HN.out]; exact hln), List.getElem?_eq_getElem _⟩
      have hO := HB.out.mineOwn 0 rfl
      have hr := HR.out wr HB.out.below
      obtain ⟨bb, bo, rfl, hcs⟩ := hr.at (by rw [HN.out]; omega)
      have c1 := hcs j (by rw [HN.out]; exact hln)
      rw [show b.getD j 0#8 = x by simp [List.getD, hx]] at c1
      have c := hO.cell j (by rw [padJ_len b j (by rw [HN.out]; exact hjn) hj]; exact hlt)
      have hf := hO.free j
      have h1 := HB.out.byte 0 rfl j x
      simp only [List.set_cons_zero] at h1
      rw [padJ_set b j hx hlt] at h1
      have HB2 := Lib.hid h1
      generalize (padJ b j).getD j 0#8 = y at c
      clear hO h1 HB hr hcs hx
      go_wp2
      go_roundw
      case rel => exact ⟨j + 1, by omega, by omega, by go_num, HB2.out⟩
      case measure => simp [intOf]; omega
    · have HJ := Lib.hid (show j = min b.length 512 by rw [HN.out]; omega)
      have hO := Lib.hid (HB.out.mineOwn 0 rfl)
      have hb := Lib.hid HB.out.below
      have hjj : (j < n ∧ ¬ j < 512) ∨ ¬ j < n := by omega
      clear hlt
      rcases hjj with ⟨h1, h2⟩ | h1
      all_goals
        go_wp2
        go_ret
        refine ⟨g, rfl, by rw [← HG.out]; exact Nat.le_refl _, ?_, hb.out⟩
        unfold padB
        rw [← HJ.out]
        exact hO.out
end Go.Proofs.Ytkndlpihhfjcpaa
