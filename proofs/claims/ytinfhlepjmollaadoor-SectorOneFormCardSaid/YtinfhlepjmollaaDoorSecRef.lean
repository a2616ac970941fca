/- The reference's Number, Sum and Value. -/
import Derived.Test.YtinfhlepjmollaaDoorSecCopy
import Derived.Test.YtinfhlepjmollaaDoorSBits
import Derived.Test.YtinfhlepjmollaaDoorCrcMaps
import Derived.Test.YtinfhlepjmollaaDoorCut
namespace Go.Proofs.YtinfhlepjmollaaDoor
open Go.RowKit
theorem refNumber (v : Value) (l : List (BitVec 8)) (k n B : Nat) (x : BitVec 64) (w0 w : World) (hown : w.ownsRow B 5 1 v k (bts l)) (hb : Below B w0 w) (hB : B ≤ w.heap.size) (hl : k ≤ 140737488351232) (hn : n ≤ 8) :
   Calls Tryd.prog 32 #[v, .int .u64 (n64 x), .int .i64 n] w fun e w' => ∃ v', e = .returned v' ∧ w'.ownsRow B 5 1 v' (k + n) (bts (l ++ be x n)) ∧ Below B w0 w' ∧ w.heap.size ≤ w'.heap.size := by
  obtain ⟨i0, hi, hz0, hz1, hz2⟩ := info_parts info_u8
  go_enter Tryd.func32, Tryd.ntmps32
  go_wp2_with fail
  go_loopw [0, 7] (fun v i wr => ∃ (m : Nat) (P : List (BitVec 8)), m ≤ n ∧ P ++ be x m = be x n ∧ i = .int .i64 ((m : Int) - 1) ∧ wr.ownsRow B 5 1 v (k + (n - m)) (bts (l ++ P)) ∧ Below B w0 wr ∧ w.heap.size ≤ wr.heap.size) (fun _ i _ => (intOf i + 1).toNat)
  case atStart => exact ⟨n, [], Nat.le_refl _, rfl, rfl, by simpa using hown, hb, Nat.le_refl _⟩
  case round =>
    obtain ⟨m, P, hm, hP, rfl, hown, hnx, hsz⟩ := hrel
    cases m with
    | zero =>
      have HP := Lib.hid hP
      clear hP
      go_wp2
      go_ret
      refine ⟨_, rfl, ?_, hnx, hsz⟩
      have := HP.out
      simp only [be, List.append_nil] at this
      rw [← this]
      simpa using hown
    | succ m =>
      rw [show (((m + 1 : Nat) : Int)) - 1 = (m : Int) by omega]
      have HP : Hid ((P ++ [(x >>> (8 * m)).setWidth 8]) ++ be x m = be x n) := by show _ = _; rw [← hP]; simp [be]
      have hBr : B ≤ wr.heap.size := by omega
      clear hP
      go_wp2_with (at_builtin; refine wpList_append_bytes rfl _ _ 22 rfl B 5 i0 Tryd.underlying22 hi hz0 hz1 hz2 _ _ (l ++ P) rfl (hown.alloc _) (some ⟨wr.heap.size, 0, none⟩) 1 1 [(x >>> (8 * m)).setWidth 8] rfl rfl (Rd_new wr _ _ _ _ rfl) (fun h => by cases h) (by omega) B (Below.refl B _) (Nat.le_refl _) (by simp; omega) ?_)
      intro v' w2 hown' hb2'
      have hb2 := (hnx.alloc hBr _).trans hb2'
      have hs2 : wr.heap.size + 1 ≤ w2.heap.size := by have := hb2'.size; simpa only [alloc_size] using this
      clear hb2'
      go_wp2_with fail
      go_roundw
      case rel => exact ⟨m, _, by omega, HP.out, by go_num, by rw [show k + (n - m) = k + (n - (m + 1)) + 1 by omega]; exact hown', hb2, by omega⟩
      case measure => simp [intOf]
theorem stp_low (r : BitVec 32) : (n32 (r &&& 1#32) == 1) = r.getLsbD 0 := by
  rw [show (1 : Int) = n32 1#32 from by unfold n32; rfl, n32_beq, Bool.eq_iff_iff, beq_iff_eq]
  constructor
  · intro h
    have := congrArg (fun x => x.getLsbD 0) h
    simpa using this
  · intro h
    ext i hi
    rcases Nat.eq_zero_or_pos i with rfl | h1
    · simpa using h
    · simp; intro; omega
theorem poly_x (a : BitVec 32) : bits .xor .u32 (n32 a) 2197175160 = n32 (a ^^^ Crc.poly) := by
  rw [show (2197175160 : Int) = n32 Crc.poly from by unfold n32; rfl, xor32]
set_option maxHeartbeats 1000000 in
theorem refSum (ao : Option Addr) (l : List (BitVec 8)) (cap : Nat) (w : World) (hl : l.length ≤ 140737488351232) (hr : Rd w ao l) :
   Calls Tryd.prog 33 #[.slice ao l.length cap] w fun e w' => e = .returned (.int .u32 (n32 (Crc.sum l))) ∧ w = w' := by
  have hini : (4294967295 : Int) = n32 (~~~ 0#32) := by unfold n32; rfl
  by_cases hl0 : 0 < l.length
  · obtain ⟨b, o, rfl, hb⟩ := hr.at hl0
    clear hr
    go_enter Tryd.func33, Tryd.ntmps33
    go_wp2
    go_loop [3, 4] (fun r i => ∃ k : Nat, k ≤ l.length ∧ i = .int .i64 k ∧ r = .int .u32 (n32 (Crc.rg (~~~ 0#32) (l.take k)))) (fun _ i => l.length - (intOf i).toNat)
    case atStart => exact ⟨0, Nat.zero_le _, rfl, by simp [Crc.rg, hini]⟩
    case round =>
      obtain ⟨k, hk, rfl, rfl⟩ := hrel
      by_cases hlt : k < l.length
      · have hc := hb k hlt
        have hS := Crc.rg_snoc (~~~ 0#32) l k hlt
        obtain ⟨x, hx⟩ : ∃ x, l.getD k 0#8 = x := ⟨_, rfl⟩
        rw [hx] at hc hS
        have HS := Lib.hid hS
        clear hb hx hS hini
        go_wp2
        go_loop [3, 5] (fun r i => ∃ j : Nat, j ≤ 8 ∧ i = .int .i64 j ∧ r = .int .u32 (n32 (Crc.it j (Crc.rg (~~~ 0#32) (l.take k) ^^^ x.setWidth 32)))) (fun _ i => 8 - (intOf i).toNat)
        case atStart => exact ⟨0, Nat.zero_le _, rfl, by simp [Crc.it]⟩
        case round =>
          obtain ⟨j, hj, rfl, rfl⟩ := hrel
          by_cases hlt2 : j < 8
          · have hit := Crc.it_succ' j (Crc.rg (~~~ 0#32) (l.take k) ^^^ x.setWidth 32)
            generalize Crc.it j (Crc.rg (~~~ 0#32) (l.take k) ^^^ x.setWidth 32) = r at hit ⊢
            have HI := Lib.hid hit
            have h1 := stp_low r
            have h2 := poly_x (r >>> 1)
            clear hit
            cases hb0 : r.getLsbD 0
            · have HT := Lib.hid (Crc.stp_even r hb0)
              rw [hb0] at h1
              clear hb0
              go_wp2
              go_round
              case rel => exact ⟨j + 1, by omega, by go_num, by rw [HI.out, HT.out]⟩
              case measure => simp [intOf]; omega
            · have HT := Lib.hid (show Crc.stp r = (r >>> 1) ^^^ Crc.poly from by unfold Crc.stp; rw [hb0]; rfl)
              rw [hb0] at h1
              clear hb0
              go_wp2
              go_round
              case rel => exact ⟨j + 1, by omega, by go_num, by rw [HI.out, HT.out]⟩
              case measure => simp [intOf]; omega
          · obtain rfl : j = 8 := by omega
            go_wp2
            go_round
            case rel => exact ⟨k + 1, by omega, by go_num, by rw [HS.out]; rfl⟩
            case measure => simp [intOf]; omega
      · clear hb hini
        go_wp2
        go_ret
        exact ⟨by rw [Crc.rg_all _ _ _ (by omega)]; rfl, rfl⟩
  · obtain rfl : l = [] := List.length_eq_zero_iff.1 (by omega)
    clear hr
    go_enter Tryd.func33, Tryd.ntmps33
    go_wp2
    go_loop [3, 4] (fun r i => i = .int .i64 0 ∧ r = .int .u32 (n32 (~~~ 0#32))) (fun _ i => 0)
    case atStart => exact ⟨rfl, by rw [hini]⟩
    case round =>
      obtain ⟨rfl, rfl⟩ := hrel
      clear hini
      go_wp2
      go_ret
      exact ⟨by simp [Crc.sum, Crc.upd, Crc.rg], rfl⟩
theorem refValue (ao : Option Addr) (l : List (BitVec 8)) (n cap : Nat) (w : World) (hn : l.length = n) (hl : n ≤ 140737488351232) (hr : Rd w ao l) :
   Calls Tryd.prog 34 #[.slice ao n cap] w fun e w' => e = .returned (.int .u64 (n64 (val l))) ∧ w = w' := by
  subst hn
  have hz : (0 : Int) = n64 0#64 := by unfold n64; rfl
  by_cases hl0 : 0 < l.length
  · obtain ⟨b, o, rfl, hc⟩ := hr.at hl0
    clear hr
    go_enter Tryd.func34, Tryd.ntmps34
    go_wp2
    go_loop [3, 4] (fun x i => ∃ k : Nat, k ≤ l.length ∧ i = .int .i64 k ∧ x = .int .u64 (n64 (val (l.take k)))) (fun _ i => l.length - (intOf i).toNat)
    case atStart => exact ⟨0, Nat.zero_le _, rfl, by simp [val, n64_z]⟩
    case round =>
      obtain ⟨k, hk, rfl, rfl⟩ := hrel
      by_cases hlt : k < l.length
      · have hcj := hc k hlt
        have hv := val_step l k hlt
        obtain ⟨y, hy⟩ : ∃ y, l.getD k 0#8 = y := ⟨_, rfl⟩
        rw [hy] at hcj hv
        have HV := Lib.hid hv
        obtain ⟨a, ha⟩ : ∃ a, val (l.take k) = a := ⟨_, rfl⟩
        rw [ha] at HV ⊢
        clear hc hy hv ha hz
        go_wp2
        go_round
        case rel => exact ⟨k + 1, by omega, by go_num, by rw [HV.out]⟩
        case measure => simp [intOf]; omega
      · clear hc hz
        go_wp2
        go_ret
        exact ⟨by rw [List.take_of_length_le (by omega)]; rfl, rfl⟩
  · obtain rfl : l = [] := List.length_eq_zero_iff.1 (by omega)
    clear hr
    go_enter Tryd.func34, Tryd.ntmps34
    go_wp2
    go_loop [3, 4] (fun x i => i = .int .i64 0 ∧ x = .int .u64 (n64 0#64)) (fun _ i => 0)
    case atStart => exact ⟨rfl, by rw [n64_z]⟩
    case round =>
      obtain ⟨rfl, rfl⟩ := hrel
      clear hz
      go_wp2
      go_ret
      exact ⟨by simp [val], rfl⟩
end Go.Proofs.YtinfhlepjmollaaDoor
