/- The walks of the reference's SameBytes and Bytes. -/
import Derived.Test.YthaiibfnjgfgjaaDoorProg
import Derived.Test.YthaiibfnjgfgjaaDoorBv
import Derived.Lib.Hide
import Derived.Deep.QuietTactic
import Derived.BigQuiet
namespace Go.Proofs.YthaiibfnjgfgjaaDoor
open Go.RowKit
set_option maxHeartbeats 400000 in
theorem sameBytes (ao bo : Option Addr) (l m : List (BitVec 8)) (c1 c2 : Nat) (w : World)
   (hl : l.length ≤ 281474976710656) (hm : m.length ≤ 281474976710656) (hr : Rd w ao l) (hs : Rd w bo m) :
   Calls Tryd.prog 41 #[.slice ao l.length c1, .slice bo m.length c2] w fun e w' => e = .returned (.bool (l == m)) ∧ Still w w' := by
  by_cases hlen : l.length = m.length
  · by_cases hl0 : 0 < l.length
    · obtain ⟨b, o, rfl, hb⟩ := hr.at hl0
      obtain ⟨b2, o2, rfl, hb2⟩ := hs.at (by omega)
      clear hr hs
      have HL := Lib.hid hlen
      rw [← hlen] at hb2 hm ⊢
      clear hlen
      go_enter Tryd.func41, Tryd.ntmps41
      go_wp2
      go_loopw [5] (fun i wr => ∃ k : Nat, k ≤ l.length ∧ i = .int .i64 k ∧ l.take k = m.take k ∧ Still w wr) (fun i _ => l.length - (intOf i).toNat)
      case atStart => exact ⟨0, Nat.zero_le _, rfl, rfl, Still.refl _⟩
      case round =>
        obtain ⟨k, hk, rfl, heq, n, rfl⟩ := hrel
        have HE := Lib.hid heq
        clear heq
        by_cases hlt : k < l.length
        · have hc := hb k hlt
          have hc2 := hb2 k hlt
          have hx : l.take (k + 1) = l.take k ++ [l.getD k 0#8] := by rw [List.take_succ_eq_append_getElem hlt]; simp [List.getD, hlt]
          have hy : m.take (k + 1) = m.take k ++ [m.getD k 0#8] := by rw [List.take_succ_eq_append_getElem (HL.out ▸ hlt)]; simp [List.getD, HL.out ▸ hlt]
          obtain ⟨x, hx'⟩ : ∃ x, l.getD k 0#8 = x := ⟨_, rfl⟩
          obtain ⟨y, hy'⟩ : ∃ x, m.getD k 0#8 = x := ⟨_, rfl⟩
          rw [hx'] at hc hx
          rw [hy'] at hc2 hy
          have HX := Lib.hid hx
          have HY := Lib.hid hy
          clear hb hb2 hx hy hx' hy'
          by_cases hxy : x = y
          · subst hxy
            have h0 : (n8 x != n8 x) = false := by simp
            go_wp2
            go_quiet (fail)
            go_wp2
            go_roundw
            case rel => exact ⟨k + 1, by omega, by go_num, by rw [HX.out, HY.out, HE.out], ⟨_, rfl⟩⟩
            case measure => simp [intOf]; omega
          · have h0 : (n8 x != n8 y) = true := by rw [bne_iff_ne]; exact fun h => hxy (n8_inj h)
            have HF := Lib.hid (show (l == m) = false from beq_eq_false_iff_ne.2 (fun h => hxy (by
              have h1 := HX.out.symm.trans (h ▸ HY.out)
              exact List.singleton_inj.1 (List.append_inj_right' h1 rfl))))
            clear hxy
            go_wp2
            go_quiet (fail)
            go_wp2
            go_ret
            exact ⟨by rw [HF.out]; rfl, by first | exact ⟨_, rfl⟩ | exact Still.drewN ⟨_, rfl⟩ _⟩
        · clear hb hb2
          have HF := Lib.hid (show (l == m) = true from beq_iff_eq.2 (by
            have h1 := HE.out
            rwa [List.take_of_length_le (by omega), List.take_of_length_le (by have := HL.out; omega)] at h1))
          go_wp2
          go_ret
          exact ⟨by rw [HF.out]; rfl, by first | exact ⟨_, rfl⟩ | exact Still.drewN ⟨_, rfl⟩ _⟩
    · obtain rfl : l = [] := List.length_eq_zero_iff.1 (by omega)
      obtain rfl : m = [] := List.length_eq_zero_iff.1 (by simpa using hlen.symm)
      clear hr hs
      go_enter Tryd.func41, Tryd.ntmps41
      go_wp2
      go_loop [5] (fun i => i = .int .i64 0) (fun i => 0)
      case atStart => rfl
      case round =>
        obtain rfl := hrel
        go_wp2
        go_ret
        exact ⟨rfl, 0, rfl⟩
  · have hd : ((l.length : Int) != (m.length : Int)) = true := by rw [bne_iff_ne]; omega
    have HS := Lib.hid (show (l == m) = false from beq_eq_false_iff_ne.2 (fun h => hlen (by rw [h])))
    clear hlen hr hs
    go_enter Tryd.func41, Tryd.ntmps41
    go_wp2
    go_ret
    exact ⟨by rw [HS.out]; rfl, 0, rfl⟩
end Go.Proofs.YthaiibfnjgfgjaaDoor
