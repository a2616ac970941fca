/- The walk of BitsPuts. -/
import Derived.Test.YtmhcfifenclebaaBitsPuts
import Derived.Test.YtmhcfifenclebaaBitsFirst
namespace Go.Proofs.Ytmhcfifenclebaa
open Go.RowKit
@[go_sem] theorem xor8_85 (a : BitVec 8) : bits .xor .u8 (n8 a) 85 = n8 (a ^^^ 85#8) := by
  have : (85 : Int) = n8 85#8 := by unfold n8; rfl
  rw [this, xor8]
def tail3 : List (BitVec 8) := [161#8, 162#8, 163#8]
theorem tail3_length : tail3.length = 3 := rfl
theorem lawPuts (ao : Option Addr) (l : List (BitVec 8)) (cap : Nat) (x : BitVec 64) (w : World) (hll : l.length ≤ 140737488351232) (hr : Rd w ao l) :
   Calls Try.prog 3 #[.slice ao l.length cap, .int .u64 (n64 x)] w fun e w' => e = .returned (.bool true) ∧ Below w.heap.size w w' := by
  go_enter Try.func3, Try.ntmps3
  go_wp2_with fail
  refine (firstOf w).mono ?_
  rintro e w1 ⟨rfl, hb1⟩
  by_cases hlen : 65536 < l.length
  · clear hr
    go_wp2
    go_ret
    exact ⟨rfl, hb1⟩
  have hr1 := hr.on hb1
  go_wp2_with fail
  refine (roomOf ao l cap w1 (by omega) hr1).mono ?_
  rintro e w2 ⟨g, c, rfl, hg, hc, hO, hb⟩
  have hB2 := hb1.trans (hb.mono hb1.size)
  have hg0 : w.heap.size ≤ g := Nat.le_trans hb1.size hg
  have HR := Lib.hid (hr1.on hb)
  have HO := Lib.hid hO
  clear hr hr1 hb hO hg hb1
  go_wp2_with fail
  refine (putsOf (some ⟨g, 0, none⟩) l (l.length + 3) x w2 (by omega) HO.out.pre.rd).mono ?_
  rintro e w3 ⟨rfl, hb⟩
  have HO3 := Lib.hid (HO.out.below hb HO.out.lt)
  have HR3 := Lib.hid (HR.out.on hb)
  have hB3 := hB2.trans (hb.mono hB2.size)
  clear HR HO hb hB2
  go_wp2_with fail
  refine (roomOf ao l cap w3 (by omega) HR3.out).mono ?_
  rintro e w4 ⟨g2, c2, rfl, hg2, hc2, hO2, hb⟩
  have HO4 := Lib.hid (HO3.out.below hb HO3.out.lt)
  have HO2 := Lib.hid hO2
  have hB4 := hB3.trans (hb.mono hB3.size)
  clear HR3 HO3 hb hB3 hO2 hg2
  go_wp2_with fail
  refine (sameTrue (some ⟨g, 0, none⟩) (some ⟨g2, 0, none⟩) (l ++ [161#8, 162#8, 163#8]) (l.length + 3) (l.length + 3) _ _ w4 (by simp) (by simp) (by omega) HO4.out.rd HO2.out.rd).mono ?_
  rintro e w5 ⟨rfl, hst⟩
  have hO5 := (HO4.out.still hst).pre
  have hB5 := hB4.trans ((hst.below _).mono hB4.size)
  clear HO4 HO2 hB4 hst
  go_wp2_with fail
  go_loopw [9] (fun i wr => ∃ (k : Nat) (m : List (BitVec 8)), k ≤ l.length ∧ m.length = l.length ∧ i = .int .i64 k ∧ Own wr g c 5 m ∧ Below w.heap.size w wr) (fun i _ => l.length - (intOf i).toNat)
  case atStart => exact ⟨0, l, Nat.zero_le _, rfl, rfl, hO5, hB5⟩
  case round =>
    obtain ⟨k, m, hk, hm, rfl, hO, hB⟩ := hrel
    clear hO5 hB5
    by_cases hlt : k < l.length
    · have hcell := hO.cell k (by omega)
      have hfree := hO.free k
      obtain ⟨y, hy⟩ : ∃ y, m.getD k 0#8 = y := ⟨_, rfl⟩
      rw [hy] at hcell
      have HS := Lib.hid (hO.set k (y ^^^ 85#8))
      have hB2 := hB.setCell (p := ⟨g, k, none⟩) hg0 (.int .u8 (n8 (y ^^^ 85#8)))
      clear hy hO hB
      go_wp2
      go_roundw
      case rel => exact ⟨k + 1, _, by omega, by simpa using hm, by go_num, HS.out, hB2⟩
      case measure => simp [intOf]; omega
    · obtain rfl : k = l.length := by omega
      have HO := Lib.hid hO
      clear hO
      go_wp2_with fail
      rw [← hm]
      refine (putsOf (some ⟨g, 0, none⟩) m _ x wr (by omega) HO.out.rd).mono ?_
      rintro e w6 ⟨rfl, hb⟩
      have hB6 := hB.trans (hb.mono hB.size)
      clear HO hb hB
      go_wp2
      go_ret
      exact ⟨rfl, hB6⟩
end Go.Proofs.Ytmhcfifenclebaa
