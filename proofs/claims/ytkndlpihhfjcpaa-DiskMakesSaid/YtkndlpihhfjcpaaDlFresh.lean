/- The law's fresh: nothing has been done to a device yet. -/
import Derived.Test.YtkndlpihhfjcpaaDlHelp
namespace Go.Proofs.Ytkndlpihhfjcpaa
open Go.RowKit
def FreshR (w : World) (p : Nat) (L : Lay) (D : Dk) (rest : List It) (e : Ending) (W' : World) : Prop := e = .returned (.bool true) ∧ Bag w W' (dkl p L D rest)
set_option maxRecDepth 20000 in
set_option maxHeartbeats 800000 in
theorem dkFresh (w W : World) (p : Nat) (L : Lay) (D : Dk) (rest : List It) (m n : Nat) (hw : D.Wf m) (hm : m ≤ 1000000000000) (hps : D.ps = []) (hoff : D.off = false) (hd : D.done = 0) (hc : D.claim = 0) (hn : D.ls.length = n) (hB : Bag w W (dkl p L D rest)) :
   Calls Try.prog 31 #[.pointer (some ⟨p, 0, none⟩), .int .i64 (n : Nat)] W (FreshR w p L D rest) := by
  have HW := Lib.hid hw
  have HB := Lib.hid hB
  have HPS := Lib.hid hps
  have HO := Lib.hid hoff
  have HD := Lib.hid hd
  have HC := Lib.hid hc
  have HN := Lib.hid hn
  clear hw hB hps hoff hd hc hn
  go_enter Try.func31, Try.ntmps31
  go_wp2_with fail
  refine (dkPower HB.out).mono ?_
  rintro e w' ⟨he, hw⟩
  obtain rfl := hw
  rw [HO.out] at he
  subst he
  go_wp2_with fail
  refine (dkPending w W p L D _ m HW.out hm HB.out).mono ?_
  rintro e W2 ⟨vp, gs, rfl, hBp⟩
  obtain ⟨a1, k1, hv, _⟩ := hBp.lstForm2 0 rfl
  rw [HPS.out] at hv
  simp only [List.length_nil] at hv
  subst hv
  have HB2 := Lib.hid hBp.tail.tail
  clear hBp HB
  go_wp2_with fail
  refine (dkDone HB2.out).mono ?_
  rintro e w' ⟨he, hw⟩
  obtain rfl := hw
  rw [HD.out] at he
  obtain rfl : e = .returned (.int .i64 0) := he
  go_wp2_with fail
  refine (dkClaimed HB2.out).mono ?_
  rintro e w' ⟨he, hw⟩
  obtain rfl := hw
  rw [HC.out] at he
  obtain rfl : e = .returned (.int .i64 0) := he
  go_wp2_with fail
  refine (dkSectors HW.out.lo HB2.out).mono ?_
  rintro e w' ⟨he, hw⟩
  obtain rfl := hw
  rw [HN.out] at he
  subst he
  go_wp2_with fail
  go_ret
  exact ⟨rfl, HB2.out⟩
end Go.Proofs.Ytkndlpihhfjcpaa
