/- The laws' own plain and room. -/
import Derived.Test.YtinfhlepjmollaaDoorSecLaw
import Derived.Test.YtinfhlepjmollaaDoorBagKey
import Derived.Lib.SlBytesConst
namespace Go.Proofs.YtinfhlepjmollaaDoor
open Go.RowKit
def abc : List (BitVec 8) := [97#8, 98#8, 99#8]
def plainS : Sec := ⟨tO, 1, 2, 3, abc⟩
theorem plain_may : plainS.may = true := by decide
theorem plain_fits : plainS.fits := ⟨by decide, by decide, by decide, by decide, by decide, by decide, by decide⟩
theorem btsAbc : bts abc = [.int .u8 97, .int .u8 98, .int .u8 99] := by unfold bts n8 abc; rfl
theorem lawPlain (w : World) : Calls Tryd.prog 25 #[] w fun e w' => ∃ g, e = .returned (plainS.val (some ⟨g, 0, none⟩) 3) ∧ w.heap.size ≤ g ∧ g < w'.heap.size ∧ Rd w' (some ⟨g, 0, none⟩) abc ∧ Below w.heap.size w w' := by
  have kc := Lib.run_convert_bytes_const (P := Tryd.prog) (w.alloc (.cells #[.string { data := #[] }, .int .i64 0, .int .i64 0, .int .i64 0, .slice none 0 0] 24 (0, 0))) 22 5 #[.int .u8 97, .int .u8 98, .int .u8 99] 3 3 Tryd.underlying22 Tryd.underlying5
  simp only [alloc_size] at kc
  have hl : ({ data := #[67, 86, 79, 49] } : ByteArray) = str tO := lit_O
  unfold Sec.val plainS
  go_enter Tryd.func25, Tryd.ntmps25
  go_wp2_with fail
  have hr := Rd_new (w.alloc (.cells #[.string (str tO), .int .i64 1, .int .i64 2, .int .i64 3, .slice (some ⟨w.heap.size + 1, 0, none⟩) 3 3] 24 (0, 0))) 5 #[.int .u8 97, .int .u8 98, .int .u8 99] (3, 4) abc btsAbc.symm
  have hb := ((Below.refl _ w).alloc (Nat.le_refl _) (.cells #[.string (str tO), .int .i64 1, .int .i64 2, .int .i64 3, .slice (some ⟨w.heap.size + 1, 0, none⟩) 3 3] 24 (0, 0))).alloc (by simp only [alloc_size]; omega) (.cells #[.int .u8 97, .int .u8 98, .int .u8 99] 5 (3, 4))
  rw [alloc_size] at hr
  refine bodyPost_ret (v := .agg #[.string (str tO), .int .i64 1, .int .i64 2, .int .i64 3, .slice (some ⟨w.heap.size + 1, 0, none⟩) 3 3]) (by simp [results, Tryd.results25, go_sem]) rfl ?_
  exact ⟨w.heap.size + 1, rfl, by omega, by simp, hr, hb⟩
theorem roomOf (ao : Option Addr) (l : List (BitVec 8)) (n cap : Nat) (w : World) (hn : l.length = n) (hl : n ≤ 65536) (hr : Rd w ao l) :
   Calls Tryd.prog 12 #[.slice ao n cap] w fun e w' => ∃ g c, e = .returned (.slice (some ⟨g, 0, none⟩) (n + 3) c) ∧ w.heap.size ≤ g ∧ n + 3 ≤ c ∧ Own w' g c 5 (l ++ [161#8, 162#8, 163#8]) ∧ Below w.heap.size w w' := by
  subst hn
  obtain ⟨i0, hi, hz0, hz1, hz2⟩ := info_parts info_u8
  go_enter Tryd.func12, Tryd.ntmps12
  go_wp2_with fail
  refine (bytesOf ao l cap w (by omega) hr).mono ?_
  rintro e w1 ⟨v, rfl, hown, hb1⟩
  clear hr
  go_wp2_with (at_builtin; refine wpList_append_bytes rfl _ _ 22 rfl w.heap.size 5 i0 Tryd.underlying22 hi hz0 hz1 hz2 _ _ l rfl (hown.alloc _) (some ⟨w1.heap.size, 0, none⟩) 3 3 [161#8, 162#8, 163#8] rfl rfl (Rd_new w1 _ _ _ _ (by simp [bts, n8])) (fun h => by cases h) (by omega) w.heap.size (hb1.alloc hb1.size _) (Nat.le_refl _) (by have := hb1.size; simp; omega) ?_)
  intro v' w2 hown' hb2
  go_wp2
  go_ret
  obtain ⟨g, c, rfl, hg, hc, _, ho⟩ := owns_own hown' (by simp)
  exact ⟨g, c, by simp, hg, by simpa using hc, ho, hb2⟩
end Go.Proofs.YtinfhlepjmollaaDoor
