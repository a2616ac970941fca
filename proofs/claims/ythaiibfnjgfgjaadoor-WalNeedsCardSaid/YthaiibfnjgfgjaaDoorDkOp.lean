/- The program's device: a sector's copy; what an operation meets. The program's device: an operation is counted, and meets what is armed. -/
import Derived.Test.YthaiibfnjgfgjaaDoorDkMem
import Derived.Test.YthaiibfnjgfgjaaDoorBytes2
import Derived.Test.YthaiibfnjgfgjaaDoorCopyAt
import Derived.StillTailTactics
import Derived.Deep.RegionLaw
import Derived.Deep.RegionWith
import Derived.LoopTactic
namespace Go.Proofs.YthaiibfnjgfgjaaDoor
open Go.RowKit
theorem fresh1 (w : World) (o : Obj) : Below w.heap.size w (w.alloc o) := (Below.refl _ w).alloc (Nat.le_refl _) o
theorem dkZero (c : Nat) (w : World) : Calls Tryd.prog 56 #[.slice none 0 c] w fun e w' => ∃ g, e = .returned (slv g) ∧ w.heap.size ≤ g ∧ Own w' g 512 5 Dk.zs ∧ Below w.heap.size w w' := by
  obtain ⟨i0, hi, hz0, hz1, hz2⟩ := info_parts info_u8
  unfold slv
  go_enter Tryd.func56, Tryd.ntmps56
  go_wp2_with (at_make; refine wpList_make_zeros rfl _ _ 29 rfl 5 i0 Tryd.underlying29 hi hz0 hz1 hz2 .i64 .i64 512 (by go_num) (by go_num) (by omega) Dk.zs rfl ?_)
  intro w2 hO hb
  go_wp2_with (with_reducible refine wpList_copy_bytes rfl (.tmp 5) (.tmp 6) 29 29 rfl 5 i0 Tryd.underlying29 hi hz1 w.heap.size 512 512 none 0 c ?hd ?hs 512 5 Dk.zs [] ?hO ?hL ?hr rfl ?hmn ?_)
  case hd => rfl
  case hs => rfl
  case hO => exact hO
  case hL => exact Dk.zs_len
  case hr => exact Rd.nil _ _
  case hmn => omega
  intro w3 hO3 hs3 hB3
  have HO := Lib.hid hO3
  have HB := Lib.hid (hb.trans (hB3.below (B := w.heap.size) (fun _ h => by omega) hb.size))
  clear hO3 hO hb hs3 hB3
  go_wp2
  go_ret
  refine ⟨w.heap.size, rfl, Nat.le_refl _, ?_, HB.out⟩
  have := HO.out
  simpa using this
theorem dkSector (ao : Option Addr) (l : List (BitVec 8)) (c : Nat) (w : World) (hl : l.length = 512) (hr : Rd w ao l) : Calls Tryd.prog 56 #[.slice ao 512 c] w fun e w' => ∃ g, e = .returned (slv g) ∧ w.heap.size ≤ g ∧ Own w' g 512 5 l ∧ Below w.heap.size w w' := by
  obtain ⟨i0, hi, hz0, hz1, hz2⟩ := info_parts info_u8
  have HL := Lib.hid hl
  clear hl
  unfold slv
  go_enter Tryd.func56, Tryd.ntmps56
  go_wp2_with (at_make; refine wpList_make_zeros rfl _ _ 29 rfl 5 i0 Tryd.underlying29 hi hz0 hz1 hz2 .i64 .i64 512 (by go_num) (by go_num) (by omega) Dk.zs rfl ?_)
  intro w2 hO hb
  have hr2 := hr.on hb
  clear hr
  go_wp2_with (with_reducible refine wpList_copy_bytes rfl (.tmp 5) (.tmp 6) 29 29 rfl 5 i0 Tryd.underlying29 hi hz1 w.heap.size 512 512 ao 512 c ?hd ?hs 512 5 Dk.zs l ?hO ?hL ?hr ?hl ?hmn ?_)
  case hd => rfl
  case hs => rfl
  case hO => exact hO
  case hL => exact Dk.zs_len
  case hr => exact hr2
  case hl => exact HL.out
  case hmn => omega
  intro w3 hO3 hs3 hB3
  have HO := Lib.hid hO3
  have HB := Lib.hid (hb.trans (hB3.below (B := w.heap.size) (fun _ h => by omega) hb.size))
  clear hO3 hO hb hs3 hB3 hr2
  go_wp2
  go_ret
  refine ⟨w.heap.size, rfl, Nat.le_refl _, ?_, HB.out⟩
  have := HO.out
  rw [List.drop_of_length_le (by rw [Dk.zs_len]; omega), List.append_nil] at this
  exact this
theorem dkCalm (k : Int) (w : World) : Calls Tryd.prog 50 #[.int .i64 k] w fun e w' => e = .returned (.int .i64 0) ∧ w = w' := by
  go_enter Tryd.func50, Tryd.ntmps50
  go_wp2
  go_ret
  exact ⟨rfl, rfl⟩
theorem kindAt_cons (f : Int × Int) (r : List (Int × Int)) (k : Int) : Dk.kindAt (f :: r) k = if f.1 = k then f.2 else Dk.kindAt r k := by
  unfold Dk.kindAt
  rw [List.find?_cons]
  by_cases h : f.1 = k
  · simp [h]
  · have : (f.1 == k) = false := by rw [beq_eq_false_iff_ne]; exact h
    simp [this, h]
/-- Faults stand from an address on. -/
def Fd (w : World) (ao : Option Addr) (fs : List (Int × Int)) : Prop := ∀ (j : Nat) (f : Int × Int), fs[j]? = some f → ∃ b o, ao = some ⟨b, o, none⟩ ∧ w.cell? ⟨b, o + j * 2, none⟩ = some (.int .i64 f.1) ∧ w.cell? ⟨b, o + j * 2 + 1, none⟩ = some (.int .i64 f.2)
theorem Fd.on {w w' : World} {ao : Option Addr} {fs : List (Int × Int)} (h : Fd w ao fs) (hb : Below w.heap.size w w') : Fd w' ao fs := by
  intro j f hj
  obtain ⟨b, o, h1, h2, h3⟩ := h j f hj
  exact ⟨b, o, h1, (hb.cell (p := ⟨b, _, none⟩) (lt_of_rd h2)).trans h2, (hb.cell (p := ⟨b, _, none⟩) (lt_of_rd h3)).trans h3⟩
def KindR (w : World) (fs : List (Int × Int)) (k : Int) (e : Ending) (w' : World) : Prop := e = .returned (.int .i64 (Dk.kindAt fs k)) ∧ Below w.heap.size w w'
set_option maxHeartbeats 400000 in
theorem dkKind (c : Nat) (ao : Option Addr) (cap : Nat) (fs : List (Int × Int)) (k : Int) (w : World) (h0 : w.cell? ⟨c, 0, none⟩ = some (.slice ao fs.length cap)) (hf : Fd w ao fs) (hn : fs.length ≤ 1000000000000000) :
   Calls Tryd.prog 42 #[.int .i64 k, .pointer (some ⟨c, 0, none⟩)] w (KindR w fs k) := by
  have HF := Lib.hid (fun (w' : World) (hb : Below w.heap.size w w') => hf.on hb)
  clear hf
  go_enter Tryd.func42, Tryd.ntmps42
  go_wp2
  go_loopw [8] (fun i wr => ∃ j : Nat, j ≤ fs.length ∧ i = .int .i64 j ∧ Below w.heap.size w wr ∧ Dk.kindAt (fs.drop j) k = Dk.kindAt fs k) (fun i _ => fs.length - (intOf i).toNat)
  case atStart => exact ⟨0, Nat.zero_le _, rfl, Below.refl _ _, rfl⟩
  case round =>
    obtain ⟨j, hj, rfl, hb, hk⟩ := hrel
    have HB := Lib.hid hb
    have HK := Lib.hid hk
    clear hb hk
    by_cases hlt : j < fs.length
    · obtain ⟨f, hfj⟩ : ∃ f, fs[j]? = some f := ⟨fs[j], List.getElem?_eq_getElem hlt⟩
      obtain ⟨b, o, rfl, c1, c2⟩ := HF.out wr HB.out j f hfj
      have hd : fs.drop j = f :: fs.drop (j + 1) := by
        rw [List.drop_eq_getElem_cons hlt]
        rw [List.getElem?_eq_getElem hlt] at hfj
        rw [Option.some.inj hfj]
      have HD := Lib.hid hd
      clear HF hfj hd
      obtain ⟨a1, a2⟩ := f
      simp only at c1 c2
      have HB2 := Lib.hid (HB.out.alloc HB.out.size (.cells #[.int .i64 a1, .int .i64 a2] 52 (0, 0)))
      by_cases he : a1 = k
      · subst he
        have HR := Lib.hid (show Dk.kindAt fs a1 = a2 by rw [← HK.out, HD.out, kindAt_cons, if_pos rfl])
        clear HK HD HB
        go_wp2
        go_ret
        exact ⟨by rw [HR.out]; rfl, HB2.out⟩
      · have hne : (a1 == k) = false := by rw [beq_eq_false_iff_ne]; exact he
        have HR := Lib.hid (show Dk.kindAt (fs.drop (j + 1)) k = Dk.kindAt fs k by rw [← HK.out, HD.out, kindAt_cons, if_neg he])
        clear HK HD HB he
        go_wp2
        go_roundw
        case rel => exact ⟨j + 1, by omega, by go_num, HB2.out, HR.out⟩
        case measure => simp [intOf]; omega
    · obtain rfl : j = fs.length := by omega
      have HR := Lib.hid (show Dk.kindAt fs k = 0 by rw [← HK.out, List.drop_length]; rfl)
      clear HK HF
      go_wp2
      go_ret
      exact ⟨by rw [HR.out]; rfl, HB.out⟩
open Go.RowKit
theorem owns2 {W : World} {e n : Nat} {v : Value} {xs : List Value} (h : (It.lst e 2 v n xs).holds W) : ∃ ao cap, v = .slice ao n cap ∧ n ≤ cap ∧ (0 < n → ∃ g, ao = some ⟨g, 0, none⟩ ∧ ∀ j, j < n → W.cell? ⟨g, j * 2, none⟩ = xs[j * 2]? ∧ W.cell? ⟨g, j * 2 + 1, none⟩ = xs[j * 2 + 1]?) := by
  obtain ⟨h1, h2⟩ := h
  rcases h2 with ⟨rfl, rfl⟩ | ⟨g, cap, cur, rfl, _, hh, hc, _, hs, ht⟩
  · exact ⟨none, 0, rfl, Nat.le_refl _, fun h => by omega⟩
  · refine ⟨_, cap, rfl, hc, fun _ => ⟨g, rfl, fun j hj => ⟨?_, ?_⟩⟩⟩
    · rw [cell_of_row W g _ cur e (0, 0) hh, ← ht, List.getElem?_take_of_lt (by omega), Array.getElem?_toList]
    · rw [cell_of_row W g _ cur e (0, 0) hh, ← ht, List.getElem?_take_of_lt (by omega), Array.getElem?_toList]
theorem fdOf {W : World} {v : Value} {fs : List (Int × Int)} (h : (It.lst 52 2 v fs.length (fcs fs)).holds W) : ∃ ao cap, v = .slice ao fs.length cap ∧ fs.length ≤ cap ∧ Fd W ao fs := by
  obtain ⟨ao, cap, h1, h2, h3⟩ := owns2 h
  refine ⟨ao, cap, h1, h2, fun j f hj => ?_⟩
  have hjl : j < fs.length := (List.getElem?_eq_some_iff.1 hj).1
  obtain ⟨g, rfl, h4⟩ := h3 (by omega)
  obtain ⟨e1, e2⟩ := h4 j hjl
  obtain ⟨c1, c2⟩ := fcs_get hj
  exact ⟨g, 0, rfl, by rw [Nat.zero_add]; exact e1.trans c1, by rw [Nat.zero_add]; exact e2.trans c2⟩
section
variable {w W : World} {p : Nat} {L : Lay} {D : Dk} {rest : List It}
theorem dkNone (h : Bag w W (dkl p L D rest)) (hm : L.mt = none) : D.fs = [] := by
  have h1 := h.holds 5 _ rfl
  unfold Lay.mts at h1
  rw [hm] at h1
  exact h1.1 (.fact (D.fs = [])) (by simp)
theorem dkSome (h : Bag w W (dkl p L D rest)) {c : Nat} {v : Value} (hm : L.mt = some (c, v)) : ∃ ao cap, W.cell? ⟨c, 0, none⟩ = some (.slice ao D.fs.length cap) ∧ Fd W ao D.fs := by
  have h1 := h.holds 5 _ rfl
  unfold Lay.mts at h1
  rw [hm] at h1
  obtain ⟨ao, cap, rfl, _, hF⟩ := fdOf (h1.1 (.lst 52 2 v D.fs.length (fcs D.fs)) (by simp))
  exact ⟨ao, cap, cell_of_row W c 0 _ _ _ (h1.1 (.box c #[.slice ao D.fs.length cap] 30) (by simp)), hF⟩
theorem dkPut2 (h : Bag w W (dkl p L D rest)) (b : Bool) : Bag w (W.setCell ⟨p, 2, none⟩ (.bool b)) (dkl p L { D with off := b } rest) := h.put 0 rfl 2 _
theorem dkPut3 (h : Bag w W (dkl p L D rest)) (n : Nat) : Bag w (W.setCell ⟨p, 3, none⟩ (.int .i64 (n : Nat))) (dkl p L { D with done := n } rest) := h.put 0 rfl 3 _
theorem dkPut4 (h : Bag w W (dkl p L D rest)) (n : Nat) : Bag w (W.setCell ⟨p, 4, none⟩ (.int .i64 (n : Nat))) (dkl p L { D with claim := n } rest) := h.put 0 rfl 4 _
end
def OpR (w : World) (p : Nat) (L : Lay) (D : Dk) (rest : List It) (e : Ending) (W' : World) : Prop := e = .returned (.int .i64 D.opE) ∧ Bag w W' (dkl p L D.opD rest)
set_option maxHeartbeats 800000 in
set_option maxRecDepth 20000 in
theorem dkOperate (w W : World) (p : Nat) (L : Lay) (D : Dk) (rest : List It) (hd : D.done ≤ 1000000000000000) (hf : D.fs.length ≤ 1000000000000000) (hB : Bag w W (dkl p L D rest)) :
   Calls Tryd.prog 70 #[.pointer (some ⟨p, 0, none⟩)] W (OpR w p L D rest) := by
  obtain ⟨q0, q1, q2, q3, q4, q5, qf⟩ := dkCells hB
  have HB := Lib.hid hB
  cases ho : D.off with
  | true =>
    have HE := Lib.hid (show D.opE = 104 by unfold Dk.opE; rw [ho]; rfl)
    have HD := Lib.hid (show D.opD = D by unfold Dk.opD; rw [ho]; rfl)
    rw [ho] at q2
    clear hB ho q0 q1 q3 q4 q5
    go_enter Tryd.func70, Tryd.ntmps70
    go_wp2
    go_ret
    exact ⟨by rw [HE.out]; rfl, by rw [HD.out]; exact HB.out⟩
  | false =>
    obtain ⟨z, hz⟩ : ∃ z, Dk.kindAt D.fs ((D.done + 1 : Nat) : Int) = z := ⟨_, rfl⟩
    have HE := Lib.hid (show D.opE = if z = 1 then 104 else if z = 2 then 103 else 0 by unfold Dk.opE; rw [ho, hz]; rfl)
    have HD := Lib.hid (show D.opD = { D with done := D.done + 1, off := decide (z = 1) } by unfold Dk.opD; rw [ho, hz]; rfl)
    have HO := Lib.hid ho
    rw [ho] at q2
    have HB1 := Lib.hid (dkPut3 hB (D.done + 1))
    have hpl : p < W.heap.size := World.block_lt_of_cell? W _ q2
    clear hB ho q0 q1 q4 HB
    obtain ⟨dn, hdn⟩ : ∃ n, D.done = n := ⟨_, rfl⟩
    rw [hdn] at q3 HB1 HD hd hz
    have hs : (W.setCell ⟨p, 3, none⟩ (.int .i64 ((dn + 1 : Nat) : Int))).cell? ⟨p, 3, none⟩ = some (.int .i64 (dn + 1)) := by
      obtain ⟨_, _, _, h3, _⟩ := dkCells HB1.out
      exact h3
    have HDN := Lib.hid hdn
    clear hdn hs
    have HZ := Lib.hid hz
    clear hz
    obtain ⟨lv, pv, bs, qs, mt⟩ := L
    unfold Lay.mv at q5
    simp only at q5
    cases mt with
    | none =>
      have hfs := dkNone HB1.out rfl
      simp only at hfs
      have hz0 : z = 0 := by rw [← HZ.out, hfs]; rfl
      have HZ0 := Lib.hid hz0
      clear hfs hz0 hf
      go_enter Tryd.func70, Tryd.ntmps70
      go_wp2
      generalize hU : W.setCell ⟨p, 3, none⟩ (.int .i64 ((dn : Int) + 1)) = U
      have HB2 := Lib.hid (show Bag w U (dkl p ⟨lv, pv, bs, qs, none⟩ { D with done := dn + 1 } rest) by rw [← hU]; exact HB1.out)
      clear q2 q3 q5 qf hpl HB1 hU
      obtain ⟨_, _, _, q3, _, q5, qf⟩ := dkCells HB2.out
      unfold Lay.mv at q5
      simp only at q3 q5
      go_still_tail 8, (by kernel_rfl)
      go_wp2_with fail
      refine (dkCalm _ _).mono ?_
      rintro e w1 ⟨rfl, rfl⟩
      have HB3 := Lib.hid HB2.out.drew
      clear HB2
      go_wp2
      go_ret
      refine ⟨by rw [HE.out, HZ0.out]; rfl, ?_⟩
      rw [HD.out, HZ0.out, show decide ((0 : Int) = 1) = D.off by rw [HO.out]; rfl]
      exact HB3.out
    | some c =>
      obtain ⟨c, v⟩ := c
      go_enter Tryd.func70, Tryd.ntmps70
      go_wp2
      generalize hU : W.setCell ⟨p, 3, none⟩ (.int .i64 ((dn : Int) + 1)) = U
      have HB2 := Lib.hid (show Bag w U (dkl p ⟨lv, pv, bs, qs, some (c, v)⟩ { D with done := dn + 1 } rest) by rw [← hU]; exact HB1.out)
      clear q2 q3 q5 qf hpl HB1 hU
      obtain ⟨_, _, _, q3, _, q5, qf⟩ := dkCells HB2.out
      unfold Lay.mv at q5
      simp only at q3 q5
      go_still_tail 8, (by kernel_rfl)
      obtain ⟨ao, cap, hc, hF⟩ := dkSome HB2.out.drew rfl
      simp only at hc hF
      have HF := Lib.hid hF
      have HC := Lib.hid hc
      clear q3 q5 qf hF hc
      go_wp2_with fail
      refine (dkKind c ao cap D.fs _ _ HC.out HF.out hf).mono ?_
      rintro e w1 ⟨rfl, hb⟩
      have HB3 := Lib.hid (HB2.out.drew.call hb)
      have HZ1 := Lib.hid (show Dk.kindAt D.fs ((dn : Int) + 1) = z from HZ.out)
      rw [HZ1.out]
      clear HB2 HF HC hb hf hd
      obtain ⟨_, _, q2, q3, _, q5, qf⟩ := dkCells HB3.out
      by_cases z1 : z = 1
      · subst z1
        have HB4 := Lib.hid (dkPut2 HB3.out true)
        go_wp2
        go_ret
        refine ⟨by rw [HE.out]; rfl, ?_⟩
        rw [HD.out]
        exact HB4.out
      · have n1 : (z == 1) = false := by rw [beq_eq_false_iff_ne]; exact z1
        have HN1 := Lib.hid z1
        clear z1
        by_cases z2 : z = 2
        · subst z2
          go_wp2
          go_ret
          refine ⟨by rw [HE.out]; rfl, ?_⟩
          rw [HD.out, show decide ((2 : Int) = 1) = D.off by rw [HO.out]; rfl]
          exact HB3.out
        · have n2 : (z == 2) = false := by rw [beq_eq_false_iff_ne]; exact z2
          have HN2 := Lib.hid z2
          clear z2
          go_wp2
          go_ret
          refine ⟨by rw [HE.out, if_neg HN1.out, if_neg HN2.out]; rfl, ?_⟩
          rw [HD.out, show decide (z = 1) = D.off by rw [HO.out]; exact decide_eq_false HN1.out]
          exact HB3.out
end Go.Proofs.YthaiibfnjgfgjaaDoor
