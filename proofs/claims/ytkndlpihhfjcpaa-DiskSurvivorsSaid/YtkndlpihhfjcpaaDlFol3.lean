/- The law's follows: Flush, Crash, Arm, Claim. -/
import Derived.Test.YtkndlpihhfjcpaaDlFol2
namespace Go.Proofs.Ytkndlpihhfjcpaa
open Go.RowKit
/-- Within the loop. -/
def MLaidJ (w : World) (q : Nat) (M : MLay) (ls0 : List (List (BitVec 8))) (ps : List (Nat × List (BitVec 8))) (rest : List It) (j : Nat) (W : World) : Prop := ∃ es ls, ls.length = ls0.length ∧ Dk.lay (ps.drop j) ls = Dk.lay ps ls0 ∧ Bag w W (mkl q { M with es := es } ls ps rest)
def MKeptJ (w : World) (q : Nat) (M : MLay) (ls0 : List (List (BitVec 8))) (ps : List (Nat × List (BitVec 8))) (rest : List It) (keep : List Bool) (j : Nat) (W : World) : Prop := ∃ es ls, ls.length = ls0.length ∧ Dk.layK (ps.drop j) (keep.drop j) ls = Dk.layK ps keep ls0 ∧ Bag w W (mkl q { M with es := es } ls ps rest)
theorem flushD_yes {D : Dk} (h : D.opE = 0) : D.flushD.ls = Dk.lay D.ps D.ls ∧ D.flushD.ps = [] := by
  unfold Dk.flushD
  rw [if_pos h]
  exact ⟨rfl, rfl⟩
theorem flushD_no {D : Dk} (h : ¬ D.opE = 0) : D.flushD.ls = D.ls ∧ D.flushD.ps = D.ps := by
  unfold Dk.flushD
  rw [if_neg h]
  exact ⟨D.opD_ls, D.opD_ps⟩
theorem armD_ls (D : Dk) (l : List (Int × Int)) : (D.armD l).ls = D.ls ∧ (D.armD l).ps = D.ps := by
  unfold Dk.armD
  split <;> exact ⟨rfl, rfl⟩
set_option maxRecDepth 100000 in
set_option maxHeartbeats 4000000 in
theorem follows_4 (w W : World) (p q : Nat) (L : Lay) (M : MLay) (D : Dk) (rest : List It) (m : Nat) (i : Int) (sec : Bool) (ad af ak : Option Addr) (nd cd nf cf nk ck : Nat) (data : List (BitVec 8)) (fs : List (Int × Int)) (keep : List Bool) (hdn : data.length = nd) (hfn : fs.length = nf) (hkn : keep.length = nk) (_bd : nd ≤ 140737488351232) (_bf : nf ≤ 8796093022000) (_bfc : nf ≤ cf) (baf : af = none → cf = 0) (_bk : nk ≤ 140737488351232) (hw : D.Wf m) (hm : m ≤ 1000000000) (hfl : D.fs.length ≤ 10000000000000) (hn : D.ls.length = 32) (_hi0 : -9223372036854775808 ≤ i) (_hi1 : i ≤ 9223372036854775807)
   (hr : ∀ W', Bag w W' rest → Rd W' ad data ∧ Fd W' af fs ∧ Bo W' ak keep) (hB : Bag w W (dkl p L D (mkl q M D.ls D.ps rest))) :
   Calls Try.prog 19 #[.pointer (some ⟨q, 0, none⟩), .pointer (some ⟨p, 0, none⟩), .agg #[.int .i64 4, .int .i64 i, .bool sec, .slice ad nd cd, .slice af nf cf, .slice ak nk ck]] W (FolR w p q D.flushD rest) := by
  have HW := Lib.hid hw
  have HR := Lib.hid hr
  have HDN := Lib.hid hdn
  have HFN := Lib.hid hfn
  have HKN := Lib.hid hkn
  have HAF := Lib.hid baf
  have HN := Lib.hid hn
  clear hw hr hdn hfn hkn baf hn
  have h0 := dm_in (hB.alloc #[.int .i64 4, .int .i64 i, .bool sec, .slice ad nd cd, .slice af nf cf, .slice ak nk ck] 44)
  clear hB
  obtain ⟨z, hz⟩ : ∃ z : Nat, placeZ i 32 = z := ⟨(placeZ i 32).toNat, by have := placeZ_bd i 32 (by omega); omega⟩
  have hz1 : z < 32 := by have := placeZ_bd i 32 (by omega); omega
  have HZ := Lib.hid hz
  clear hz
  go_enter Try.func19, Try.ntmps19
  go_wp2_with fail
  generalize hU : W.alloc (.cells #[.int .i64 4, .int .i64 i, .bool sec, .slice ad nd cd, .slice af nf cf, .slice ak nk ck] 44 (0, 0)) = U at h0 ⊢
  generalize hbx : W.heap.size = bx at h0 ⊢
  have HB := Lib.hid h0
  clear h0 hU hbx
  obtain ⟨x0, x1, x2, x3, x4, x5, xf⟩ := cells6 (HB.out.box 10 rfl)
  refine (placeOf i 32 _ (by omega) (by omega)).mono ?_
  rintro e w' ⟨rfl, rfl⟩
  rw [HZ.out]
  go_wp2_with fail
  refine (dkFlush w U p L D _ m HW.out (by omega) (by omega) HB.out).mono ?_
  rintro e w1 ⟨L2, rfl, hB1⟩
  clear x0 x1 x2 x3 x4 x5 xf
  obtain ⟨x, hx⟩ : ∃ x, D.opE = x := ⟨_, rfl⟩
  rw [hx]
  by_cases hx0 : x = 0
  · subst hx0
    obtain ⟨f1, f2⟩ := flushD_yes hx
    have F1 := Lib.hid f1
    have F2 := Lib.hid f2
    have HBm := Lib.hid (dm_swap hB1)
    clear f1 f2 hx hB1 HB
    obtain ⟨ao, cp, hpv, hcp, _⟩ := mkPv HBm.out
    obtain ⟨u, hu⟩ : ∃ u, D.ps.length = u := ⟨_, rfl⟩
    have hum : u ≤ m := by rw [← hu]; exact HW.out.pend
    rw [hu] at hpv hcp
    have HPV := Lib.hid hpv
    have HU := Lib.hid hu
    have HP := Lib.hid (mkP HBm.out)
    clear hpv hu
    go_wp2_with fail
    refine (numOf _ _).mono ?_
    rintro e w' ⟨rfl, rfl⟩
    go_wp2_with fail
    go_loopw [14] (fun t wr => ∃ j : Nat, j ≤ u ∧ t = .int .i64 j ∧ MLaidJ w q M D.ls D.ps (dkl p L2 D.flushD (.box bx #[.int .i64 4, .int .i64 i, .bool sec, .slice ad nd cd, .slice af nf cf, .slice ak nk ck] 44 :: rest)) j wr) (fun t _ => u - (intOf t).toNat)
    case atStart => exact ⟨0, Nat.zero_le _, rfl, M.es, D.ls, rfl, rfl, HBm.out⟩
    case round =>
      obtain ⟨j, hj, rfl, es, ls, hls, hlay, hB⟩ := hrel
      have HB := Lib.hid hB
      have HLS := Lib.hid hls
      have HLay := Lib.hid hlay
      clear hB hls hlay HBm
      have q32 := mkPends HB.out
      have qf := mkFree HB.out 32
      simp only at q32
      rw [HPV.out] at q32
      by_cases hlt : j < u
      · obtain ⟨⟨a, b⟩, hy⟩ : ∃ y, D.ps[j]? = some y := ⟨D.ps[j]'(by rw [HU.out]; exact hlt), List.getElem?_eq_getElem _⟩
        obtain ⟨⟨hg, hc⟩, hh⟩ : ∃ h, M.hs[j]? = some h := ⟨M.hs[j]'(by rw [HP.out.1, HU.out]; exact hlt), List.getElem?_eq_getElem _⟩
        obtain ⟨ao2, cp', hpv, _, hcs⟩ := mkPv HB.out
        obtain ⟨gp, rfl, hcs2⟩ := hcs (show 0 < D.ps.length by rw [HU.out]; omega)
        obtain ⟨c1, c2⟩ := hcs2 j (a, b) (hg, hc) hy hh
        simp only at hpv
        rw [HPV.out] at hpv
        simp only [Value.slice.injEq] at hpv
        obtain rfl := hpv.1
        unfold svo at c2
        simp only at c1 c2
        have HPP := Lib.hid (HP.out.2 j (hg, hc) (a, b) hh hy)
        have HA := Lib.hid (HW.out.at_ (a, b) (List.mem_of_getElem? hy)).1
        have HNX := Lib.hid (show Dk.lay (D.ps.drop (j + 1)) (ls.set a b) = Dk.lay D.ps D.ls by
          rw [← HLay.out]
          obtain ⟨h1, h2⟩ := List.getElem?_eq_some_iff.1 hy
          rw [List.drop_eq_getElem_cons h1, h2]
          rfl)
        clear hcs hcs2 hpv hy hh
        go_wp2_with fail
        refine (mkLay w wr q { M with es := es } ls D.ps _ a hg hc b (by rw [HLS.out]; exact HA.out) HPP.out HB.out).mono ?_
        rintro e w2 ⟨v, rfl, hB2⟩
        have HB2 := Lib.hid hB2
        clear hB2 HB c1 c2 q32 qf
        go_wp2_with fail
        go_roundw
        case rel => exact ⟨j + 1, by omega, by go_num, es.set a (some (hg, hc)), ls.set a b, by simp [HLS.out], HNX.out, HB2.out⟩
        case measure => simp [intOf]; omega
      · obtain rfl : j = u := by omega
        have HLS2 := Lib.hid (show ls = Dk.lay D.ps D.ls by rw [← HLay.out, ← HU.out, List.drop_length]; rfl)
        have HB2 := Lib.hid (mkPendNil HB.out)
        have hql : q < wr.heap.size := World.block_lt_of_cell? wr _ q32
        go_wp2_with fail
        go_ret
        refine ⟨rfl, L2, MLay.clear { M with es := es }, ?_⟩
        rw [F1.out, F2.out, ← HLS2.out]
        exact (dm_out (dm_back HB2.out)).tail
  · have hne : (x == 0) = false := by rw [beq_eq_false_iff_ne]; exact hx0
    obtain ⟨f1, f2⟩ := flushD_no (D := D) (by rw [hx]; exact hx0)
    have F1 := Lib.hid f1
    have F2 := Lib.hid f2
    have HB1 := Lib.hid hB1
    clear f1 f2 hx hx0 hB1
    go_wp2_with fail
    refine (numOf _ _).mono ?_
    rintro e w' ⟨rfl, rfl⟩
    go_wp2_with fail
    go_ret
    refine ⟨rfl, L2, M, ?_⟩
    rw [F1.out, F2.out]
    exact (dm_out HB1.out).tail
set_option maxRecDepth 100000 in
set_option maxHeartbeats 4000000 in
theorem follows_5 (w W : World) (p q : Nat) (L : Lay) (M : MLay) (D : Dk) (rest : List It) (m : Nat) (i : Int) (sec : Bool) (ad af ak : Option Addr) (nd cd nf cf nk ck : Nat) (data : List (BitVec 8)) (fs : List (Int × Int)) (keep : List Bool) (hdn : data.length = nd) (hfn : fs.length = nf) (hkn : keep.length = nk) (_bd : nd ≤ 140737488351232) (bf : nf ≤ 8796093022000) (bfc : nf ≤ cf) (baf : af = none → cf = 0) (_bk : nk ≤ 140737488351232) (hw : D.Wf m) (_hm : m ≤ 1000000000) (_hfl : D.fs.length ≤ 10000000000000) (hn : D.ls.length = 32) (_hi0 : -9223372036854775808 ≤ i) (_hi1 : i ≤ 9223372036854775807)
   (hr : ∀ W', Bag w W' rest → Rd W' ad data ∧ Fd W' af fs ∧ Bo W' ak keep) (hB : Bag w W (dkl p L D (mkl q M D.ls D.ps rest))) :
   Calls Try.prog 19 #[.pointer (some ⟨q, 0, none⟩), .pointer (some ⟨p, 0, none⟩), .agg #[.int .i64 5, .int .i64 i, .bool sec, .slice ad nd cd, .slice af nf cf, .slice ak nk ck]] W (FolR w p q (D.armD fs) rest) := by
  have HW := Lib.hid hw
  have HR := Lib.hid hr
  have HDN := Lib.hid hdn
  have HFN := Lib.hid hfn
  have HKN := Lib.hid hkn
  have HAF := Lib.hid baf
  have HN := Lib.hid hn
  clear hw hr hdn hfn hkn baf hn
  have h0 := dm_in (hB.alloc #[.int .i64 5, .int .i64 i, .bool sec, .slice ad nd cd, .slice af nf cf, .slice ak nk ck] 44)
  clear hB
  obtain ⟨z, hz⟩ : ∃ z : Nat, placeZ i 32 = z := ⟨(placeZ i 32).toNat, by have := placeZ_bd i 32 (by omega); omega⟩
  have hz1 : z < 32 := by have := placeZ_bd i 32 (by omega); omega
  have HZ := Lib.hid hz
  clear hz
  go_enter Try.func19, Try.ntmps19
  go_wp2_with fail
  generalize hU : W.alloc (.cells #[.int .i64 5, .int .i64 i, .bool sec, .slice ad nd cd, .slice af nf cf, .slice ak nk ck] 44 (0, 0)) = U at h0 ⊢
  generalize hbx : W.heap.size = bx at h0 ⊢
  have HB := Lib.hid h0
  clear h0 hU hbx
  obtain ⟨x0, x1, x2, x3, x4, x5, xf⟩ := cells6 (HB.out.box 10 rfl)
  refine (placeOf i 32 _ (by omega) (by omega)).mono ?_
  rintro e w' ⟨rfl, rfl⟩
  rw [HZ.out]
  go_wp2_with fail
  refine (dkArm w U p L D (mkl q M D.ls D.ps (.box bx #[.int .i64 5, .int .i64 i, .bool sec, .slice ad nd cd, .slice af nf cf, .slice ak nk ck] 44 :: rest)) af fs nf cf HFN.out bf bfc HAF.out (fun W' D' h => (HR.out W' (h.dropN 11)).2.1) HB.out).mono ?_
  rintro e w1 ⟨L2, rfl, hB1⟩
  have HB1 := Lib.hid (dm_out hB1).tail
  clear hB1 HB x0 x1 x2 x3 x4 x5 xf
  go_wp2_with fail
  go_ret
  refine ⟨rfl, L2, M, ?_⟩
  rw [(armD_ls D fs).1, (armD_ls D fs).2]
  exact HB1.out
set_option maxRecDepth 100000 in
set_option maxHeartbeats 4000000 in
theorem follows_11 (w W : World) (p q : Nat) (L : Lay) (M : MLay) (D : Dk) (rest : List It) (m : Nat) (i : Int) (sec : Bool) (ad af ak : Option Addr) (nd cd nf cf nk ck : Nat) (data : List (BitVec 8)) (fs : List (Int × Int)) (keep : List Bool) (hdn : data.length = nd) (hfn : fs.length = nf) (hkn : keep.length = nk) (_bd : nd ≤ 140737488351232) (_bf : nf ≤ 8796093022000) (_bfc : nf ≤ cf) (baf : af = none → cf = 0) (_bk : nk ≤ 140737488351232) (hw : D.Wf m) (hm : m ≤ 1000000000) (_hfl : D.fs.length ≤ 10000000000000) (hn : D.ls.length = 32) (_hi0 : -9223372036854775808 ≤ i) (_hi1 : i ≤ 9223372036854775807)
   (hr : ∀ W', Bag w W' rest → Rd W' ad data ∧ Fd W' af fs ∧ Bo W' ak keep) (hB : Bag w W (dkl p L D (mkl q M D.ls D.ps rest))) :
   Calls Try.prog 19 #[.pointer (some ⟨q, 0, none⟩), .pointer (some ⟨p, 0, none⟩), .agg #[.int .i64 11, .int .i64 i, .bool sec, .slice ad nd cd, .slice af nf cf, .slice ak nk ck]] W (FolR w p q D.claimD rest) := by
  have HW := Lib.hid hw
  have HR := Lib.hid hr
  have HDN := Lib.hid hdn
  have HFN := Lib.hid hfn
  have HKN := Lib.hid hkn
  have HAF := Lib.hid baf
  have HN := Lib.hid hn
  clear hw hr hdn hfn hkn baf hn
  have h0 := dm_in (hB.alloc #[.int .i64 11, .int .i64 i, .bool sec, .slice ad nd cd, .slice af nf cf, .slice ak nk ck] 44)
  clear hB
  obtain ⟨z, hz⟩ : ∃ z : Nat, placeZ i 32 = z := ⟨(placeZ i 32).toNat, by have := placeZ_bd i 32 (by omega); omega⟩
  have hz1 : z < 32 := by have := placeZ_bd i 32 (by omega); omega
  have HZ := Lib.hid hz
  clear hz
  go_enter Try.func19, Try.ntmps19
  go_wp2_with fail
  generalize hU : W.alloc (.cells #[.int .i64 11, .int .i64 i, .bool sec, .slice ad nd cd, .slice af nf cf, .slice ak nk ck] 44 (0, 0)) = U at h0 ⊢
  generalize hbx : W.heap.size = bx at h0 ⊢
  have HB := Lib.hid h0
  clear h0 hU hbx
  obtain ⟨x0, x1, x2, x3, x4, x5, xf⟩ := cells6 (HB.out.box 10 rfl)
  refine (placeOf i 32 _ (by omega) (by omega)).mono ?_
  rintro e w' ⟨rfl, rfl⟩
  rw [HZ.out]
  go_wp2_with fail
  refine (dkClaim (by have := HW.out.claims; omega) HB.out).mono ?_
  rintro e w1 ⟨rfl, hB1⟩
  have HB1 := Lib.hid (dm_out hB1).tail
  clear hB1 HB x0 x1 x2 x3 x4 x5 xf
  go_wp2_with fail
  go_ret
  exact ⟨rfl, L, M, HB1.out⟩
set_option maxRecDepth 100000 in
set_option maxHeartbeats 4000000 in
theorem follows_o (w W : World) (p q : Nat) (L : Lay) (M : MLay) (D : Dk) (rest : List It) (m : Nat) (i : Int) (sec : Bool) (ad af ak : Option Addr) (nd cd nf cf nk ck : Nat) (data : List (BitVec 8)) (fs : List (Int × Int)) (keep : List Bool) (hdn : data.length = nd) (hfn : fs.length = nf) (hkn : keep.length = nk) (_bd : nd ≤ 140737488351232) (_bf : nf ≤ 8796093022000) (_bfc : nf ≤ cf) (baf : af = none → cf = 0) (_bk : nk ≤ 140737488351232) (hw : D.Wf m) (_hm : m ≤ 1000000000) (_hfl : D.fs.length ≤ 10000000000000) (hn : D.ls.length = 32) (_hi0 : -9223372036854775808 ≤ i) (_hi1 : i ≤ 9223372036854775807)
   (hr : ∀ W', Bag w W' rest → Rd W' ad data ∧ Fd W' af fs ∧ Bo W' ak keep) (hB : Bag w W (dkl p L D (mkl q M D.ls D.ps rest))) (k : Int) (n1 : (k == 1) = false) (n2 : (k == 2) = false) (n3 : (k == 3) = false) (n4 : (k == 4) = false) (n5 : (k == 5) = false) (n6 : (k == 6) = false) (n11 : (k == 11) = false) :
   Calls Try.prog 19 #[.pointer (some ⟨q, 0, none⟩), .pointer (some ⟨p, 0, none⟩), .agg #[.int .i64 k, .int .i64 i, .bool sec, .slice ad nd cd, .slice af nf cf, .slice ak nk ck]] W (FolR w p q D rest) := by
  have HW := Lib.hid hw
  have HR := Lib.hid hr
  have HDN := Lib.hid hdn
  have HFN := Lib.hid hfn
  have HKN := Lib.hid hkn
  have HAF := Lib.hid baf
  have HN := Lib.hid hn
  clear hw hr hdn hfn hkn baf hn
  have h0 := dm_in (hB.alloc #[.int .i64 k, .int .i64 i, .bool sec, .slice ad nd cd, .slice af nf cf, .slice ak nk ck] 44)
  clear hB
  obtain ⟨z, hz⟩ : ∃ z : Nat, placeZ i 32 = z := ⟨(placeZ i 32).toNat, by have := placeZ_bd i 32 (by omega); omega⟩
  have hz1 : z < 32 := by have := placeZ_bd i 32 (by omega); omega
  have HZ := Lib.hid hz
  clear hz
  go_enter Try.func19, Try.ntmps19
  go_wp2_with fail
  generalize hU : W.alloc (.cells #[.int .i64 k, .int .i64 i, .bool sec, .slice ad nd cd, .slice af nf cf, .slice ak nk ck] 44 (0, 0)) = U at h0 ⊢
  generalize hbx : W.heap.size = bx at h0 ⊢
  have HB := Lib.hid h0
  clear h0 hU hbx
  obtain ⟨x0, x1, x2, x3, x4, x5, xf⟩ := cells6 (HB.out.box 10 rfl)
  refine (placeOf i 32 _ (by omega) (by omega)).mono ?_
  rintro e w' ⟨rfl, rfl⟩
  rw [HZ.out]
  go_wp2_with fail
  go_ret
  exact ⟨rfl, L, M, (dm_out HB.out).tail⟩
end Go.Proofs.Ytkndlpihhfjcpaa
