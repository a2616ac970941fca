/- The law's follows: Write. -/
import Derived.Test.YtkndlpihhfjcpaaDlFol1
namespace Go.Proofs.Ytkndlpihhfjcpaa
open Go.RowKit
theorem writeD_ls (D : Dk) (i : Int) (b : List (BitVec 8)) : (D.writeD i b).ls = D.ls := by
  unfold Dk.writeD
  split
  · split
    · split
      · exact D.opD_ls
      · exact D.opD_ls
    · rfl
  · rfl
theorem writeD_yes {D : Dk} {z : Nat} {b : List (BitVec 8)} (hz : z < D.ls.length) (hb : b.length = 512) (h : D.opE = 0) : (D.writeD z b).ps = D.ps ++ [(z, b)] ∧ D.writeE z b = 0 := by
  unfold Dk.writeD Dk.writeE
  rw [inn_at hz, hb, h]
  exact ⟨rfl, rfl⟩
theorem writeD_no {D : Dk} {z : Nat} {b : List (BitVec 8)} (hz : z < D.ls.length) (hb : b.length = 512) (h : ¬ D.opE = 0) : (D.writeD z b).ps = D.ps ∧ D.writeE z b = D.opE := by
  unfold Dk.writeD Dk.writeE
  rw [inn_at hz, hb]
  simp only [if_true, if_neg h]
  exact ⟨D.opD_ps, trivial⟩
set_option maxRecDepth 100000 in
set_option maxHeartbeats 4000000 in
theorem follows_2 (w W : World) (p q : Nat) (L : Lay) (M : MLay) (D : Dk) (rest : List It) (m : Nat) (i : Int) (sec : Bool) (ad af ak : Option Addr) (nd cd nf cf nk ck : Nat) (data : List (BitVec 8)) (fs : List (Int × Int)) (keep : List Bool) (hdn : data.length = nd) (hfn : fs.length = nf) (hkn : keep.length = nk) (bd : nd ≤ 140737488351232) (_bf : nf ≤ 8796093022000) (_bfc : nf ≤ cf) (baf : af = none → cf = 0) (_bk : nk ≤ 140737488351232) (hw : D.Wf m) (hm : m ≤ 1000000000) (hfl : D.fs.length ≤ 10000000000000) (hn : D.ls.length = 32) (_hi0 : -9223372036854775808 ≤ i) (_hi1 : i ≤ 9223372036854775807)
   (hr : ∀ W', Bag w W' rest → Rd W' ad data ∧ Fd W' af fs ∧ Bo W' ak keep) (hB : Bag w W (dkl p L D (mkl q M D.ls D.ps rest))) :
   Calls Try.prog 19 #[.pointer (some ⟨q, 0, none⟩), .pointer (some ⟨p, 0, none⟩), .agg #[.int .i64 2, .int .i64 i, .bool sec, .slice ad nd cd, .slice af nf cf, .slice ak nk ck]] W (FolR w p q (D.writeD (placeZ i 32) (padB data)) rest) := by
  have HW := Lib.hid hw
  have HR := Lib.hid hr
  have HDN := Lib.hid hdn
  have HFN := Lib.hid hfn
  have HKN := Lib.hid hkn
  have HAF := Lib.hid baf
  have HN := Lib.hid hn
  clear hw hr hdn hfn hkn baf hn
  have h0 := dm_in (hB.alloc #[.int .i64 2, .int .i64 i, .bool sec, .slice ad nd cd, .slice af nf cf, .slice ak nk ck] 44)
  clear hB
  obtain ⟨z, hz⟩ : ∃ z : Nat, placeZ i 32 = z := ⟨(placeZ i 32).toNat, by have := placeZ_bd i 32 (by omega); omega⟩
  have hz1 : z < 32 := by have := placeZ_bd i 32 (by omega); omega
  have HZ := Lib.hid hz
  clear hz
  go_enter Try.func19, Try.ntmps19
  go_wp2_with fail
  generalize hU : W.alloc (.cells #[.int .i64 2, .int .i64 i, .bool sec, .slice ad nd cd, .slice af nf cf, .slice ak nk ck] 44 (0, 0)) = U at h0 ⊢
  generalize hbx : W.heap.size = bx at h0 ⊢
  have HB := Lib.hid h0
  clear h0 hU hbx
  obtain ⟨x0, x1, x2, x3, x4, x5, xf⟩ := cells6 (HB.out.box 10 rfl)
  refine (placeOf i 32 _ (by omega) (by omega)).mono ?_
  rintro e w' ⟨rfl, rfl⟩
  rw [HZ.out]
  go_wp2_with fail
  refine (paddedOf ad data nd cd U HDN.out (by omega) (HR.out U (HB.out.dropN 11)).1).mono ?_
  rintro e w1 ⟨g, rfl, hg, hO, hb⟩
  obtain ⟨B, hBB⟩ : ∃ B, padB data = B := ⟨_, rfl⟩
  have HL := Lib.hid (show B.length = 512 by rw [← hBB]; exact padB_len data)
  have HBB := Lib.hid hBB
  rw [hBB] at hO
  have HB1 := Lib.hid (dm_in (HB.out.own hb hO hg))
  clear hg hO hb HB x0 x1 x2 x3 x4 x5 xf hBB
  unfold slv
  go_wp2_with fail
  refine (dkWrite w w1 p L D _ m z (some ⟨g, 0, none⟩) B 512 512 HL.out HW.out (by omega) (by omega) (by omega) (by omega) (fun W' D' h => h.mineRd 10 rfl) HB1.out).mono ?_
  rintro e w2 ⟨L2, rfl, hB2⟩
  have HB2 := Lib.hid hB2
  clear hB2 HB1
  have HLS := Lib.hid (writeD_ls D z B)
  obtain ⟨x, hx⟩ : ∃ x, D.opE = x := ⟨_, rfl⟩
  by_cases hx0 : x = 0
  · obtain ⟨h1, h2⟩ := writeD_yes (D := D) (z := z) (b := B) (by rw [HN.out]; exact hz1) HL.out (hx.trans hx0)
    rw [h2]
    obtain ⟨D1, hD1⟩ : ∃ D1, D.writeD z B = D1 := ⟨_, rfl⟩
    rw [hD1] at h1 HLS HB2
    have HPS := Lib.hid h1
    have HD1 := Lib.hid hD1
    have HBm := Lib.hid (dm_swap HB2.out)
    clear h1 h2 hD1 hx hx0 HB2
    have q32 := mkPends HBm.out
    have qf := mkFree HBm.out 32
    obtain ⟨aq, cp, hpv, hcp, _⟩ := mkPv HBm.out
    have hum : D.ps.length ≤ m := HW.out.pend
    rw [hpv] at q32
    have HPV := Lib.hid hpv
    have hql : q < w2.heap.size := World.block_lt_of_cell? w2 _ q32
    have HE1 := Lib.hid (mkE HBm.out)
    have HP1 := Lib.hid (mkP HBm.out)
    have HN1 := Lib.hid (mkN HBm.out)
    clear hpv
    obtain ⟨is, his, hsz0, hsz1, hsz2⟩ := info_parts info_pd
    go_wp2_with fail
    refine (numOf _ _).mono ?_
    rintro e w' ⟨rfl, rfl⟩
    go_wp2_with fail
    go_region_law (first
      | (go_simp; go_at_call 32; refine (bytes512 (some ⟨g, 0, none⟩) B 512 _ HL.out (HBm.out.drew.mineRd 10 rfl)).mono ?_; rintro e W3 ⟨gg, cc, rfl, hgg, hOO, hbb⟩; have HB3 := Lib.hid (mkPushRow HBm.out.drew hbb hOO hgg); have q32' := mkPends (HBm.out.drew.call hbb); have qf' := mkFree (HBm.out.drew.call hbb) 32; rw [HPV.out] at q32'; have hql' : q < W3.heap.size := World.block_lt_of_cell? W3 _ q32'; clear hOO hbb hgg)
      | (refine Bag.appendStep2 rfl _ _ 39 rfl 89 is _ 32 Try.underlying39 his hsz0 hsz1 hsz2 rfl 1 _ D.ps.length _ (HB3.out.call (fresh1 W3 (.cells #[.int .i64 (z : Nat), .slice (some ⟨gg, 0, none⟩) 512 cc] 89))) rfl HPV.out.symm W3.heap.size 0 rfl _ _ (cell_new2 W3 _ _ _ _).1 (cell_new2 W3 _ _ _ _).2 rfl rfl (by unfold maxLen; omega) (by omega) ?_; intro gx cx W4 hB4 hsz; have HB4 := Lib.hid (mkPushed (k := z) (b := B) (gg := gg) (cc := cc) HE1.out HP1.out HN1.out hB4); have z1 : W4.cell? ⟨q, 32, none⟩ = some (.slice aq D.ps.length cp) := (by rw [← HPV.out]; exact mkBoxPv HN1.out (hB4.box 0 rfl)); have zf : W4.frozen? ⟨q, 32, none⟩ = false := frozen_of_row W4 q 32 _ _ (hB4.box 0 rfl); clear hB4))
    all_goals
      go_wp2_with fail
      go_ret
      refine ⟨rfl, L2, M.push (.slice (some ⟨gx, 0, none⟩) (D.ps.length + 1) cx) gg cc B, ?_⟩
      rw [HZ.out, HBB.out, HD1.out, HLS.out, HPS.out]
      exact (dm_out (dm_out (dm_back HB4.out)).tail).tail
  · obtain ⟨h1, h2⟩ := writeD_no (D := D) (z := z) (b := B) (by rw [HN.out]; exact hz1) HL.out (by rw [hx]; exact hx0)
    rw [h2, hx]
    have HPS := Lib.hid h1
    have hne : (x == 0) = false := by rw [beq_eq_false_iff_ne]; exact hx0
    clear h1 h2 hx hx0
    go_wp2_with fail
    refine (numOf _ _).mono ?_
    rintro e w' ⟨rfl, rfl⟩
    go_wp2_with fail
    go_ret
    refine ⟨rfl, L2, M, ?_⟩
    rw [HZ.out, HBB.out, HLS.out, HPS.out]
    exact (dm_out (dm_out HB2.out).tail).tail
set_option maxRecDepth 100000 in
set_option maxHeartbeats 4000000 in
theorem follows_3 (w W : World) (p q : Nat) (L : Lay) (M : MLay) (D : Dk) (rest : List It) (m : Nat) (i : Int) (sec : Bool) (ad af ak : Option Addr) (nd cd nf cf nk ck : Nat) (data : List (BitVec 8)) (fs : List (Int × Int)) (keep : List Bool) (hdn : data.length = nd) (hfn : fs.length = nf) (hkn : keep.length = nk) (bd : nd ≤ 140737488351232) (_bf : nf ≤ 8796093022000) (_bfc : nf ≤ cf) (baf : af = none → cf = 0) (_bk : nk ≤ 140737488351232) (hw : D.Wf m) (hm : m ≤ 1000000000) (hfl : D.fs.length ≤ 10000000000000) (hn : D.ls.length = 32) (_hi0 : -9223372036854775808 ≤ i) (_hi1 : i ≤ 9223372036854775807)
   (hr : ∀ W', Bag w W' rest → Rd W' ad data ∧ Fd W' af fs ∧ Bo W' ak keep) (hB : Bag w W (dkl p L D (mkl q M D.ls D.ps rest))) :
   Calls Try.prog 19 #[.pointer (some ⟨q, 0, none⟩), .pointer (some ⟨p, 0, none⟩), .agg #[.int .i64 3, .int .i64 i, .bool sec, .slice ad nd cd, .slice af nf cf, .slice ak nk ck]] W (FolR w p q (D.writeD (placeZ i 32) (padB data)) rest) := by
  have HW := Lib.hid hw
  have HR := Lib.hid hr
  have HDN := Lib.hid hdn
  have HFN := Lib.hid hfn
  have HKN := Lib.hid hkn
  have HAF := Lib.hid baf
  have HN := Lib.hid hn
  clear hw hr hdn hfn hkn baf hn
  have h0 := dm_in (hB.alloc #[.int .i64 3, .int .i64 i, .bool sec, .slice ad nd cd, .slice af nf cf, .slice ak nk ck] 44)
  clear hB
  obtain ⟨z, hz⟩ : ∃ z : Nat, placeZ i 32 = z := ⟨(placeZ i 32).toNat, by have := placeZ_bd i 32 (by omega); omega⟩
  have hz1 : z < 32 := by have := placeZ_bd i 32 (by omega); omega
  have HZ := Lib.hid hz
  clear hz
  go_enter Try.func19, Try.ntmps19
  go_wp2_with fail
  generalize hU : W.alloc (.cells #[.int .i64 3, .int .i64 i, .bool sec, .slice ad nd cd, .slice af nf cf, .slice ak nk ck] 44 (0, 0)) = U at h0 ⊢
  generalize hbx : W.heap.size = bx at h0 ⊢
  have HB := Lib.hid h0
  clear h0 hU hbx
  obtain ⟨x0, x1, x2, x3, x4, x5, xf⟩ := cells6 (HB.out.box 10 rfl)
  refine (placeOf i 32 _ (by omega) (by omega)).mono ?_
  rintro e w' ⟨rfl, rfl⟩
  rw [HZ.out]
  go_wp2_with fail
  refine (paddedOf ad data nd cd U HDN.out (by omega) (HR.out U (HB.out.dropN 11)).1).mono ?_
  rintro e w1 ⟨g, rfl, hg, hO, hb⟩
  obtain ⟨B, hBB⟩ : ∃ B, padB data = B := ⟨_, rfl⟩
  have HL := Lib.hid (show B.length = 512 by rw [← hBB]; exact padB_len data)
  have HBB := Lib.hid hBB
  rw [hBB] at hO
  have HB1 := Lib.hid (dm_in (HB.out.own hb hO hg))
  clear hg hO hb HB x0 x1 x2 x3 x4 x5 xf hBB
  unfold slv
  go_wp2_with fail
  refine (dkWrite w w1 p L D _ m z (some ⟨g, 0, none⟩) B 512 512 HL.out HW.out (by omega) (by omega) (by omega) (by omega) (fun W' D' h => h.mineRd 10 rfl) HB1.out).mono ?_
  rintro e w2 ⟨L2, rfl, hB2⟩
  have HB2 := Lib.hid hB2
  clear hB2 HB1
  have HLS := Lib.hid (writeD_ls D z B)
  obtain ⟨x, hx⟩ : ∃ x, D.opE = x := ⟨_, rfl⟩
  by_cases hx0 : x = 0
  · obtain ⟨h1, h2⟩ := writeD_yes (D := D) (z := z) (b := B) (by rw [HN.out]; exact hz1) HL.out (hx.trans hx0)
    rw [h2]
    obtain ⟨D1, hD1⟩ : ∃ D1, D.writeD z B = D1 := ⟨_, rfl⟩
    rw [hD1] at h1 HLS HB2
    have HPS := Lib.hid h1
    have HD1 := Lib.hid hD1
    have HBm := Lib.hid (dm_swap HB2.out)
    clear h1 h2 hD1 hx hx0 HB2
    have q32 := mkPends HBm.out
    have qf := mkFree HBm.out 32
    obtain ⟨aq, cp, hpv, hcp, _⟩ := mkPv HBm.out
    have hum : D.ps.length ≤ m := HW.out.pend
    rw [hpv] at q32
    have HPV := Lib.hid hpv
    have hql : q < w2.heap.size := World.block_lt_of_cell? w2 _ q32
    have HE1 := Lib.hid (mkE HBm.out)
    have HP1 := Lib.hid (mkP HBm.out)
    have HN1 := Lib.hid (mkN HBm.out)
    clear hpv
    obtain ⟨is, his, hsz0, hsz1, hsz2⟩ := info_parts info_pd
    go_wp2_with fail
    refine (numOf _ _).mono ?_
    rintro e w' ⟨rfl, rfl⟩
    go_wp2_with fail
    go_region_law (first
      | (go_simp; go_at_call 32; refine (bytes512 (some ⟨g, 0, none⟩) B 512 _ HL.out (HBm.out.drew.mineRd 10 rfl)).mono ?_; rintro e W3 ⟨gg, cc, rfl, hgg, hOO, hbb⟩; have HB3 := Lib.hid (mkPushRow HBm.out.drew hbb hOO hgg); have q32' := mkPends (HBm.out.drew.call hbb); have qf' := mkFree (HBm.out.drew.call hbb) 32; rw [HPV.out] at q32'; have hql' : q < W3.heap.size := World.block_lt_of_cell? W3 _ q32'; clear hOO hbb hgg)
      | (refine Bag.appendStep2 rfl _ _ 39 rfl 89 is _ 32 Try.underlying39 his hsz0 hsz1 hsz2 rfl 1 _ D.ps.length _ (HB3.out.call (fresh1 W3 (.cells #[.int .i64 (z : Nat), .slice (some ⟨gg, 0, none⟩) 512 cc] 89))) rfl HPV.out.symm W3.heap.size 0 rfl _ _ (cell_new2 W3 _ _ _ _).1 (cell_new2 W3 _ _ _ _).2 rfl rfl (by unfold maxLen; omega) (by omega) ?_; intro gx cx W4 hB4 hsz; have HB4 := Lib.hid (mkPushed (k := z) (b := B) (gg := gg) (cc := cc) HE1.out HP1.out HN1.out hB4); have z1 : W4.cell? ⟨q, 32, none⟩ = some (.slice aq D.ps.length cp) := (by rw [← HPV.out]; exact mkBoxPv HN1.out (hB4.box 0 rfl)); have zf : W4.frozen? ⟨q, 32, none⟩ = false := frozen_of_row W4 q 32 _ _ (hB4.box 0 rfl); clear hB4))
    all_goals
      go_wp2_with fail
      go_ret
      refine ⟨rfl, L2, M.push (.slice (some ⟨gx, 0, none⟩) (D.ps.length + 1) cx) gg cc B, ?_⟩
      rw [HZ.out, HBB.out, HD1.out, HLS.out, HPS.out]
      exact (dm_out (dm_out (dm_back HB4.out)).tail).tail
  · obtain ⟨h1, h2⟩ := writeD_no (D := D) (z := z) (b := B) (by rw [HN.out]; exact hz1) HL.out (by rw [hx]; exact hx0)
    rw [h2, hx]
    have HPS := Lib.hid h1
    have hne : (x == 0) = false := by rw [beq_eq_false_iff_ne]; exact hx0
    clear h1 h2 hx hx0
    go_wp2_with fail
    refine (numOf _ _).mono ?_
    rintro e w' ⟨rfl, rfl⟩
    go_wp2_with fail
    go_ret
    refine ⟨rfl, L2, M, ?_⟩
    rw [HZ.out, HBB.out, HLS.out, HPS.out]
    exact (dm_out (dm_out HB2.out).tail).tail
end Go.Proofs.Ytkndlpihhfjcpaa
