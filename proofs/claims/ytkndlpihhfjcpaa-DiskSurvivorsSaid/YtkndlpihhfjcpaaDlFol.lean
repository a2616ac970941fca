/- The law's follows: Crash; every kind. -/
import Derived.Test.YtkndlpihhfjcpaaDlFol3
namespace Go.Proofs.Ytkndlpihhfjcpaa
open Go.RowKit
set_option maxRecDepth 100000 in
set_option maxHeartbeats 4000000 in
theorem follows_6 (w W : World) (p q : Nat) (L : Lay) (M : MLay) (D : Dk) (rest : List It) (m : Nat) (i : Int) (sec : Bool) (ad af ak : Option Addr) (nd cd nf cf nk ck : Nat) (data : List (BitVec 8)) (fs : List (Int × Int)) (keep : List Bool) (hdn : data.length = nd) (hfn : fs.length = nf) (hkn : keep.length = nk) (_bd : nd ≤ 140737488351232) (_bf : nf ≤ 8796093022000) (_bfc : nf ≤ cf) (baf : af = none → cf = 0) (bk : nk ≤ 140737488351232) (hw : D.Wf m) (hm : m ≤ 1000000000) (_hfl : D.fs.length ≤ 10000000000000) (hn : D.ls.length = 32) (_hi0 : -9223372036854775808 ≤ i) (_hi1 : i ≤ 9223372036854775807)
   (hr : ∀ W', Bag w W' rest → Rd W' ad data ∧ Fd W' af fs ∧ Bo W' ak keep) (hB : Bag w W (dkl p L D (mkl q M D.ls D.ps rest))) :
   Calls Try.prog 19 #[.pointer (some ⟨q, 0, none⟩), .pointer (some ⟨p, 0, none⟩), .agg #[.int .i64 6, .int .i64 i, .bool sec, .slice ad nd cd, .slice af nf cf, .slice ak nk ck]] W (FolR w p q (D.crashD keep) rest) := by
  have HW := Lib.hid hw
  have HR := Lib.hid hr
  have HDN := Lib.hid hdn
  have HFN := Lib.hid hfn
  have HKN := Lib.hid hkn
  have HAF := Lib.hid baf
  have HN := Lib.hid hn
  clear hw hr hdn hfn hkn baf hn
  have h0 := dm_in (hB.alloc #[.int .i64 6, .int .i64 i, .bool sec, .slice ad nd cd, .slice af nf cf, .slice ak nk ck] 44)
  clear hB
  obtain ⟨z, hz⟩ : ∃ z : Nat, placeZ i 32 = z := ⟨(placeZ i 32).toNat, by have := placeZ_bd i 32 (by omega); omega⟩
  have hz1 : z < 32 := by have := placeZ_bd i 32 (by omega); omega
  have HZ := Lib.hid hz
  clear hz
  go_enter Try.func19, Try.ntmps19
  go_wp2_with fail
  generalize hU : W.alloc (.cells #[.int .i64 6, .int .i64 i, .bool sec, .slice ad nd cd, .slice af nf cf, .slice ak nk ck] 44 (0, 0)) = U at h0 ⊢
  generalize hbx : W.heap.size = bx at h0 ⊢
  have HB := Lib.hid h0
  clear h0 hU hbx
  obtain ⟨x0, x1, x2, x3, x4, x5, xf⟩ := cells6 (HB.out.box 10 rfl)
  refine (placeOf i 32 _ (by omega) (by omega)).mono ?_
  rintro e w' ⟨rfl, rfl⟩
  rw [HZ.out]
  go_wp2_with fail
  refine (dkCrash w U p L D (mkl q M D.ls D.ps (.box bx #[.int .i64 6, .int .i64 i, .bool sec, .slice ad nd cd, .slice af nf cf, .slice ak nk ck] 44 :: rest)) m ak keep nk ck HKN.out (by omega) HW.out (by omega) (fun W' D' h => (HR.out W' (h.dropN 11)).2.2) HB.out).mono ?_
  rintro e w1 ⟨L2, v, rfl, hB1⟩
  clear x0 x1 x2 x3 x4 x5 xf
  have HBm := Lib.hid (dm_swap hB1)
  clear hB1 HB
  obtain ⟨ao, cp, hpv, hcp, _⟩ := mkPv HBm.out
  obtain ⟨u, hu⟩ : ∃ u, D.ps.length = u := ⟨_, rfl⟩
  have hum : u ≤ m := by rw [← hu]; exact HW.out.pend
  rw [hu] at hpv hcp
  have HPV := Lib.hid hpv
  have HU := Lib.hid hu
  have HP := Lib.hid (mkP HBm.out)
  clear hpv hu
  go_wp2_with fail
  go_loopw [15] (fun t wr => ∃ j : Nat, j ≤ u ∧ j ≤ nk ∧ t = .int .i64 j ∧ MKeptJ w q M D.ls D.ps (dkl p L2 (D.crashD keep) (.box bx #[.int .i64 6, .int .i64 i, .bool sec, .slice ad nd cd, .slice af nf cf, .slice ak nk ck] 44 :: rest)) keep j wr) (fun t _ => u - (intOf t).toNat)
  case atStart => exact ⟨0, Nat.zero_le _, Nat.zero_le _, rfl, M.es, D.ls, rfl, rfl, HBm.out⟩
  case round =>
    obtain ⟨j, hj, hjn, rfl, es, ls, hls, hlay, hB⟩ := hrel
    have HB := Lib.hid hB
    have HLS := Lib.hid hls
    have HLay := Lib.hid hlay
    clear hB hls hlay HBm
    have q32 := mkPends HB.out
    have qf := mkFree HB.out 32
    obtain ⟨x0, x1, x2, x3, x4, x5, xf⟩ := cells6 (HB.out.box 10 rfl)
    simp only at q32
    rw [HPV.out] at q32
    by_cases hlt : j < u ∧ j < nk
    · obtain ⟨hlt, hln⟩ := hlt
      obtain ⟨⟨a, b⟩, hy⟩ : ∃ y, D.ps[j]? = some y := ⟨D.ps[j]'(by rw [HU.out]; exact hlt), List.getElem?_eq_getElem _⟩
      obtain ⟨⟨hg, hc⟩, hh⟩ : ∃ h, M.hs[j]? = some h := ⟨M.hs[j]'(by rw [HP.out.1, HU.out]; exact hlt), List.getElem?_eq_getElem _⟩
      obtain ⟨kb, hkb⟩ : ∃ kb, keep[j]? = some kb := ⟨keep[j]'(by rw [HKN.out]; exact hln), List.getElem?_eq_getElem _⟩
      obtain ⟨ao2, cp', hpv, _, hcs⟩ := mkPv HB.out
      obtain ⟨gp, rfl, hcs2⟩ := hcs (show 0 < D.ps.length by rw [HU.out]; omega)
      obtain ⟨c1, c2⟩ := hcs2 j (a, b) (hg, hc) hy hh
      simp only at hpv
      rw [HPV.out] at hpv
      simp only [Value.slice.injEq] at hpv
      obtain rfl := hpv.1
      unfold svo at c2
      simp only at c1 c2
      obtain ⟨bk0, bo0, rfl, ck0⟩ := (HR.out wr (HB.out.dropN 11)).2.2 j kb hkb
      have HPP := Lib.hid (HP.out.2 j (hg, hc) (a, b) hh hy)
      have HA := Lib.hid (HW.out.at_ (a, b) (List.mem_of_getElem? hy)).1
      have HST := Lib.hid (HLay.out ▸ (layK_step (ls := ls) hy hkb).symm)
      clear hcs hcs2 hpv hy hh hkb
      cases kb with
      | false =>
        go_wp2_with fail
        go_roundw
        case rel => exact ⟨j + 1, by omega, by omega, by go_num, es, ls, HLS.out, HST.out, HB.out⟩
        case measure => simp [intOf]; omega
      | true =>
        go_wp2_with fail
        refine (mkLay w wr q { M with es := es } ls D.ps _ a hg hc b (by rw [HLS.out]; exact HA.out) HPP.out HB.out).mono ?_
        rintro e w2 ⟨v, rfl, hB2⟩
        have HB2 := Lib.hid hB2
        clear hB2 HB c1 c2 q32 qf ck0 x0 x1 x2 x3 x4 x5 xf
        go_wp2_with fail
        go_roundw
        case rel => exact ⟨j + 1, by omega, by omega, by go_num, es.set a (some (hg, hc)), ls.set a b, by simp [HLS.out], HST.out, HB2.out⟩
        case measure => simp [intOf]; omega
    · have HLS2 := Lib.hid (show ls = Dk.layK D.ps keep D.ls by
        rw [← HLay.out]
        by_cases hju : j < u
        · rw [List.drop_of_length_le (l := keep) (by rw [HKN.out]; omega), layK_nil]
        · rw [List.drop_of_length_le (l := D.ps) (by rw [HU.out]; omega)]
          cases keep.drop j <;> rfl)
      have HB2 := Lib.hid (mkPendNil HB.out)
      have hql : q < wr.heap.size := World.block_lt_of_cell? wr _ q32
      have hjj : (j < u ∧ ¬ j < nk) ∨ ¬ j < u := by omega
      clear hlt
      rcases hjj with ⟨hju, hjn2⟩ | hju
      all_goals
        go_wp2_with fail
        go_ret
        refine ⟨rfl, L2, MLay.clear { M with es := es }, ?_⟩
        have h9 := (dm_out (dm_back HB2.out)).tail
        rw [HLS2.out] at h9
        exact h9
/-- One call, at the device and at the model. -/
def Dk.act (D : Dk) (k i : Int) (data : List (BitVec 8)) (fs : List (Int × Int)) (keep : List Bool) : Dk :=
  if k = 1 then D.readD (placeZ i 32) else if k = 2 then D.writeD (placeZ i 32) (padB data) else if k = 3 then D.writeD (placeZ i 32) (padB data) else if k = 4 then D.flushD else if k = 5 then D.armD fs else if k = 6 then D.crashD keep else if k = 11 then D.claimD else D
set_option maxRecDepth 100000 in
set_option maxHeartbeats 4000000 in
theorem followsOf (w W : World) (p q : Nat) (L : Lay) (M : MLay) (D : Dk) (rest : List It) (m : Nat) (i : Int) (sec : Bool) (ad af ak : Option Addr) (nd cd nf cf nk ck : Nat) (data : List (BitVec 8)) (fs : List (Int × Int)) (keep : List Bool) (hdn : data.length = nd) (hfn : fs.length = nf) (hkn : keep.length = nk) (bd : nd ≤ 140737488351232) (bf : nf ≤ 8796093022000) (bfc : nf ≤ cf) (baf : af = none → cf = 0) (bk : nk ≤ 140737488351232) (hw : D.Wf m) (hm : m ≤ 1000000000) (hfl : D.fs.length ≤ 10000000000000) (hn : D.ls.length = 32) (hi0 : -9223372036854775808 ≤ i) (hi1 : i ≤ 9223372036854775807)
   (hr : ∀ W', Bag w W' rest → Rd W' ad data ∧ Fd W' af fs ∧ Bo W' ak keep) (hB : Bag w W (dkl p L D (mkl q M D.ls D.ps rest))) (k : Int) :
   Calls Try.prog 19 #[.pointer (some ⟨q, 0, none⟩), .pointer (some ⟨p, 0, none⟩), .agg #[.int .i64 k, .int .i64 i, .bool sec, .slice ad nd cd, .slice af nf cf, .slice ak nk ck]] W (FolR w p q (D.act k i data fs keep) rest) := by
  unfold Dk.act
  by_cases n1 : k = 1
  · subst n1; exact follows_1 w W p q L M D rest m i sec ad af ak nd cd nf cf nk ck data fs keep hdn hfn hkn bd bf bfc baf bk hw hm hfl hn hi0 hi1 hr hB
  by_cases n2 : k = 2
  · subst n2; exact follows_2 w W p q L M D rest m i sec ad af ak nd cd nf cf nk ck data fs keep hdn hfn hkn bd bf bfc baf bk hw hm hfl hn hi0 hi1 hr hB
  by_cases n3 : k = 3
  · subst n3; exact follows_3 w W p q L M D rest m i sec ad af ak nd cd nf cf nk ck data fs keep hdn hfn hkn bd bf bfc baf bk hw hm hfl hn hi0 hi1 hr hB
  by_cases n4 : k = 4
  · subst n4; exact follows_4 w W p q L M D rest m i sec ad af ak nd cd nf cf nk ck data fs keep hdn hfn hkn bd bf bfc baf bk hw hm hfl hn hi0 hi1 hr hB
  by_cases n5 : k = 5
  · subst n5; exact follows_5 w W p q L M D rest m i sec ad af ak nd cd nf cf nk ck data fs keep hdn hfn hkn bd bf bfc baf bk hw hm hfl hn hi0 hi1 hr hB
  by_cases n6 : k = 6
  · subst n6; exact follows_6 w W p q L M D rest m i sec ad af ak nd cd nf cf nk ck data fs keep hdn hfn hkn bd bf bfc baf bk hw hm hfl hn hi0 hi1 hr hB
  by_cases n7 : k = 11
  · subst n7; exact follows_11 w W p q L M D rest m i sec ad af ak nd cd nf cf nk ck data fs keep hdn hfn hkn bd bf bfc baf bk hw hm hfl hn hi0 hi1 hr hB
  rw [if_neg n1, if_neg n2, if_neg n3, if_neg n4, if_neg n5, if_neg n6, if_neg n7]
  exact follows_o w W p q L M D rest m i sec ad af ak nd cd nf cf nk ck data fs keep hdn hfn hkn bd bf bfc baf bk hw hm hfl hn hi0 hi1 hr hB k (beq_eq_false_iff_ne.2 n1) (beq_eq_false_iff_ne.2 n2) (beq_eq_false_iff_ne.2 n3) (beq_eq_false_iff_ne.2 n4) (beq_eq_false_iff_ne.2 n5) (beq_eq_false_iff_ne.2 n6) (beq_eq_false_iff_ne.2 n7)
end Go.Proofs.Ytkndlpihhfjcpaa
