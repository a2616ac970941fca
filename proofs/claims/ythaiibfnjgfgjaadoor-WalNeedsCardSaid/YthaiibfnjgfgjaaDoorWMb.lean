/- A log over a device: Append. A log over a device: Checkpoint. Open's parts: the checkpoint of a superblock. Format. -/
import Derived.Test.YthaiibfnjgfgjaaDoorWMa
import Derived.Deep.RegionHeld3
namespace Go.Proofs.YthaiibfnjgfgjaaDoor
open Go.RowKit
namespace Wl
section
variable {w W : World} {p lp : Nat} {L : Lay} {D : Dk} {l : Lg} {rest : List It}
theorem wl_in {x : It} (h : Bag w W (x :: wl p L D lp l rest)) : Bag w W (wl p L D lp l (x :: rest)) :=
  h.perm (List.perm_middle (l₁ := [D.box L p, .lst 29 1 L.lv D.ls.length (L.bs.map slv), .rows 5 512 L.bs D.ls, .lst 84 2 L.pv D.ps.length (pcs D.ps L.qs), .rows 5 512 L.qs (D.ps.map Prod.snd), .grp (L.mts D.fs), lgb lp p l]) (l₂ := rest)).symm
theorem wl_out {x : It} (h : Bag w W (wl p L D lp l (x :: rest))) : Bag w W (x :: wl p L D lp l rest) :=
  h.perm (List.perm_middle (l₁ := [D.box L p, .lst 29 1 L.lv D.ls.length (L.bs.map slv), .rows 5 512 L.bs D.ls, .lst 84 2 L.pv D.ps.length (pcs D.ps L.qs), .rows 5 512 L.qs (D.ps.map Prod.snd), .grp (L.mts D.fs), lgb lp p l]) (l₂ := rest))
theorem wl_rest (h : Bag w W (wl p L D lp l rest)) : Bag w W rest := (dropDk h).tail
end
theorem piecesP_wf (room seq epoch place : Nat) (b : By) : ∀ (k i m : Nat) (D : Dk), D.Wf m → (piecesP room seq epoch place b k i D).1.Wf (m + k + 1) ∧ (piecesP room seq epoch place b k i D).1.fs = D.fs := by
  intro k
  induction k with
  | zero =>
    intro i m D h
    refine ⟨h.flush, ?_⟩
    show D.flushD.fs = D.fs
    unfold Dk.flushD
    split <;> exact D.opD_fs
  | succ k ih =>
    intro i m D h
    rw [piecesP_succ]
    split
    · obtain ⟨h1, h2⟩ := ih (i + 1) (m + 1) _ (wrD_wf h _ _)
      exact ⟨h1.mono (by omega), h2.trans (wrD_fs _ _ _)⟩
    · exact ⟨(wrD_wf h _ _).mono (by omega), wrD_fs _ _ _⟩
theorem piecesP_len (room seq epoch place : Nat) (b : By) : ∀ (k i : Nat) (D : Dk), (piecesP room seq epoch place b k i D).1.ls.length = D.ls.length := by
  intro k
  have hw : ∀ (D : Dk) (a : Nat) (S : Sec), (wrD D a S).ls = D.ls := by
    intro D a S
    unfold wrD Dk.writeD
    split
    · split
      · split
        · exact D.opD_ls
        · exact D.opD_ls
      · rfl
    · rfl
  induction k with
  | zero =>
    intro i D
    show D.flushD.ls.length = _
    unfold Dk.flushD
    split
    · simp only [Dk.lay_len]
    · rw [Dk.opD_ls]
  | succ k ih =>
    intro i D
    rw [piecesP_succ]
    split
    · rw [ih, hw]
    · show (wrD D _ _).ls.length = _
      rw [hw]
theorem appendP_no {D : Dk} {l : Lg} {tx : By} {z : Int} (h : appendE D l tx.length = z) (hz : z ≠ 0) : appendP D l tx = ⟨D, l, z⟩ := by
  unfold appendP
  rw [h, if_neg hz]
theorem appendP_mid {D D1 : Dk} {l : Lg} {tx : By} {x : Int} (h : appendE D l tx.length = 0) (h1 : aheadP D l tx = (D1, x)) (hx : x ≠ 0) : appendP D l tx = ⟨D1, l.ref x, x⟩ := by
  unfold appendP
  rw [if_pos h, h1]
  simp only
  rw [if_neg hx]
theorem appendP_yes {D D1 D2 : Dk} {l : Lg} {tx : By} {x : Int} (h : appendE D l tx.length = 0) (h1 : aheadP D l tx = (D1, 0)) (h2 : lastP D1 (lastA l tx) (lastS l tx) = (D2, x)) : appendP D l tx = if x = 0 then ⟨D2, { l with place := l.place + needN tx.length, seq := l.seq + 1 }, 0⟩ else ⟨D2, l.ref x, x⟩ := by
  unfold appendP
  rw [if_pos h, h1]
  simp only
  rw [if_pos trivial, h2]
set_option maxRecDepth 100000 in
set_option maxHeartbeats 4000000 in
theorem wAppend (w W : World) (p lp : Nat) (L : Lay) (D : Dk) (l : Lg) (rest : List It) (m : Nat) (tx : By) (ao : Option Addr) (n cap : Nat) (hn : tx.length = n) (hn1 : n ≤ 1000000000000) (hc : n ≤ cap) (hl : l.Ok)
   (hw : D.Wf m) (hm : m ≤ 400000000000) (hf : D.fs.length ≤ 1000000000000000) (hr : ∀ W', Bag w W' rest → Rd W' ao tx) (ht : Tab w) (hT : 0 < w.heap.size) (hB : Bag w W (wl p L D lp l rest)) :
   Calls Tryd.prog 25 #[.pointer (some ⟨lp, 0, none⟩), .slice ao n cap] W (SafeR w p lp rest (appendP D l tx)) := by
  obtain ⟨A, hA⟩ : ∃ A, appendP D l tx = A := ⟨_, rfl⟩
  rw [hA]
  have ho := wOver w W p lp L D l rest hB
  have hndc := wNeed n W (by omega)
  obtain ⟨nd, hndE⟩ : ∃ nd, needN n = nd := ⟨_, rfl⟩
  rw [hndE] at hndc
  have hnd11 : nd ≤ 11 := by
    rw [← hndE]; unfold needN; split
    · omega
    · split
      · omega
      · unfold pcN; omega
  obtain ⟨ep, hep⟩ : ∃ ep, l.epoch = ep := ⟨_, rfl⟩
  obtain ⟨sq, hsq⟩ : ∃ sq, l.seq = sq := ⟨_, rfl⟩
  obtain ⟨pc, hpc⟩ : ∃ pc, l.place = pc := ⟨_, rfl⟩
  obtain ⟨rm, hrm⟩ : ∃ rm, l.room = rm := ⟨_, rfl⟩
  obtain ⟨k1, k2, k3, k4, k5, k6, _⟩ := hl
  rw [hep] at k2 k3
  rw [hsq] at k4 k5
  rw [hpc, hrm] at k6
  rw [hrm] at k1
  unfold mq at k3 k5
  have HA := Lib.hid hA
  have HB := Lib.hid hB
  have HN := Lib.hid hn
  have HW := Lib.hid hw
  have HR := Lib.hid hr
  have HT := Lib.hid (And.intro ht hT)
  have HND := Lib.hid hndE
  have HEP := Lib.hid hep
  have HSQ := Lib.hid hsq
  have HPLc := Lib.hid hpc
  have HRM := Lib.hid hrm
  clear hA hB hn hw hr ht hT hndE hep hsq hpc hrm
  go_enter Tryd.func25, Tryd.ntmps25
  go_wp2_with fail
  refine hndc.mono ?_
  clear hndc
  rintro e w' ⟨rfl, rfl⟩
  go_wp2_with fail
  refine ho.mono ?_
  clear ho
  rintro e W1 ⟨rfl, hst⟩
  have HB1 := Lib.hid (HB.out.still hst)
  clear hst HB
  cases hov : l.over D with
  | true =>
    have HA2 := Lib.hid ((appendP_no (tx := tx) (z := 115) (by unfold appendE; rw [hov, if_pos (by simp)]) (by decide)).symm.trans HA.out)
    clear HA hov
    go_wp2_with fail
    go_ret
    refine ⟨L, ?_, ?_⟩
    · rw [← HA2.out]; rfl
    · rw [← HA2.out]; exact HB1.out
  | false =>
    obtain ⟨c0, c1, c2, c3, c4, c5, c6, c7, cf⟩ := wlCells HB1.out
    rw [HSQ.out] at c4
    cases hs : l.safe with
    | false =>
      rw [hs] at c6
      have HA2 := Lib.hid ((appendP_no (tx := tx) (z := 115) (by unfold appendE; rw [hov, hs, if_pos (by simp)]) (by decide)).symm.trans HA.out)
      clear HA hov hs c0 c1 c2 c3 c4 c5 c7
      go_wp2_with fail
      go_ret
      refine ⟨L, ?_, ?_⟩
      · rw [← HA2.out]; rfl
      · rw [← HA2.out]; exact HB1.out
    | true =>
      rw [hs] at c6
      have HEq := Lib.hid (show appendE D l tx.length = if nd = 0 then 111 else if mq < sq then 113 else if rm < pc + nd then 112 else 0 by unfold appendE; rw [hov, hs, if_neg (by simp), HN.out, HND.out, HSQ.out, HRM.out, HPLc.out])
      clear hs c0 c1 c2 c3 c5 c7
      by_cases h0 : nd = 0
      · subst h0
        have HA2 := Lib.hid ((appendP_no (tx := tx) (z := 111) (by rw [HEq.out, if_pos rfl]) (by decide)).symm.trans HA.out)
        clear HA hov HEq
        go_wp2_with fail
        go_ret
        refine ⟨L, ?_, ?_⟩
        · rw [← HA2.out]; rfl
        · rw [← HA2.out]; exact HB1.out
      · have h0e : (((nd : Nat) : Int) == 0) = false := by rw [beq_eq_false_iff_ne]; omega
        by_cases h1 : 4611686018427387904 < sq
        · have h1' : (4611686018427387904 : Int) < (sq : Int) := by omega
          have HA2 := Lib.hid ((appendP_no (tx := tx) (z := 113) (by rw [HEq.out, if_neg h0, if_pos (show mq < sq by unfold mq; exact h1)]) (by decide)).symm.trans HA.out)
          clear HA hov HEq h0
          go_wp2_with fail
          go_ret
          refine ⟨L, ?_, ?_⟩
          · rw [← HA2.out]; rfl
          · rw [← HA2.out]; exact HB1.out
        · have h1' : ¬ (4611686018427387904 : Int) < (sq : Int) := by omega
          have hLe := wLeft w W1 p lp L D l rest (by rw [HPLc.out, HRM.out]; exact k6) (by rw [HRM.out]; exact k1) HB1.out
          obtain ⟨lf, hlf⟩ : ∃ lf, leftN D l = lf := ⟨_, rfl⟩
          rw [hlf] at hLe
          have hlf2 : lf = rm - pc := by rw [← hlf]; unfold leftN; rw [hov, if_neg (by simp), HRM.out, HPLc.out]
          clear hlf
          go_wp2_with fail
          refine hLe.mono ?_
          clear hLe
          rintro e W2 ⟨rfl, hst⟩
          have HB2 := Lib.hid (HB1.out.still hst)
          clear hst HB1 c4 c6 cf
          by_cases h2 : rm < pc + nd
          · have h2' : (lf : Int) < (nd : Int) := by omega
            have HA2 := Lib.hid ((appendP_no (tx := tx) (z := 112) (by rw [HEq.out, if_neg h0, if_neg (show ¬ mq < sq by unfold mq; exact h1), if_pos h2]) (by decide)).symm.trans HA.out)
            clear HA hov HEq h0
            go_wp2_with fail
            go_ret
            refine ⟨L, ?_, ?_⟩
            · rw [← HA2.out]; rfl
            · rw [← HA2.out]; exact HB2.out
          · have h2' : ¬ (lf : Int) < (nd : Int) := by omega
            have HE := Lib.hid (show appendE D l tx.length = 0 by rw [HEq.out, if_neg h0, if_neg (show ¬ mq < sq by unfold mq; exact h1), if_neg h2])
            have h12 : 1 ≤ n ∧ n ≤ 4800 := by
              have := HND.out
              unfold needN at this
              split at this
              · omega
              · omega
            obtain ⟨c0, c1, c2, c3, c4, c5, c6, c7, cf⟩ := wlCells HB2.out
            rw [HEP.out] at c3
            rw [HSQ.out] at c4
            rw [HPLc.out] at c5
            have hll2 : lp < W2.heap.size := World.block_lt_of_cell? W2 _ c7
            obtain ⟨pn, hpn⟩ : ∃ pn, pc + nd = pn := ⟨_, rfl⟩
            obtain ⟨z2, hz2⟩ : ∃ z2, pn - 1 = z2 := ⟨_, rfl⟩
            obtain ⟨sq1, hsq1⟩ : ∃ s, sq + 1 = s := ⟨_, rfl⟩
            have hp1 : (pc : Int) + (nd : Int) = (pn : Int) := by omega
            have hp2 : (pn : Int) - 1 = (z2 : Int) := by omega
            have hp3 : (sq : Int) + 1 = (sq1 : Int) := by omega
            have hw1 : IntKind.i64.wrap (pn : Int) = (pn : Int) := wrapI64 _ (by omega) (by omega)
            have hw2 : IntKind.i64.wrap (z2 : Int) = (z2 : Int) := wrapI64 _ (by omega) (by omega)
            have hw3 : IntKind.i64.wrap (sq1 : Int) = (sq1 : Int) := wrapI64 _ (by omega) (by omega)
            have HPN := Lib.hid (show l.place + needN tx.length = pn by rw [HPLc.out, HN.out, HND.out]; exact hpn)
            have HSQ1 := Lib.hid (show l.seq + 1 = sq1 by rw [HSQ.out]; exact hsq1)
            obtain ⟨st, hst⟩ : ∃ st, startN ep rm = st := ⟨_, rfl⟩
            have hst1 : st ≤ 2 + rm := by
              rw [← hst]; unfold startN
              rcases Nat.mod_two_eq_zero_or_one ep with h | h <;> rw [h] <;> omega
            have HS0 := Lib.hid (fun (u : World) => wStart' ep rm u (by omega) (by omega))
            rw [hst] at HS0
            obtain ⟨a, ha⟩ : ∃ a, st + z2 = a := ⟨_, rfl⟩
            have ha1 : (st : Int) + (z2 : Int) = (a : Int) := by omega
            have ha2 : IntKind.i64.wrap (a : Int) = (a : Int) := wrapI64 _ (by omega) (by omega)
            have hal : a ≤ 8192 := by omega
            have HST := Lib.hid hst
            have HLA := Lib.hid (show lastA l tx = a by unfold lastA; rw [HEP.out, HRM.out, hst, HPLc.out, HN.out, HND.out]; omega)
            have hrx := HR.out
            clear hst ha HEq h0 hlf2 hov hsq1 c0 c1 c2 c6 c7
            by_cases hn480 : n ≤ 480
            · have hnd1 : nd = 1 := by rw [← HND.out]; exact need_one h12.1 hn480
              have hg : ¬ (1 : Int) < (nd : Int) := by omega
              have HAH := Lib.hid (show aheadP D l tx = (D, 0) by unfold aheadP; rw [if_neg (by rw [HN.out, HND.out]; omega)])
              have HLS := Lib.hid (show lastS l tx = ⟨tO, (ep : Int), (sq : Int), (z2 : Int), tx⟩ by unfold lastS; rw [if_neg (by rw [HN.out, HND.out]; omega), HEP.out, HSQ.out, HPN.out, hz2]; rfl)
              have HSX := Lib.hid (show Sec.may ⟨tO, (ep : Int), (sq : Int), (z2 : Int), tx⟩ = true from secAt_may (t := tO) (e := ep) (q := sq) (p := z2) mem_tags.2.2.2 k2 (by unfold mq; omega) k4 (by unfold mq; omega) (by omega) (by rw [HN.out]; exact hn480))
              have HNE := Lib.hid HN.out
              clear hpn hz2 hnd1
              go_wp2_with fail
              go_region
              rw [lit_O]
              generalize hb0 : W2.heap.size = b0
              generalize hU : (W2.alloc (.cells #[.string (str tO), .int .i64 (ep : Nat), .int .i64 (sq : Nat), .int .i64 (z2 : Nat), .slice ao n cap] 33 (0, 0))).drew = U
              have HBU := Lib.hid (show Bag w U (wl p L D lp l (.box b0 #[.string (str tO), .int .i64 (ep : Nat), .int .i64 (sq : Nat), .int .i64 (z2 : Nat), .slice ao n cap] 33 :: rest)) by rw [← hU]; exact wl_in (HB2.out.allocAt _ _ b0 hb0).drew)
              clear hU HB2 c3 c4 c5 cf hb0
              obtain ⟨q0, q1, q2, q3, q4, qf⟩ := cells5 (HBU.out.box 7 rfl)
              obtain ⟨c0, c1, c2, c3, c4, c5, c6, c7, cf⟩ := wlCells HBU.out
              obtain ⟨D2, x, hR⟩ : ∃ D2 x, lastP D a ⟨tO, (ep : Int), (sq : Int), (z2 : Int), tx⟩ = (D2, x) := ⟨_, _, rfl⟩
              have HX := Lib.hid hR
              rw [HRM.out] at c2
              rw [HEP.out] at c3
              clear hR c0 c1 c6 c7
              go_wp2_with fail
              refine wp_region_still_tail 14 (by kernel_rfl) (by kernel_rfl) ?_
              simp only [List.take_succ_cons, List.take_zero, List.drop_succ_cons, List.drop_zero]
              repeat still_step
              still_call (HS0.out U.drew)
              repeat still_step
              refine wpStill_nil ?_
              change wpList _ _ _ _ _ U.drew
              go_wp2_with fail
              refine (wLast w _ p lp L D l _ m a tO _ _ _ tx ao n cap HNE.out HSX.out hal HW.out (by omega) hf (hrx _ (wl_rest HBU.out.drew).tail) HT.out.1 HT.out.2 HBU.out.drew).mono ?_
              rintro e W5 ⟨L5, he, hB5⟩
              rw [HX.out] at he hB5
              obtain rfl : e = .returned (.int .i64 x) := he
              have HB5 := Lib.hid hB5
              clear hB5
              have HAA := Lib.hid (appendP_yes (tx := tx) HE.out HAH.out (show lastP D (lastA l tx) (lastS l tx) = (D2, x) by rw [HLA.out, HLS.out]; exact HX.out))
              clear HBU q0 q1 q2 q3 q4 qf c2 c3 c4 c5 cf HX HSX
              by_cases hx0 : x = 0
              · subst hx0
                have HA2 := Lib.hid ((if_pos rfl).symm.trans (HAA.out.symm.trans HA.out))
                have h5 := HB5.out
                rw [ref_zero] at h5
                have h6 : Bag w W5 (wl p L5 D2 lp l rest) := (wl_out h5).tail
                obtain ⟨_, _, _, _, d4, d5, _, _, df⟩ := wlCells h6
                rw [HSQ.out] at d4
                rw [HPLc.out] at d5
                have hll : lp < W5.heap.size := World.block_lt_of_cell? W5 _ d4
                have HB7 := Lib.hid (wlPut4 (wlPut5 h6 pn) sq1)
                clear h5 h6 HAA HB5
                go_wp2_with fail
                go_ret
                refine ⟨L5, ?_, ?_⟩
                · rw [← HA2.out]; rfl
                · rw [← HA2.out]
                  rw [HPN.out, HSQ1.out]
                  exact HB7.out
              · have hne : (x != 0) = true := by rw [bne_iff_ne]; exact hx0
                have HA2 := Lib.hid ((if_neg hx0).symm.trans (HAA.out.symm.trans HA.out))
                have HB7 := Lib.hid ((wl_out HB5.out).tail)
                clear HAA HB5 hx0
                go_wp2_with fail
                go_ret
                refine ⟨L5, ?_, ?_⟩
                · rw [← HA2.out]; rfl
                · rw [← HA2.out]; exact HB7.out
            · have hgt : 480 < n := Nat.lt_of_not_le hn480
              have hndm : nd = pcN n + 1 := by rw [← HND.out]; exact need_more hgt h12.2
              have hpn2 : 2 ≤ pcN n ∧ pcN n ≤ 10 := by unfold pcN; omega
              have hg : (1 : Int) < (nd : Int) := by omega
              have HLS := Lib.hid (show lastS l tx = ⟨tC, (ep : Int), (sq : Int), (z2 : Int), endB tx⟩ by unfold lastS; rw [if_pos (by rw [HN.out, HND.out]; omega), HEP.out, HSQ.out, HPN.out, hz2]; rfl)
              have HSX := Lib.hid (show Sec.may ⟨tC, (ep : Int), (sq : Int), (z2 : Int), endB tx⟩ = true from secAt_may (t := tC) (e := ep) (q := sq) (p := z2) mem_tags.2.2.1 k2 (by unfold mq; omega) k4 (by unfold mq; omega) (by omega) (by rw [end_len]; omega))
              have HNE := Lib.hid (end_len tx)
              obtain ⟨DP, xp, hRP⟩ : ∃ D2 x, aheadP D l tx = (D2, x) := ⟨_, _, rfl⟩
              have hRP2 : piecesP l.room l.seq l.epoch l.place tx (pcN n) 0 D = (DP, xp) := by
                have h := hRP
                unfold aheadP at h
                rw [if_pos (by rw [HN.out, HND.out]; omega), HN.out] at h
                exact h
              have HRP := Lib.hid hRP
              have hpwf := piecesP_wf l.room l.seq l.epoch l.place tx (pcN n) 0 m D HW.out
              rw [hRP2] at hpwf
              have HPW := Lib.hid hpwf
              have hpcs := fun (W' : World) (L' : Lay) (rest' : List It) (hr' : ∀ W', Bag w W' rest' → Rd W' ao tx) (h : Bag w W' (wl p L' D lp l rest')) => wPcs w W' p lp L' D l rest' m l.epoch l.place tx ao n cap HN.out hn1 hc
                (fun i hi => secAt_may mem_tags.2.1 (by rw [HEP.out]; exact k2) (by rw [HEP.out]; unfold mq; omega) (by rw [HSQ.out]; exact k4) (by rw [HSQ.out]; unfold mq; omega) (by rw [HPLc.out]; omega) (by rw [piece_len]; omega))
                (fun i hi => by rw [HEP.out, HRM.out, HST.out, HPLc.out]; omega) (by rw [HEP.out]; omega) (by rw [HSQ.out]; omega) (by rw [HRM.out]; exact k1) (by rw [HPLc.out]; omega) (by omega) HW.out (by omega) hf hr' HT.out.1 HT.out.2 h
              rw [hRP2, HEP.out, HPLc.out] at hpcs
              have HPCS := Lib.hid hpcs
              clear hRP hRP2 hpcs hpwf hpn hz2 hndm
              go_wp2_with fail
              go_region
              rw [lit_O]
              generalize hb0 : W2.heap.size = b0
              generalize hU : (W2.alloc (.cells #[.string (str tO), .int .i64 (ep : Nat), .int .i64 (sq : Nat), .int .i64 (z2 : Nat), .slice ao n cap] 33 (0, 0))).drew = U0
              have HBU0 := Lib.hid (show Bag w U0 (wl p L D lp l (.box b0 #[.string (str tO), .int .i64 (ep : Nat), .int .i64 (sq : Nat), .int .i64 (z2 : Nat), .slice ao n cap] 33 :: rest)) by rw [← hU]; exact wl_in (HB2.out.allocAt _ _ b0 hb0).drew)
              clear hU HB2 c3 c4 c5 cf hb0
              go_wp2_with fail
              refine (wBodyEnd tx ao n cap U0 HN.out (by omega) (hrx _ (wl_rest HBU0.out).tail) (HT.out.1.below HBU0.out.below HT.out.2) (Nat.lt_of_lt_of_le HT.out.2 HBU0.out.below.size)).mono ?_
              rintro e U1 ⟨g1, rfl, hg1, hO1, hb1⟩
              have HBU1 := Lib.hid (wl_in (HBU0.out.own hb1 hO1 hg1))
              clear HBU0 hO1 hg1 hb1
              obtain ⟨q0, q1, q2, q3, q4, qf⟩ := cells5 (HBU1.out.box 8 rfl)
              have hbl := HBU1.out.boxLt 8 rfl
              have h8 := (HBU1.out.put 8 rfl 0 (.string (str tC))).put 8 rfl 4 (.slice (some ⟨g1, 0, none⟩) 10 10)
              have HBU2 := Lib.hid (show Bag w ((U1.setCell ⟨b0, 0, none⟩ (.string (str tC))).setCell ⟨b0, 4, none⟩ (.slice (some ⟨g1, 0, none⟩) 10 10)) (wl p L D lp l (.mine 5 (some ⟨g1, 0, none⟩) 10 (endB tx) :: .box b0 #[.string (str tC), .int .i64 (ep : Nat), .int .i64 (sq : Nat), .int .i64 (z2 : Nat), .slice (some ⟨g1, 0, none⟩) 10 10] 33 :: rest)) from h8)
              clear h8 HBU1
              go_wp2_with fail
              rw [lit_C]
              generalize hU2 : (U1.setCell ⟨b0, 0, none⟩ (.string (str tC))).setCell ⟨b0, 4, none⟩ (.slice (some ⟨g1, 0, none⟩) 10 10) = U2 at HBU2 ⊢
              clear hU2 q0 q1 q2 q3 q4 qf hbl
              obtain ⟨c0, c1, c2, c3, c4, c5, c6, c7, cf⟩ := wlCells HBU2.out
              rw [HEP.out] at c3
              rw [HPLc.out] at c5
              have hpq := HPCS.out U2.drew L _ (fun W' h => hrx W' h.tail.tail) HBU2.out.drew
              clear c0 c1 c2 c4 c6 c7
              go_still_tail 10, (by kernel_rfl)
              go_wp2_with fail
              refine hpq.mono ?_
              clear hpq
              rintro e U3 ⟨L3, he, hB3⟩
              obtain rfl : e = .returned (.int .i64 xp) := he
              have HB3 := Lib.hid hB3
              clear hB3 HBU2 c3 c5 cf HPCS
              by_cases hxp : xp = 0
              · subst hxp
                have HAH := Lib.hid HRP.out
                have HBU := Lib.hid (show Bag w U3 (wl p L3 DP lp l (.mine 5 (some ⟨g1, 0, none⟩) 10 (endB tx) :: .box b0 #[.string (str tC), .int .i64 (ep : Nat), .int .i64 (sq : Nat), .int .i64 (z2 : Nat), .slice (some ⟨g1, 0, none⟩) 10 10] 33 :: rest)) by have h := HB3.out; rw [ref_zero] at h; exact h)
                clear HB3 HRP
                go_wp2_with fail
                obtain ⟨q0, q1, q2, q3, q4, qf⟩ := cells5 (HBU.out.box 8 rfl)
                obtain ⟨c0, c1, c2, c3, c4, c5, c6, c7, cf⟩ := wlCells HBU.out
                obtain ⟨D2, x, hR⟩ : ∃ D2 x, lastP DP a ⟨tC, (ep : Int), (sq : Int), (z2 : Int), (endB tx)⟩ = (D2, x) := ⟨_, _, rfl⟩
                have HX := Lib.hid hR
                rw [HRM.out] at c2
                rw [HEP.out] at c3
                clear hR c0 c1 c6 c7
                go_wp2_with fail
                refine wp_region_still_tail 14 (by kernel_rfl) (by kernel_rfl) ?_
                simp only [List.take_succ_cons, List.take_zero, List.drop_succ_cons, List.drop_zero]
                repeat still_step
                still_call (HS0.out U3.drew)
                repeat still_step
                refine wpStill_nil ?_
                change wpList _ _ _ _ _ U3.drew
                go_wp2_with fail
                refine (wLast w _ p lp L3 DP l _ (m + pcN n + 1) a tC _ _ _ (endB tx) (some ⟨g1, 0, none⟩) 10 10 HNE.out HSX.out hal HPW.out.1 (by omega) (by rw [HPW.out.2]; exact hf) (HBU.out.drew.mineRd 7 rfl) HT.out.1 HT.out.2 HBU.out.drew).mono ?_
                rintro e W5 ⟨L5, he, hB5⟩
                rw [HX.out] at he hB5
                obtain rfl : e = .returned (.int .i64 x) := he
                have HB5 := Lib.hid hB5
                clear hB5
                have HAA := Lib.hid (appendP_yes (tx := tx) HE.out HAH.out (show lastP DP (lastA l tx) (lastS l tx) = (D2, x) by rw [HLA.out, HLS.out]; exact HX.out))
                clear HBU q0 q1 q2 q3 q4 qf c2 c3 c4 c5 cf HX HSX
                by_cases hx0 : x = 0
                · subst hx0
                  have HA2 := Lib.hid ((if_pos rfl).symm.trans (HAA.out.symm.trans HA.out))
                  have h5 := HB5.out
                  rw [ref_zero] at h5
                  have h6 : Bag w W5 (wl p L5 D2 lp l rest) := (wl_out (wl_out h5).tail).tail
                  obtain ⟨_, _, _, _, d4, d5, _, _, df⟩ := wlCells h6
                  rw [HSQ.out] at d4
                  rw [HPLc.out] at d5
                  have hll : lp < W5.heap.size := World.block_lt_of_cell? W5 _ d4
                  have HB7 := Lib.hid (wlPut4 (wlPut5 h6 pn) sq1)
                  clear h5 h6 HAA HB5
                  go_wp2_with fail
                  go_ret
                  refine ⟨L5, ?_, ?_⟩
                  · rw [← HA2.out]; rfl
                  · rw [← HA2.out]
                    rw [HPN.out, HSQ1.out]
                    exact HB7.out
                · have hne : (x != 0) = true := by rw [bne_iff_ne]; exact hx0
                  have HA2 := Lib.hid ((if_neg hx0).symm.trans (HAA.out.symm.trans HA.out))
                  have HB7 := Lib.hid ((wl_out (wl_out HB5.out).tail).tail)
                  clear HAA HB5 hx0
                  go_wp2_with fail
                  go_ret
                  refine ⟨L5, ?_, ?_⟩
                  · rw [← HA2.out]; rfl
                  · rw [← HA2.out]; exact HB7.out
              · have hne : (xp != 0) = true := by rw [bne_iff_ne]; exact hxp
                have HA2 := Lib.hid ((appendP_mid HE.out HRP.out hxp).symm.trans HA.out)
                have HB7 := Lib.hid (wl_out (wl_out HB3.out).tail).tail
                clear HB3 hxp HRP
                go_wp2_with fail
                go_ret
                refine ⟨L3, ?_, ?_⟩
                · rw [← HA2.out]; rfl
                · rw [← HA2.out]; exact HB7.out
end Wl
end Go.Proofs.YthaiibfnjgfgjaaDoor
namespace Go.Proofs.YthaiibfnjgfgjaaDoor
open Go.RowKit
namespace Wl
theorem checkP_no {D : Dk} {l : Lg} {s : By} {z : Int} (h : checkE D l s.length = z) (hz : z ≠ 0) : checkP D l s = ⟨D, l, z⟩ := by
  unfold checkP
  rw [h, if_neg hz]
theorem checkP_mid {D D1 : Dk} {l : Lg} {s : By} {x : Int} (h : checkE D l s.length = 0) (h1 : statesP D l s = (D1, x)) (hx : x ≠ 0) : checkP D l s = ⟨D1, l.ref x, x⟩ := by
  unfold checkP
  rw [if_pos h, h1]
  simp only
  rw [if_neg hx]
theorem checkP_yes {D D1 D2 : Dk} {l : Lg} {s : By} {x : Int} (h : checkE D l s.length = 0) (h1 : statesP D l s = (D1, 0)) (h2 : lastP D1 ((l.epoch + 1) % 2) (superS l D.ls.length s) = (D2, x)) : checkP D l s = if x = 0 then ⟨D2, { l with epoch := l.epoch + 1, place := pcN s.length }, 0⟩ else ⟨D2, l.ref x, x⟩ := by
  unfold checkP
  rw [if_pos h, h1]
  simp only
  rw [if_pos trivial, h2]
theorem cell_alloc_old (w : World) (o : Obj) (b i : Nat) (h : b < w.heap.size) : (w.alloc o).cell? ⟨b, i, none⟩ = w.cell? ⟨b, i, none⟩ := by
  have h1 := alloc_old w o b h
  simp only [World.cell?, h1]
theorem wPieces' (n : Nat) (w : World) (h1 : n ≤ 1000000000000000) : Calls Tryd.prog 11 #[.int .i64 (n : Nat)] w fun e w' => e = .returned (.int .i64 (pcN n : Nat)) ∧ w' = w := (wPieces n w h1).mono fun _ _ h => ⟨h.1, h.2.symm⟩
set_option maxRecDepth 100000 in
set_option maxHeartbeats 4000000 in
theorem wCheck (w W : World) (p lp : Nat) (L : Lay) (D : Dk) (l : Lg) (rest : List It) (m : Nat) (s : By) (ao : Option Addr) (n cap : Nat) (hn : s.length = n) (hn1 : n ≤ 1000000000000) (hc : n ≤ cap) (hl : l.Ok) (hd1 : 1 ≤ D.ls.length) (hd : D.ls.length ≤ 8192)
   (hw : D.Wf m) (hm : m ≤ 400000000000) (hf : D.fs.length ≤ 1000000000000000) (hr : ∀ W', Bag w W' rest → Rd W' ao s) (ht : Tab w) (hT : 0 < w.heap.size) (hB : Bag w W (wl p L D lp l rest)) :
   Calls Tryd.prog 28 #[.pointer (some ⟨lp, 0, none⟩), .slice ao n cap] W (SafeR w p lp rest (checkP D l s)) := by
  obtain ⟨A, hA⟩ : ∃ A, checkP D l s = A := ⟨_, rfl⟩
  rw [hA]
  have ho := wOver w W p lp L D l rest hB
  obtain ⟨K, hKE⟩ : ∃ K, pcN n = K := ⟨_, rfl⟩
  have HPi := Lib.hid (fun (u : World) => wPieces' n u (by omega))
  rw [hKE] at HPi
  have hK0 : K ≤ 10000000000 := by rw [← hKE]; unfold pcN; omega
  obtain ⟨ep, hep⟩ : ∃ ep, l.epoch = ep := ⟨_, rfl⟩
  obtain ⟨sq, hsq⟩ : ∃ sq, l.seq = sq := ⟨_, rfl⟩
  obtain ⟨rm, hrm⟩ : ∃ rm, l.room = rm := ⟨_, rfl⟩
  obtain ⟨k1, k2, k3, k4, k5, _, _⟩ := hl
  rw [hep] at k2 k3
  rw [hsq] at k4 k5
  rw [hrm] at k1
  unfold mq at k3 k5
  have HA := Lib.hid hA
  have HB := Lib.hid hB
  have HN := Lib.hid hn
  have HW := Lib.hid hw
  have HR := Lib.hid hr
  have HT := Lib.hid (And.intro ht hT)
  have HKE := Lib.hid hKE
  have HEP := Lib.hid hep
  have HSQ := Lib.hid hsq
  have HRM := Lib.hid hrm
  have HD1 := Lib.hid hd1
  have HD := Lib.hid hd
  clear hA hB hn hw hr ht hT hKE hep hsq hrm hd1 hd
  go_enter Tryd.func28, Tryd.ntmps28
  go_wp2_with fail
  refine ho.mono ?_
  clear ho
  rintro e W1 ⟨rfl, hst⟩
  have HB1 := Lib.hid (HB.out.still hst)
  clear hst HB
  cases hov : l.over D with
  | true =>
    have HA2 := Lib.hid ((checkP_no (s := s) (z := 115) (by unfold checkE; rw [hov, if_pos (by simp)]) (by decide)).symm.trans HA.out)
    clear HA hov
    go_wp2_with fail
    go_ret
    refine ⟨L, ?_, ?_⟩
    · rw [← HA2.out]; rfl
    · rw [← HA2.out]; exact HB1.out
  | false =>
    obtain ⟨c0, c1, c2, c3, c4, c5, c6, c7, cf⟩ := wlCells HB1.out
    rw [HRM.out] at c2
    rw [HEP.out] at c3
    rw [HSQ.out] at c4
    cases hs : l.safe with
    | false =>
      rw [hs] at c6
      have HA2 := Lib.hid ((checkP_no (s := s) (z := 115) (by unfold checkE; rw [hov, hs, if_pos (by simp)]) (by decide)).symm.trans HA.out)
      clear HA hov hs c0 c1 c2 c3 c4 c5 c7
      go_wp2_with fail
      go_ret
      refine ⟨L, ?_, ?_⟩
      · rw [← HA2.out]; rfl
      · rw [← HA2.out]; exact HB1.out
    | true =>
      rw [hs] at c6
      have HEq := Lib.hid (show checkE D l s.length = if mq < sq ∨ mq ≤ ep then 113 else if rm < K + 11 then 112 else 0 by unfold checkE; rw [hov, hs, if_neg (by simp), HN.out, HKE.out, HSQ.out, HRM.out, HEP.out])
      clear hs c0 c1 c5 c7 hov
      by_cases h1 : 4611686018427387904 < sq
      · have h1' : (4611686018427387904 : Int) < (sq : Int) := by omega
        have HA2 := Lib.hid ((checkP_no (s := s) (z := 113) (by rw [HEq.out, if_pos (Or.inl (show mq < sq by unfold mq; exact h1))]) (by decide)).symm.trans HA.out)
        clear HA HEq c2
        go_wp2_with fail
        go_ret
        refine ⟨L, ?_, ?_⟩
        · rw [← HA2.out]; rfl
        · rw [← HA2.out]; exact HB1.out
      · have h1' : ¬ (4611686018427387904 : Int) < (sq : Int) := by omega
        by_cases h2 : 4611686018427387904 ≤ ep
        · have h2' : (4611686018427387904 : Int) ≤ (ep : Int) := by omega
          have HA2 := Lib.hid ((checkP_no (s := s) (z := 113) (by rw [HEq.out, if_pos (Or.inr (show mq ≤ ep by unfold mq; exact h2))]) (by decide)).symm.trans HA.out)
          clear HA HEq c2
          go_wp2_with fail
          go_ret
          refine ⟨L, ?_, ?_⟩
          · rw [← HA2.out]; rfl
          · rw [← HA2.out]; exact HB1.out
        · have h2' : ((4611686018427387904 : Int) ≤ (ep : Int)) = False := eq_false (by omega)
          have HB12 := Lib.hid (And.intro h1 (And.intro h2 (And.intro k3 k5)))
          have hepb : ep < 4611686018427387904 := by omega
          have hsqb : sq ≤ 4611686018427387904 := by omega
          clear h1 h2 k3 k5
          have hno : ¬ (mq < sq ∨ mq ≤ ep) := by unfold mq; omega
          have HEB := Lib.hid (And.intro hepb hsqb)
          clear hepb hsqb
          obtain ⟨z, hz⟩ : ∃ z, K + 11 = z := ⟨_, rfl⟩
          have hz1 : (K : Int) + 11 = (z : Int) := by omega
          have hz2 : IntKind.i64.wrap (z : Int) = (z : Int) := wrapI64 _ (by omega) (by omega)
          rw [hz] at HEq
          by_cases h3 : rm < z
          · have h3' : (rm : Int) < (z : Int) := by omega
            have HA2 := Lib.hid ((checkP_no (s := s) (z := 112) (by rw [HEq.out, if_neg hno, if_pos h3]) (by decide)).symm.trans HA.out)
            clear HA HEq hno hz
            go_wp2_with fail
            go_quiet (first
              | (go_at_call 11; exact Calls.quiet_of_same (HPi.out _)))
            go_wp2_with fail
            go_ret
            refine ⟨L, ?_, ?_⟩
            · rw [← HA2.out]; rfl
            · rw [← HA2.out]; exact HB1.out.drewN _
          · have h3' : ¬ (rm : Int) < (z : Int) := by omega
            have HE := Lib.hid (show checkE D l s.length = 0 by rw [HEq.out, if_neg hno, if_neg h3])
            obtain ⟨hepb, hsqb⟩ := HEB.out
            obtain ⟨e1, he1⟩ : ∃ e1, ep + 1 = e1 := ⟨_, rfl⟩
            have hq1 : (ep : Int) + 1 = (e1 : Int) := by omega
            have hq2 : IntKind.i64.wrap (e1 : Int) = (e1 : Int) := wrapI64 _ (by omega) (by omega)
            obtain ⟨DP, xp, hRP⟩ : ∃ D2 x, statesP D l s = (D2, x) := ⟨_, _, rfl⟩
            have hRP2 : piecesP l.room l.seq e1 0 s (pcN n) 0 D = (DP, xp) := by
              have h := hRP
              unfold statesP at h
              rw [HN.out, HEP.out, he1] at h
              exact h
            have HRP := Lib.hid hRP
            have hpwf := piecesP_wf l.room l.seq e1 0 s (pcN n) 0 m D HW.out
            have hpln := piecesP_len l.room l.seq e1 0 s (pcN n) 0 D
            rw [hRP2] at hpwf hpln
            have HPW := Lib.hid hpwf
            have HPL := Lib.hid hpln
            have hst1 : startN e1 rm ≤ 2 + rm := by
              unfold startN
              rcases Nat.mod_two_eq_zero_or_one e1 with h | h <;> rw [h] <;> omega
            have hpcs := fun (W' : World) (L' : Lay) (h : Bag w W' (wl p L' D lp l rest)) => wPcs w W' p lp L' D l rest m e1 0 s ao n cap HN.out hn1 hc
              (fun i hi => secAt_may mem_tags.2.1 (by omega) (by unfold mq; omega) (by rw [HSQ.out]; exact k4) (by rw [HSQ.out]; unfold mq; omega) (by rw [HKE.out] at hi; omega) (by rw [piece_len]; omega))
              (fun i hi => by rw [HRM.out]; rw [HKE.out] at hi; omega) (by omega) (by rw [HSQ.out]; omega) (by rw [HRM.out]; exact k1) (by omega) (by rw [HKE.out]; omega) HW.out (by omega) hf HR.out HT.out.1 HT.out.2 h
            rw [hRP2] at hpcs
            have HPCS := Lib.hid hpcs
            clear hRP hRP2 hpcs hpwf hpln HEq hno hst1 hepb hsqb
            go_wp2_with fail
            go_quiet (first
              | (go_at_call 11; exact Calls.quiet_of_same (HPi.out _)))
            have HB2 := Lib.hid (HB1.out.drewN nq)
            generalize W1.drewN nq = W2 at HB2 ⊢
            clear HB1 c2 c3 c4 c6 cf
            obtain ⟨_, _, _, c3, _, _, _, _, cf⟩ := wlCells HB2.out
            rw [HEP.out] at c3
            go_wp2_with fail
            refine (HPCS.out W2 L HB2.out).mono ?_
            clear HPCS
            rintro e W3 ⟨L3, he, hB3⟩
            obtain rfl : e = .returned (.int .i64 xp) := he
            have HB3 := Lib.hid hB3
            clear hB3 HB2 c3 cf
            by_cases hxp : xp = 0
            · subst hxp
              have HAH := Lib.hid HRP.out
              have HB4 := Lib.hid (show Bag w W3 (wl p L3 DP lp l rest) by have h := HB3.out; rw [ref_zero] at h; exact h)
              clear HB3 HRP
              obtain ⟨c0, _, _, _, c4, _, _, _, cf⟩ := wlCells HB4.out
              rw [HSQ.out] at c4
              have hll3 : lp < W3.heap.size := World.block_lt_of_cell? W3 _ c4
              have HC4 := Lib.hid (fun (u : World) (hb : Below W3.heap.size W3 u) => wlCells (HB4.out.call hb))
              obtain ⟨nn, hnn⟩ : ∃ nn, DP.ls.length = nn := ⟨_, rfl⟩
              have hnn2 : D.ls.length = nn := by rw [← HPL.out]; exact hnn
              have HNN := Lib.hid hnn2
              have hSe := fun (u : World) (h : Bag w u (wl p L3 DP lp l rest)) => dkSectors (by rw [hnn, ← hnn2]; exact HD1.out) h
              rw [hnn] at hSe
              have HSe := Lib.hid hSe
              have HBS := Lib.hid (show ∀ u : World, Below W3.heap.size W3 u → Calls Tryd.prog 48 #[.int .i64 (nn : Nat), .slice ao n cap] u fun e W5 => ∃ g, e = .returned (.slice (some ⟨g, 0, none⟩) 16 16) ∧ u.heap.size ≤ g ∧ Own W5 g 16 5 (superB nn s) ∧ Below u.heap.size u W5 ∧ W5.cell? ⟨lp, 0, none⟩ = some (.pointer (some ⟨p, 0, none⟩)) ∧ W5.cell? ⟨lp, 4, none⟩ = some (.int .i64 (sq : Nat)) ∧ (∀ i, W5.frozen? ⟨lp, i, none⟩ = false) ∧ lp < W5.heap.size ∧ ∀ (b : Nat) (cs : Array Value) (t : TypeId), u.heap[b]? = some (.cells cs t (0, 0)) → W5.heap[b]? = some (.cells cs t (0, 0)) from fun u hb => by
                refine (wBodySuper nn s ao n cap u (by rw [← hnn2]; exact HD.out) HN.out (by have := HKE.out; unfold pcN at this; omega) ((HR.out W3 (wl_rest HB4.out)).on hb) ((HT.out.1.below HB4.out.below HT.out.2).below hb (Nat.lt_of_lt_of_le HT.out.2 HB4.out.below.size)) (Nat.lt_of_lt_of_le (Nat.lt_of_lt_of_le HT.out.2 HB4.out.below.size) hb.size)).mono ?_
                rintro e W5 ⟨g, h1, h2, h3, h4⟩
                obtain ⟨y0, _, _, _, y4, _, _, _, yf⟩ := HC4.out W5 (hb.trans (h4.mono hb.size))
                rw [HSQ.out] at y4
                exact ⟨g, h1, h2, h3, h4, y0, y4, yf, World.block_lt_of_cell? W5 _ y4, fun b cs t hx => (h4.block b (lt_of_heap hx)).trans hx⟩)
              clear hnn hnn2 hSe
              obtain ⟨hepb, hsqb⟩ := HEB.out
              have hem : (e1 : Int).tmod 2 = (e1 : Int) % 2 := Int.tmod_eq_emod_of_nonneg (by omega)
              obtain ⟨pa, hpa⟩ : ∃ pa, e1 % 2 = pa := ⟨_, rfl⟩
              have hpa1 : (e1 : Int) % 2 = (pa : Int) := by omega
              have hpa2 : pa ≤ 1 := by omega
              clear hepb hsqb
              go_wp2_with fail
              go_region_held3 (fun w' => w'.cell? ⟨lp, 4, none⟩ = some (.int .i64 (sq : Nat)) ∧ w'.cell? ⟨lp, 0, none⟩ = some (.pointer (some ⟨p, 0, none⟩))) (((try simp only [cell_drew]); (try simp only [cell_far _ _ _ _ _ _ (Nat.ne_of_lt hll3)]); (try simp only [cell_far _ _ _ _ _ _ (Nat.ne_of_lt yl)]); (try simp only [cell_alloc_old _ _ _ _ hll3]); (try simp only [cell_alloc_old _ _ _ _ yl]); (try simp only [cell_drew]); (refine ⟨?_, ?_⟩ <;> with_reducible assumption))) ((first
                | (go_at_call 49; refine (HSe.out _ ?_).mono ?_; (first | exact HB4.out.drew | exact (HB4.out.call (fresh1 W3 _)).drew); rintro e w' ⟨rfl, hw⟩; obtain rfl := hw)
                | (go_at_call 48; refine (HBS.out _ ?_).mono ?_; (first | exact (Below.refl _ W3).drew | exact (fresh1 W3 _).drew); rintro e W5 ⟨g5, rfl, hg5, hO5, hb5, y0, y4, yf, yl, hk⟩; (try (have hx5 := hk W3.heap.size _ _ (heap_alloc_new W3 (.cells #[.string { data := #[] }, .int .i64 0, .int .i64 0, .int .i64 0, .slice none 0 0] 33 (0, 0))); obtain ⟨z0, z1, z2, z3, z4, zf⟩ := cells5 hx5; have zl : W3.heap.size < W5.heap.size := World.block_lt_of_cell? W5 _ z0)))))
              all_goals
                rw [lit_S]
                first
                  | (generalize hb0 : W5.heap.size = b0
                     generalize hU : W5.alloc (.cells #[.string (str tS), .int .i64 (e1 : Nat), .int .i64 (sq : Nat), .int .i64 (pa : Nat), .slice (some ⟨g5, 0, none⟩) 16 16] 33 (0, 0)) = U
                     have HBU := Lib.hid (show Bag w U (wl p L3 DP lp l (.box b0 #[.string (str tS), .int .i64 (e1 : Nat), .int .i64 (sq : Nat), .int .i64 (pa : Nat), .slice (some ⟨g5, 0, none⟩) 16 16] 33 :: .mine 5 (some ⟨g5, 0, none⟩) 16 (superB nn s) :: rest)) by rw [← hU]; exact wl_in ((wl_in (HB4.out.drew.own hb5 hO5 hg5)).allocAt _ _ b0 hb0)))
                  | (generalize hU : ((((W5.setCell ⟨W3.heap.size, 0, none⟩ (.string (str tS))).setCell ⟨W3.heap.size, 1, none⟩ (.int .i64 (e1 : Nat))).setCell ⟨W3.heap.size, 2, none⟩ (.int .i64 (sq : Nat))).setCell ⟨W3.heap.size, 3, none⟩ (.int .i64 (pa : Nat))).setCell ⟨W3.heap.size, 4, none⟩ (.slice (some ⟨g5, 0, none⟩) 16 16) = U
                     have HBU := Lib.hid (show Bag w U (wl p L3 DP lp l (.box W3.heap.size #[.string (str tS), .int .i64 (e1 : Nat), .int .i64 (sq : Nat), .int .i64 (pa : Nat), .slice (some ⟨g5, 0, none⟩) 16 16] 33 :: .mine 5 (some ⟨g5, 0, none⟩) 16 (superB nn s) :: rest)) by rw [← hU]; exact (((wl_in (HB4.out.alloc #[.string { data := #[] }, .int .i64 0, .int .i64 0, .int .i64 0, .slice none 0 0] 33)).drew.own hb5 hO5 hg5).store 8 rfl [.string (str tS), .int .i64 (e1 : Nat), .int .i64 (sq : Nat), .int .i64 (pa : Nat), .slice (some ⟨g5, 0, none⟩) 16 16] rfl).perm (List.perm_middle (l₁ := wl p L3 DP lp l [.box W3.heap.size #[.string (str tS), .int .i64 (e1 : Nat), .int .i64 (sq : Nat), .int .i64 (pa : Nat), .slice (some ⟨g5, 0, none⟩) 16 16] 33]) (l₂ := rest)).symm)
                     generalize W3.heap.size = b0 at HBU ⊢)
                clear hU hb5 hO5 hg5 y0 y4 yf yl hk HB4 c0 c4 cf hll3 HSe HBS HC4
                obtain ⟨q0, q1, q2, q3, q4, qf⟩ := cells5 (HBU.out.box 7 rfl)
                obtain ⟨hepb, hsqb⟩ := HEB.out
                have HSX := Lib.hid (show Sec.may ⟨tS, (e1 : Int), (sq : Int), (pa : Int), superB nn s⟩ = true from secAt_may (t := tS) (e := e1) (q := sq) (p := pa) mem_tags.1 (by omega) (by unfold mq; omega) k4 (by unfold mq; omega) (by omega) (by rw [super_len]; omega))
                have HSS := Lib.hid (show superS l D.ls.length s = ⟨tS, (e1 : Int), (sq : Int), (pa : Int), superB nn s⟩ by unfold superS; rw [HEP.out, HSQ.out, HNN.out, he1, hpa]; rfl)
                have HPA := Lib.hid (show (l.epoch + 1) % 2 = pa by rw [HEP.out, he1]; exact hpa)
                have HE1 := Lib.hid (show l.epoch + 1 = e1 by rw [HEP.out]; exact he1)
                obtain ⟨D2, x, hR⟩ : ∃ D2 x, lastP DP pa ⟨tS, (e1 : Int), (sq : Int), (pa : Int), superB nn s⟩ = (D2, x) := ⟨_, _, rfl⟩
                have HX := Lib.hid hR
                clear hR hepb hsqb
                go_wp2_with fail
                refine (wLast w U p lp L3 DP l _ (m + pcN n + 1) pa tS _ _ _ (superB nn s) (some ⟨g5, 0, none⟩) 16 16 (super_len _ _) HSX.out (by omega) HPW.out.1 (by have := HKE.out; omega) (by rw [HPW.out.2]; exact hf) (HBU.out.mineRd 8 rfl) HT.out.1 HT.out.2 HBU.out).mono ?_
                rintro e W7 ⟨L7, he, hB7⟩
                rw [HX.out] at he hB7
                obtain rfl : e = .returned (.int .i64 x) := he
                have HB7 := Lib.hid hB7
                clear hB7
                have HAA := Lib.hid (checkP_yes (s := s) HE.out HAH.out (show lastP DP ((l.epoch + 1) % 2) (superS l D.ls.length s) = (D2, x) by rw [HPA.out, HSS.out]; exact HX.out))
                clear HBU q0 q1 q2 q3 q4 qf HX HSX
                by_cases hx0 : x = 0
                · subst hx0
                  have HA2 := Lib.hid ((if_pos rfl).symm.trans (HAA.out.symm.trans HA.out))
                  have h5 := HB7.out
                  rw [ref_zero] at h5
                  have h6 : Bag w W7 (wl p L7 D2 lp l rest) := (wl_out (wl_out h5).tail).tail
                  obtain ⟨_, _, _, d3, _, d5, _, _, df⟩ := wlCells h6
                  have hll : lp < W7.heap.size := World.block_lt_of_cell? W7 _ d3
                  have HB9 := Lib.hid (wlPut5 (wlPut3 h6 e1) K)
                  clear h5 h6 HAA HB7
                  go_wp2_with fail
                  refine (HPi.out W7).mono ?_
                  rintro e w' ⟨rfl, hw⟩
                  obtain rfl := hw
                  go_wp2_with fail
                  go_ret
                  refine ⟨L7, ?_, ?_⟩
                  · rw [← HA2.out]; rfl
                  · rw [← HA2.out]
                    rw [HN.out, HKE.out, HE1.out]
                    exact HB9.out
                · have hne : (x != 0) = true := by rw [bne_iff_ne]; exact hx0
                  have HA2 := Lib.hid ((if_neg hx0).symm.trans (HAA.out.symm.trans HA.out))
                  have HB9 := Lib.hid ((wl_out (wl_out HB7.out).tail).tail)
                  clear HAA HB7 hx0
                  go_wp2_with fail
                  go_ret
                  refine ⟨L7, ?_, ?_⟩
                  · rw [← HA2.out]; rfl
                  · rw [← HA2.out]; exact HB9.out
            · have hne : (xp != 0) = true := by rw [bne_iff_ne]; exact hxp
              have HA2 := Lib.hid ((checkP_mid HE.out HRP.out hxp).symm.trans HA.out)
              clear hxp HRP
              go_wp2_with fail
              go_ret
              refine ⟨L3, ?_, ?_⟩
              · rw [← HA2.out]; rfl
              · rw [← HA2.out]; exact HB3.out
end Wl
end Go.Proofs.YthaiibfnjgfgjaaDoor
namespace Go.Proofs.YthaiibfnjgfgjaaDoor
open Go.RowKit
namespace Wl
def Sup.val (s : Sup) : Value := .agg #[.int .i64 (s.epoch : Nat), .int .i64 (s.seq : Nat), .int .i64 (s.pieces : Nat), .int .i64 (s.len : Nat), .int .u32 (n32 s.sum)]
structure Sup.Ok (s : Sup) (room : Nat) : Prop where
  rle : room ≤ 4095
  fit : s.pieces + 11 ≤ room
  pcs : s.pieces = pcN s.len
  e0 : 1 ≤ s.epoch
  e1 : s.epoch ≤ mq
  q0 : 1 ≤ s.seq
  q1 : s.seq ≤ mq
theorem stateP_succ (room : Nat) (s : Sup) (k i : Nat) (out : By) (D : Dk) : stateP room s (k + 1) i out D = if D.readE ((startN s.epoch room + i : Nat) : Int) = 0 then
      if pieceOk (D.readB ((startN s.epoch room + i : Nat) : Int)) s i out.length then stateP room s k (i + 1) (out ++ rightB (D.readB ((startN s.epoch room + i : Nat) : Int)) tagD (s.epoch : Int) (s.seq : Int) (i : Int)) (D.readD ((startN s.epoch room + i : Nat) : Int))
      else ⟨D.readD ((startN s.epoch room + i : Nat) : Int), 0, false, []⟩
    else ⟨D.readD ((startN s.epoch room + i : Nat) : Int), D.readE ((startN s.epoch room + i : Nat) : Int), false, []⟩ := rfl
theorem readB_len {D : Dk} {m a : Nat} (hw : D.Wf m) (ha : a < D.ls.length) (he : D.readE (a : Int) = 0) : (D.readB (a : Int)).length = 512 := by
  unfold Dk.readB
  rw [if_pos he]
  exact hw.latest a ha
def StR (w : World) (p : Nat) (rest : List It) (t : Sta) (e : Ending) (W' : World) : Prop := ∃ L' ao cap, e = .returned (.tuple #[.slice ao t.b.length cap, .bool t.ok, .int .i64 t.e]) ∧ Bag w W' (.mine 5 ao cap t.b :: dkl p L' t.D rest)
theorem dkl_mv {w W : World} {x y : It} {p : Nat} {L : Lay} {D : Dk} {rest : List It} (h : Bag w W (dkl p L D (x :: y :: rest))) : Bag w W (dkl p L D (y :: x :: rest)) :=
  h.perm ((List.Perm.swap y x rest).append_left (dkl p L D []))
theorem dkl_swapOut {w W : World} {x y z v : It} {p : Nat} {L : Lay} {D : Dk} {rest : List It} (h : Bag w W (x :: y :: dkl p L D (z :: v :: rest))) : Bag w W (y :: dkl p L D (v :: rest)) := by
  have h1 : Bag w W (dkl p L D (z :: y :: v :: rest)) := dkl_mv (dkl_in h.tail)
  exact dkl_out (dkl_out h1).tail
set_option maxRecDepth 100000 in
set_option maxHeartbeats 4000000 in
theorem wSt (w W : World) (p : Nat) (L : Lay) (D : Dk) (rest : List It) (m n : Nat) (s : Sup) (hs : s.Ok (roomN n)) (hn : D.ls.length = n) (hn0 : 32 ≤ n) (hn1 : n ≤ 8192)
   (hw : D.Wf m) (hm : m ≤ 400000000000) (hf : D.fs.length ≤ 1000000000000000) (ht : Tab w) (hT : 0 < w.heap.size) (hB : Bag w W (dkl p L D rest)) :
   Calls Tryd.prog 53 #[s.val, .pointer (some ⟨p, 0, none⟩), .int .i64 (roomN n : Nat)] W (StR w p rest (stateP (roomN n) s s.pieces 0 [] D)) := by
  obtain ⟨i0, hi0, hz0, hz1, hz2⟩ := info_parts info_u8
  obtain ⟨T, hTe⟩ : ∃ T, stateP (roomN n) s s.pieces 0 [] D = T := ⟨_, rfl⟩
  rw [hTe]
  obtain ⟨r1, r2, r3, r4, r5, r6, r7⟩ := hs
  obtain ⟨rm, hrm⟩ : ∃ rm, roomN n = rm := ⟨_, rfl⟩
  rw [hrm] at r1 r2 hTe ⊢
  have hlt8 : ∀ i, i < s.pieces → startN s.epoch rm + i < n := fun i hi => by rw [← hrm]; exact start_lt hn0 (by omega)
  have HLT := Lib.hid hlt8
  have HTE := Lib.hid hTe
  clear hTe hrm hlt8
  unfold Sup.val
  obtain ⟨ep, hep⟩ : ∃ ep, s.epoch = ep := ⟨_, rfl⟩
  obtain ⟨sq, hsq⟩ : ∃ sq, s.seq = sq := ⟨_, rfl⟩
  obtain ⟨K, hK⟩ : ∃ K, s.pieces = K := ⟨_, rfl⟩
  obtain ⟨ln, hln⟩ : ∃ ln, s.len = ln := ⟨_, rfl⟩
  obtain ⟨sm, hsm⟩ : ∃ sm, s.sum = sm := ⟨_, rfl⟩
  rw [hep, hsq, hK, hln, hsm]
  rw [hK] at r2
  rw [hK, hln] at r3
  rw [hep] at r4 r5
  rw [hsq] at r6 r7
  unfold mq at r5 r7
  have hKl : K * 480 < ln + 480 ∧ ln ≤ K * 480 := by rw [r3]; unfold pcN; omega
  have HS0 := Lib.hid (fun (u : World) => wStart' ep rm u (by omega) (by omega))
  have hst1 : startN ep rm ≤ 2 + rm := by
    unfold startN
    rcases Nat.mod_two_eq_zero_or_one ep with h | h <;> rw [h] <;> omega
  obtain ⟨st, hst⟩ : ∃ st, startN ep rm = st := ⟨_, rfl⟩
  rw [hst] at HS0 hst1
  rw [hep, hst, hK] at HLT
  have HB := Lib.hid hB
  have HN := Lib.hid hn
  have HW := Lib.hid hw
  have HT := Lib.hid (And.intro ht hT)
  have HEP := Lib.hid hep
  have HSQ := Lib.hid hsq
  have HK := Lib.hid hK
  have HLN := Lib.hid hln
  have HSM := Lib.hid hsm
  have HST := Lib.hid hst
  have HBD := Lib.hid (And.intro r5 r7)
  clear hB hn hw ht hT hep hsq hK hln hsm hst r3 r5 r7
  go_enter Tryd.func53, Tryd.ntmps53
  go_wp2_with fail
  generalize hU : W.alloc (.cells #[.int .i64 (ep : Nat), .int .i64 (sq : Nat), .int .i64 (K : Nat), .int .i64 (ln : Nat), .int .u32 (n32 sm)] 91 (0, 0)) = U
  generalize hq : W.heap.size = q
  have HB0 := Lib.hid (show Bag w U (.lst 5 1 (.slice none 0 0) 0 (bts []) :: dkl p L D (.box q #[.int .i64 (ep : Nat), .int .i64 (sq : Nat), .int .i64 (K : Nat), .int .i64 (ln : Nat), .int .u32 (n32 sm)] 91 :: rest)) by rw [← hU]; exact (dkl_in (HB.out.allocAt _ _ q hq)).nil _ _)
  clear HB hU hq
  go_loopw [9, 17] (fun v t wr => ∃ (i k : Nat) (out : By) (D' : Dk) (L' : Lay), i ≤ K ∧ t = .int .i64 i ∧ out.length = k ∧ k = min (i * 480) ln ∧ D'.Wf (m + i) ∧ D'.ls.length = n ∧ D'.fs = D.fs ∧ stateP rm s (K - i) i out D' = T ∧ Bag w wr (.lst 5 1 v k (bts out) :: dkl p L' D' (.box q #[.int .i64 (ep : Nat), .int .i64 (sq : Nat), .int .i64 (K : Nat), .int .i64 (ln : Nat), .int .u32 (n32 sm)] 91 :: rest))) (fun _ t _ => K - (intOf t).toNat)
  case atStart => exact ⟨0, 0, [], D, L, Nat.zero_le _, rfl, rfl, by simp, HW.out, HN.out, rfl, by have h := HTE.out; rw [HK.out] at h; exact h, HB0.out⟩
  case round =>
    obtain ⟨i, k, out, D', L', hi, rfl, hok, hkk, hW, hDn, hF, hP, hB⟩ := hrel
    clear HB0
    have HB := Lib.hid hB
    have HOK := Lib.hid hok
    have HW' := Lib.hid hW
    have HDN := Lib.hid hDn
    have HF := Lib.hid hF
    have HP := Lib.hid hP
    have HKK := Lib.hid hkk
    have hkle : k ≤ ln := by omega
    clear hB hok hW hDn hF hP hkk
    obtain ⟨av, cv, rfl, hcv⟩ := HB.out.lstForm 0 rfl
    by_cases hlt : i < K
    · obtain ⟨q0, q1, q2, q3, q4, qf⟩ := cells5 (HB.out.box 7 rfl)
      have HKI := Lib.hid (show k = i * 480 by have := HKK.out; omega)
      have hkl : k < ln := by have := HKK.out; omega
      obtain ⟨a, ha⟩ : ∃ a, st + i = a := ⟨_, rfl⟩
      have ha1 : (st : Int) + (i : Int) = (a : Int) := by omega
      have ha2 : IntKind.i64.wrap (a : Int) = (a : Int) := wrapI64 _ (by omega) (by omega)
      have han : a < n := by rw [← ha]; exact HLT.out i hlt
      have hstep : (if D'.readE (a : Int) = 0 then if pieceOk (D'.readB (a : Int)) s i k then stateP rm s (K - (i + 1)) (i + 1) (out ++ rightB (D'.readB (a : Int)) tagD (ep : Int) (sq : Int) (i : Int)) (D'.readD (a : Int)) else ⟨D'.readD (a : Int), 0, false, []⟩ else ⟨D'.readD (a : Int), D'.readE (a : Int), false, []⟩) = T := by
        have h := HP.out
        rw [show K - i = (K - (i + 1)) + 1 by omega, stateP_succ, HEP.out, HST.out, ha, HOK.out, HSQ.out] at h
        exact h
      have hrd := dkRead w wr p L' D' (.lst 5 1 (.slice av k cv) k (bts out) :: .box q #[.int .i64 (ep : Nat), .int .i64 (sq : Nat), .int .i64 (K : Nat), .int .i64 (ln : Nat), .int .u32 (n32 sm)] 91 :: rest) (m + i) (a : Int) HW'.out (by omega) (by rw [HF.out]; exact hf) (by omega) (by omega) (dkl_in HB.out)
      obtain ⟨x, hx⟩ : ∃ x, D'.readE (a : Int) = x := ⟨_, rfl⟩
      obtain ⟨b, hb⟩ : ∃ b, D'.readB (a : Int) = b := ⟨_, rfl⟩
      obtain ⟨N, hN⟩ : ∃ N, b.length = N := ⟨_, rfl⟩
      have hN5 : x = 0 → N = 512 := fun h0 => by rw [← hN, ← hb]; exact readB_len HW'.out (by rw [HDN.out]; exact han) (by rw [hx]; exact h0)
      unfold ReadR at hrd
      rw [hx, hb, hN] at hrd
      rw [hx, hb] at hstep
      have HX := Lib.hid hx
      have HBB := Lib.hid hb
      have HNN := Lib.hid hN
      have HN5 := Lib.hid hN5
      have HSTEP := Lib.hid hstep
      have HRD := Lib.hid hrd
      clear hx hb hN hN5 hstep hrd ha
      go_wp2_with fail
      refine (HS0.out wr).mono ?_
      rintro e w' ⟨rfl, hw⟩
      obtain rfl := hw
      go_wp2_with fail
      refine HRD.out.mono ?_
      clear HRD q0 q1 q2 q3 q4 qf
      rintro e W1 ⟨ar, cr, rfl, hB1⟩
      have hB2 : Bag w W1 (.lst 5 1 (.slice av k cv) k (bts out) :: dkl p L' (D'.readD (a : Int)) (.mine 5 ar cr b :: .box q #[.int .i64 (ep : Nat), .int .i64 (sq : Nat), .int .i64 (K : Nat), .int .i64 (ln : Nat), .int .u32 (n32 sm)] 91 :: rest)) := dkl_out (dkl_mv (dkl_in hB1))
      have HB2 := Lib.hid hB2
      clear hB1 hB2 HB
      by_cases hx0 : x = 0
      · subst hx0
        have hN := HN5.out rfl
        have hbl : b.length = 512 := by rw [HNN.out]; exact hN
        subst hN
        have HSTEP2 := Lib.hid ((if_pos rfl).symm.trans HSTEP.out)
        have HBL := Lib.hid hbl
        clear HSTEP HN5 hbl
        obtain ⟨q0, q1, q2, q3, q4, qf⟩ := cells5 (HB2.out.box 8 rfl)
        have hcr := HB2.out.mineLe 7 rfl
        rw [HBL.out] at hcr
        obtain ⟨ok, hok⟩ : ∃ ok, rightO b tD (ep : Int) (sq : Int) (i : Int) = ok := ⟨_, rfl⟩
        obtain ⟨pt, hpt⟩ : ∃ pt, rightB b tD (ep : Int) (sq : Int) (i : Int) = pt := ⟨_, rfl⟩
        obtain ⟨pl, hpl⟩ : ∃ pl, pt.length = pl := ⟨_, rfl⟩
        have hri := secRight b ar 512 cr tD (ep : Int) (sq : Int) (i : Int) W1 HBL.out hcr (HB2.out.mineRd 7 rfl) (HT.out.1.below HB2.out.below HT.out.2) (Nat.lt_of_lt_of_le HT.out.2 HB2.out.below.size)
        rw [hok, hpt, hpl] at hri
        have hpk : pieceOk b s i k = (ok && (pl == min 480 (ln - k))) := by
          unfold pieceOk
          rw [HEP.out, HSQ.out, HLN.out]
          show (rightO b tD (ep : Int) (sq : Int) (i : Int) && ((rightB b tD (ep : Int) (sq : Int) (i : Int)).length == min 480 (ln - k))) = _
          rw [hok, hpt, hpl]
        have hst2 : (if (ok && (pl == min 480 (ln - k))) = true then stateP rm s (K - (i + 1)) (i + 1) (out ++ pt) (D'.readD (a : Int)) else ⟨D'.readD (a : Int), 0, false, []⟩) = T := by
          have h := HSTEP2.out
          rw [hpk] at h
          have e : rightB b tagD (ep : Int) (sq : Int) (i : Int) = pt := hpt
          rw [e] at h
          exact h
        have HST2 := Lib.hid hst2
        have HPLn := Lib.hid hpl
        have HRI := Lib.hid hri
        clear hok hpt hpl hri hpk hst2 HSTEP2
        go_wp2_with fail
        rw [lit_D]
        refine HRI.out.mono ?_
        clear HRI q0 q1 q2 q3 q4 qf
        rintro e W2 ⟨ap, cp, rfl, Mx, hbw⟩
        have HB3 := Lib.hid (HB2.out.mine hbw Mx)
        clear Mx hbw HB2
        obtain ⟨q0, q1, q2, q3, q4, qf⟩ := cells5 (HB3.out.box 9 rfl)
        cases ok with
        | false =>
          have HT2 := Lib.hid ((if_neg (by simp)).symm.trans HST2.out)
          clear HST2
          go_wp2_with fail
          go_ret3
          refine ⟨L', none, 0, ?_, ?_⟩
          · rw [← HT2.out]; rfl
          · rw [← HT2.out]; exact ((dkl_out ((HB3.out.tail.tail)) |> (fun h => dkl_out h.tail)).tail).mineNil _
        | true =>
          obtain ⟨r, hr⟩ : ∃ r, ln - k = r := ⟨_, rfl⟩
          have hr1 : (ln : Int) - (k : Int) = (r : Int) := by omega
          have hr2 : IntKind.i64.wrap (r : Int) = (r : Int) := wrapI64 _ (by omega) (by omega)
          rw [hr] at HST2
          by_cases hr4 : r < 480
          · have hr5 : (r : Int) < 480 := by omega
            by_cases hpe : pl = r
            · have hpb : ((pl : Int) != (r : Int)) = false := by rw [bne_eq_false_iff_eq]; omega
              have HST3 := Lib.hid ((if_pos (show (true && (pl == min 480 r)) = true by rw [Nat.min_eq_right (by omega), hpe]; simp)).symm.trans HST2.out)
              have HPE := Lib.hid hpe
              clear HST2 hpe
              obtain ⟨gp, rfl⟩ := HB3.out.mineSome 0 rfl (by have := HPE.out; rw [HPLn.out]; omega)
              have hnw := Lib.hid (HB3.out.mineRd 0 rfl).news
              go_wp2_with (at_builtin; refine Bag.appendRow rfl _ _ 29 rfl 5 i0 _ 1 Tryd.underlying29 hi0 hz0 hz1 hz2 rfl 1 _ k _ HB3.out rfl rfl gp 0 pl cp rfl (bts pt) (by rw [bts_length, HPLn.out]) (by have := HPE.out; omega) hnw.out (by have := HPE.out; unfold maxLen; omega) (by have := HPE.out; omega) ?_)
              intro gx cx W3 hB4 _
              try simp only [List.set_cons_zero, List.set_cons_succ] at hB4
              rw [← bts_append] at hB4
              have HB4 := Lib.hid (dkl_swapOut hB4)
              clear hB4 HB3 hnw q0 q1 q2 q3 q4 qf
              have hwf := HW'.out.read (a : Int)
              have HWN := Lib.hid (show (D'.readD (a : Int)).Wf (m + (i + 1)) from hwf)
              have HLN2 := Lib.hid (show (out ++ pt).length = k + pl by rw [List.length_append, HOK.out, HPLn.out])
              clear hwf
              go_wp2_with fail
              go_roundw
              case rel => exact ⟨i + 1, k + pl, out ++ pt, D'.readD (a : Int), L', by omega, by go_num, HLN2.out, by have := HPE.out; have := HKI.out; omega, HWN.out, by rw [(sm_read D' _).ls]; exact HDN.out, (sm_read D' _).fs.trans HF.out, HST3.out, HB4.out⟩
              case measure => simp [intOf]; omega
            · have hpb : ((pl : Int) != (r : Int)) = true := by rw [bne_iff_ne]; omega
              have HT2 := Lib.hid ((if_neg (show ¬ (true && (pl == min 480 r)) = true by rw [Nat.min_eq_right (by omega)]; simp; omega)).symm.trans HST2.out)
              clear HST2
              go_wp2_with fail
              go_ret3
              refine ⟨L', none, 0, ?_, ?_⟩
              · rw [← HT2.out]; rfl
              · rw [← HT2.out]; exact ((dkl_out ((HB3.out.tail.tail)) |> (fun h => dkl_out h.tail)).tail).mineNil _
          · have hr5 : ¬ (r : Int) < 480 := by omega
            have hr6 : (480 : Int) ≤ (r : Int) := by omega
            by_cases hpe : pl = 480
            · have hpb : ((pl : Int) != 480) = false := by rw [bne_eq_false_iff_eq]; omega
              have HST3 := Lib.hid ((if_pos (show (true && (pl == min 480 r)) = true by rw [Nat.min_eq_left (by omega), hpe]; simp)).symm.trans HST2.out)
              have HPE := Lib.hid hpe
              clear HST2 hpe
              obtain ⟨gp, rfl⟩ := HB3.out.mineSome 0 rfl (by have := HPE.out; rw [HPLn.out]; omega)
              have hnw := Lib.hid (HB3.out.mineRd 0 rfl).news
              go_wp2_with (at_builtin; refine Bag.appendRow rfl _ _ 29 rfl 5 i0 _ 1 Tryd.underlying29 hi0 hz0 hz1 hz2 rfl 1 _ k _ HB3.out rfl rfl gp 0 pl cp rfl (bts pt) (by rw [bts_length, HPLn.out]) (by have := HPE.out; omega) hnw.out (by have := HPE.out; unfold maxLen; omega) (by have := HPE.out; omega) ?_)
              intro gx cx W3 hB4 _
              try simp only [List.set_cons_zero, List.set_cons_succ] at hB4
              rw [← bts_append] at hB4
              have HB4 := Lib.hid (dkl_swapOut hB4)
              clear hB4 HB3 hnw q0 q1 q2 q3 q4 qf
              have hwf := HW'.out.read (a : Int)
              have HWN := Lib.hid (show (D'.readD (a : Int)).Wf (m + (i + 1)) from hwf)
              have HLN2 := Lib.hid (show (out ++ pt).length = k + pl by rw [List.length_append, HOK.out, HPLn.out])
              clear hwf
              go_wp2_with fail
              go_roundw
              case rel => exact ⟨i + 1, k + pl, out ++ pt, D'.readD (a : Int), L', by omega, by go_num, HLN2.out, by have := HPE.out; have := HKI.out; omega, HWN.out, by rw [(sm_read D' _).ls]; exact HDN.out, (sm_read D' _).fs.trans HF.out, HST3.out, HB4.out⟩
              case measure => simp [intOf]; omega
            · have hpb : ((pl : Int) != 480) = true := by rw [bne_iff_ne]; omega
              have HT2 := Lib.hid ((if_neg (show ¬ (true && (pl == min 480 r)) = true by rw [Nat.min_eq_left (by omega)]; simp; omega)).symm.trans HST2.out)
              clear HST2
              go_wp2_with fail
              go_ret3
              refine ⟨L', none, 0, ?_, ?_⟩
              · rw [← HT2.out]; rfl
              · rw [← HT2.out]; exact ((dkl_out ((HB3.out.tail.tail)) |> (fun h => dkl_out h.tail)).tail).mineNil _
      · have hne : (x != 0) = true := by rw [bne_iff_ne]; exact hx0
        have HT2 := Lib.hid ((if_neg hx0).symm.trans HSTEP.out)
        clear HSTEP hx0
        go_wp2_with fail
        go_ret3
        refine ⟨L', none, 0, ?_, ?_⟩
        · rw [← HT2.out]; rfl
        · rw [← HT2.out]; exact ((dkl_out ((HB2.out.tail)) |> (fun h => dkl_out h.tail)).tail).mineNil _
    · obtain rfl : i = K := by omega
      have HT2 := Lib.hid (show (⟨D', 0, Crc.sum out == s.sum, out⟩ : Sta) = T by have h := HP.out; rw [Nat.sub_self] at h; exact h)
      obtain ⟨q0, q1, q2, q3, q4, qf⟩ := cells5 (HB.out.box 7 rfl)
      obtain ⟨a9, c9, he9, hBm⟩ := Bag.lstMine HB.out HOK.out
      simp only [Value.slice.injEq, true_and] at he9
      obtain ⟨rfl, rfl⟩ := he9
      have HBm := Lib.hid hBm
      have HCr := Lib.hid (fun (j : Nat) => crcSum av out cv (wr.drewN j) (by rw [HOK.out]; omega) ((HBm.out.drewN j).mineRd 0 rfl) (HT.out.1.below (HBm.out.drewN j).below HT.out.2))
      rw [HOK.out] at HCr
      clear HP HB hBm
      go_wp2_with fail
      go_quiet (first
        | (go_at_call 63; exact Calls.quiet_of_same ((HCr.out _).mono fun _ _ h => ⟨h.1, h.2.symm⟩)))
      go_wp2_with fail
      go_ret3
      refine ⟨L', av, cv, ?_, ?_⟩
      · rw [← HT2.out]
        show _ = Ending.returned (.tuple #[.slice av out.length cv, .bool (Crc.sum out == s.sum), .int .i64 0])
        rw [HOK.out, HSM.out]
        rfl
      · rw [← HT2.out]
        exact ((dkl_out ((dkl_in ((HBm.out.drewN nq))) |> (fun h => dkl_mv h)) |> (fun h => h.tail)) |> (fun h => dkl_out h))
end Wl
end Go.Proofs.YthaiibfnjgfgjaaDoor
namespace Go.Proofs.YthaiibfnjgfgjaaDoor
open Go.RowKit
namespace Wl
theorem zerosP_succ (k i : Nat) (D : Dk) : zerosP (k + 1) i D = if D.readE (i : Int) = 0 then if (D.readB (i : Int)).all (fun x => x == 0#8) then zerosP k (i + 1) (D.readD (i : Int)) else (D.readD (i : Int), 116) else (D.readD (i : Int), D.readE (i : Int)) := rfl
theorem all_not {b : By} {j : Nat} {x : BitVec 8} (hx : b[j]? = some x) (h : x ≠ 0#8) : b.all (fun x => x == 0#8) = false := by
  rw [List.all_eq_false]
  exact ⟨x, List.mem_of_getElem? hx, by simpa using h⟩
def FmtR (w : World) (p : Nat) (rest : List It) (R : Dk × Int) (e : Ending) (W' : World) : Prop := ∃ L', e = .returned (.int .i64 R.2) ∧ Bag w W' (dkl p L' R.1 rest)
set_option maxRecDepth 100000 in
set_option maxHeartbeats 4000000 in
theorem wFormat (w W : World) (p : Nat) (L : Lay) (D : Dk) (rest : List It) (m n : Nat) (hn : D.ls.length = n) (hn0 : 32 ≤ n) (hn1 : n ≤ 8192)
   (hw : D.Wf m) (hm : m ≤ 400000000000) (hf : D.fs.length ≤ 1000000000000000) (ht : Tab w) (hT : 0 < w.heap.size) (hB : Bag w W (dkl p L D rest)) :
   Calls Tryd.prog 36 #[.pointer (some ⟨p, 0, none⟩)] W (FmtR w p rest (formatP D)) := by
  obtain ⟨R, hR⟩ : ∃ R, formatP D = R := ⟨_, rfl⟩
  rw [hR]
  unfold formatP at hR
  rw [hn] at hR
  obtain ⟨D1, x1, hZ⟩ : ∃ D1 x1, zerosP n 0 D = (D1, x1) := ⟨_, _, rfl⟩
  rw [hZ] at hR
  simp only at hR
  have hse := dkSectors (by omega) hB
  rw [hn] at hse
  have HRR := Lib.hid hR
  have HZ := Lib.hid hZ
  have HB := Lib.hid hB
  have HN := Lib.hid hn
  have HW := Lib.hid hw
  have HT := Lib.hid (And.intro ht hT)
  clear hR hZ hB hn hw ht hT
  go_enter Tryd.func36, Tryd.ntmps36
  go_wp2_with fail
  refine hse.mono ?_
  clear hse
  rintro e w' ⟨rfl, rfl⟩
  go_wp2_with fail
  go_loopw [12] (fun t wr => ∃ (i : Nat) (D' : Dk) (L' : Lay), i ≤ n ∧ t = .int .i64 i ∧ D'.Wf (m + i) ∧ D'.ls.length = n ∧ D'.fs = D.fs ∧ zerosP (n - i) i D' = (D1, x1) ∧ Bag w wr (dkl p L' D' rest)) (fun t _ => n - (intOf t).toNat)
  case atStart => exact ⟨0, D, L, Nat.zero_le _, rfl, HW.out, HN.out, rfl, HZ.out, HB.out⟩
  case round =>
    obtain ⟨i, D', L', hi, rfl, hW, hDn, hF, hP, hB⟩ := hrel
    clear HB
    have HB := Lib.hid hB
    have HW' := Lib.hid hW
    have HDN := Lib.hid hDn
    have HF := Lib.hid hF
    have HP := Lib.hid hP
    clear hB hW hDn hF hP
    by_cases hlt : i < n
    · have hstep : (if D'.readE (i : Int) = 0 then if (D'.readB (i : Int)).all (fun x => x == 0#8) then zerosP (n - (i + 1)) (i + 1) (D'.readD (i : Int)) else (D'.readD (i : Int), 116) else (D'.readD (i : Int), D'.readE (i : Int))) = (D1, x1) := by
        have h := HP.out
        rw [show n - i = (n - (i + 1)) + 1 by omega, zerosP_succ] at h
        exact h
      have hrd := dkRead w wr p L' D' rest (m + i) (i : Int) HW'.out (by omega) (by rw [HF.out]; exact hf) (by omega) (by omega) HB.out
      obtain ⟨x, hx⟩ : ∃ x, D'.readE (i : Int) = x := ⟨_, rfl⟩
      obtain ⟨b, hb⟩ : ∃ b, D'.readB (i : Int) = b := ⟨_, rfl⟩
      obtain ⟨N, hNe⟩ : ∃ N, b.length = N := ⟨_, rfl⟩
      have hN5 : x = 0 → N = 512 := fun h0 => by rw [← hNe, ← hb]; exact readB_len HW'.out (by rw [HDN.out]; exact hlt) (by rw [hx]; exact h0)
      unfold ReadR at hrd
      rw [hx, hb, hNe] at hrd
      rw [hx, hb] at hstep
      have HNN := Lib.hid hNe
      have HN5 := Lib.hid hN5
      have HSTEP := Lib.hid hstep
      clear hx hb hNe hN5 hstep
      go_wp2_with fail
      refine hrd.mono ?_
      clear hrd
      rintro e W1 ⟨ar, cr, rfl, hB1⟩
      have HB2 := Lib.hid hB1
      clear hB1 HB
      by_cases hx0 : x = 0
      · subst hx0
        have hN := HN5.out rfl
        subst hN
        have HSTEP2 := Lib.hid ((if_pos rfl).symm.trans HSTEP.out)
        clear HSTEP HN5
        go_wp2_with fail
        go_loopw [26] (fun t wj => ∃ j : Nat, j ≤ 512 ∧ t = .int .i64 j ∧ (∀ k, k < j → b[k]? = some 0#8) ∧ Bag w wj (.mine 5 ar cr b :: dkl p L' (D'.readD (i : Int)) rest)) (fun t _ => 512 - (intOf t).toNat)
        case atStart => exact ⟨0, Nat.zero_le _, rfl, fun k hk => absurd hk (by omega), HB2.out⟩
        case round =>
          obtain ⟨j, hj, rfl, hz, hB⟩ := hrel
          clear HB2
          have HB2 := Lib.hid hB
          have HZZ := Lib.hid hz
          clear hB hz
          by_cases hjl : j < 512
          · obtain ⟨y, hy⟩ : ∃ y, b[j]? = some y := ⟨b[j]'(by rw [HNN.out]; exact hjl), List.getElem?_eq_getElem _⟩
            obtain ⟨gr, rfl⟩ := HB2.out.mineSome 0 rfl (by rw [HNN.out]; omega)
            have hO := HB2.out.mineOwn 0 rfl
            have hcl := hO.cell j (by rw [HNN.out]; exact hjl)
            have hge : b.getD j 0#8 = y := by rw [List.getD, hy]; rfl
            rw [hge] at hcl
            have HY := Lib.hid hy
            clear hO hge hy
            by_cases hy0 : y = 0#8
            · subst hy0
              have hne : (n8 0#8 != 0) = false := by unfold n8; rfl
              go_wp2_with fail
              go_roundw
              case rel => exact ⟨j + 1, by omega, by go_num, fun k hk => by
                by_cases hkj : k = j
                · subst hkj; exact HY.out
                · exact HZZ.out k (by omega), HB2.out⟩
              case measure => simp [intOf]; omega
            · have hne : (n8 y != 0) = true := by
                rw [bne_iff_ne]
                intro h
                rw [← n8_z] at h
                exact hy0 (n8_inj h)
              have HT2 := Lib.hid ((if_neg (show ¬ b.all (fun x => x == 0#8) = true by rw [all_not HY.out hy0]; simp)).symm.trans HSTEP2.out)
              have HR2 := Lib.hid (show (D1, x1) = R by have h := HRR.out; rw [if_neg (by have := congrArg Prod.snd HT2.out; simp only at this; rw [← this]; decide)] at h; exact h)
              clear hy0
              go_wp2_with fail
              go_ret
              refine ⟨L', ?_, ?_⟩
              · rw [← HR2.out, ← HT2.out]; rfl
              · rw [← HR2.out, ← HT2.out]; exact HB2.out.tail
          · obtain rfl : j = 512 := by omega
            have hall : b.all (fun x => x == 0#8) = true := by
              rw [List.all_eq_true]
              intro y hy
              obtain ⟨k, hk⟩ := List.mem_iff_getElem?.1 hy
              have hkl : k < 512 := by have := (List.getElem?_eq_some_iff.1 hk).1; rw [HNN.out] at this; exact this
              have := HZZ.out k hkl
              rw [hk] at this
              cases this
              rfl
            have HT2 := Lib.hid ((if_pos hall).symm.trans HSTEP2.out)
            have HWN := Lib.hid (show (D'.readD (i : Int)).Wf (m + (i + 1)) from HW'.out.read _)
            have HB3 := Lib.hid HB2.out.tail
            clear hall HB2
            go_wp2_with fail
            go_roundw
            case rel => exact ⟨i + 1, D'.readD (i : Int), L', by omega, by go_num, HWN.out, by rw [(sm_read D' _).ls]; exact HDN.out, (sm_read D' _).fs.trans HF.out, HT2.out, HB3.out⟩
            case measure => simp [intOf]; omega
      · have hne : (x != 0) = true := by rw [bne_iff_ne]; exact hx0
        have HT2 := Lib.hid ((if_neg hx0).symm.trans HSTEP.out)
        have HR2 := Lib.hid (show (D1, x1) = R by have h := HRR.out; rw [if_neg (by have := congrArg Prod.snd HT2.out; simp only at this; rw [← this]; exact hx0)] at h; exact h)
        clear HSTEP hx0
        go_wp2_with fail
        go_ret
        refine ⟨L', ?_, ?_⟩
        · rw [← HR2.out, ← HT2.out]; rfl
        · rw [← HR2.out, ← HT2.out]; exact HB2.out.tail
    · obtain rfl : i = n := by omega
      have HT2 := Lib.hid (show (D', 0) = (D1, x1) by have h := HP.out; rw [Nat.sub_self] at h; exact h)
      have hx1 : x1 = 0 := (congrArg Prod.snd HT2.out).symm
      have hd1 : D1 = D' := (congrArg Prod.fst HT2.out).symm
      subst hx1 hd1
      obtain ⟨D2, x2, hL⟩ : ∃ D2 x2, lastP D1 1 (superF i) = (D2, x2) := ⟨_, _, rfl⟩
      have HR2 := Lib.hid (show (D2, x2) = R by rw [← hL]; have h := HRR.out; rw [if_pos rfl] at h; exact h)
      have hse := dkSectors (by rw [HDN.out]; omega) HB.out
      rw [HDN.out] at hse
      obtain ⟨xw, hxw⟩ : ∃ xw, wrE D1 1 ⟨tS, 1, 1, 1, superB i []⟩ = xw := ⟨_, rfl⟩
      have hL2 : (if xw = 0 then ((wrD D1 1 ⟨tS, 1, 1, 1, superB i []⟩).flushD, (wrD D1 1 ⟨tS, 1, 1, 1, superB i []⟩).opE) else (wrD D1 1 ⟨tS, 1, 1, 1, superB i []⟩, xw)) = (D2, x2) := by rw [← hL, ← hxw]; rfl
      have HXW := Lib.hid hxw
      have HL2 := Lib.hid hL2
      have hSM : Sec.may ⟨tS, 1, 1, 1, superB i []⟩ = true := secAt_may (t := tS) (e := 1) (q := 1) (p := 1) mem_tags.1 (by decide) (by decide) (by decide) (by decide) (by decide) (by rw [super_len]; omega)
      have HSM := Lib.hid hSM
      clear hL hxw hL2 hSM HT2 HRR HP HZ
      go_wp2_with fail
      refine hse.mono ?_
      clear hse
      rintro e w' ⟨rfl, rfl⟩
      go_wp2_with fail
      refine (wBodySuper i [] none 0 0 wr hn1 rfl (by omega) (Rd.nil _ _) (HT.out.1.below HB.out.below HT.out.2) (Nat.lt_of_lt_of_le HT.out.2 HB.out.below.size)).mono ?_
      rintro e W3 ⟨g3, rfl, hg3, hO3, hb3⟩
      have HB3 := Lib.hid (dkl_in (HB.out.own hb3 hO3 hg3))
      clear HB hg3 hO3 hb3
      go_wp2_with fail
      rw [lit_S]
      generalize hU : W3.alloc (.cells #[.string (str tS), .int .i64 1, .int .i64 1, .int .i64 1, .slice (some ⟨g3, 0, none⟩) 16 16] 33 (0, 0)) = U
      have HBU := Lib.hid (show Bag w U (dkl p L' D1 (.mine 5 (some ⟨g3, 0, none⟩) 16 (superB i []) :: rest)) by rw [← hU]; exact HB3.out.call (fresh1 W3 _))
      clear hU HB3
      refine (wPut w U p L' D1 _ (m + i) 1 tS 1 1 1 (superB i []) (some ⟨g3, 0, none⟩) 16 16 (super_len _ _) HSM.out (by omega) HW'.out (by omega) (by rw [HF.out]; exact hf) (HBU.out.mineRd 6 rfl) HT.out.1 HT.out.2 HBU.out).mono ?_
      rintro e W5 ⟨L5, rfl, hB5⟩
      rw [HXW.out]
      have HB5 := Lib.hid hB5
      clear hB5 HBU
      by_cases hx0 : xw = 0
      · subst hx0
        have HL3 := Lib.hid ((if_pos rfl).symm.trans HL2.out)
        have hfl := dkFlush w W5 p L5 (wrD D1 1 ⟨tS, 1, 1, 1, superB i []⟩) _ (m + i + 1) (wrD_wf HW'.out 1 _) (by omega) (by rw [wrD_fs, HF.out]; exact hf) HB5.out
        clear HL2
        go_wp2_with fail
        refine hfl.mono ?_
        clear hfl
        rintro e W6 ⟨L6, rfl, hB6⟩
        have HB6 := Lib.hid (dkl_out hB6).tail
        clear hB6
        go_wp2_with fail
        go_ret
        refine ⟨L6, ?_, ?_⟩
        · rw [← HR2.out, ← HL3.out]; rfl
        · rw [← HR2.out, ← HL3.out]; exact HB6.out
      · have hne : (xw != 0) = true := by rw [bne_iff_ne]; exact hx0
        have HL3 := Lib.hid ((if_neg hx0).symm.trans HL2.out)
        have HB6 := Lib.hid (dkl_out HB5.out).tail
        clear HL2 hx0
        go_wp2_with fail
        go_ret
        refine ⟨L5, ?_, ?_⟩
        · rw [← HR2.out, ← HL3.out]; rfl
        · rw [← HR2.out, ← HL3.out]; exact HB6.out
end Wl
end Go.Proofs.YthaiibfnjgfgjaaDoor
