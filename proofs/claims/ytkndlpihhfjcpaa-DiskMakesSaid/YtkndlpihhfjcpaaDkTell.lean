/- The program's device: what tells how it stands. The program's device: Pending, Durable. The program's device: Pending. -/
import Derived.Test.YtkndlpihhfjcpaaDkNew
namespace Go.Proofs.Ytkndlpihhfjcpaa
open Go.RowKit
section
variable {w W : World} {p : Nat} {L : Lay} {D : Dk} {rest : List It}
theorem dkDone (hB : Bag w W (dkl p L D rest)) : Calls Try.prog 16 #[.pointer (some ⟨p, 0, none⟩)] W fun e w' => e = .returned (.int .i64 (D.done : Nat)) ∧ W = w' := by
  obtain ⟨q0, q1, q2, q3, q4, q5, qf⟩ := dkCells hB
  clear hB
  go_enter Try.func16, Try.ntmps16
  go_wp2
  go_ret
  exact ⟨rfl, rfl⟩
theorem dkClaimed (hB : Bag w W (dkl p L D rest)) : Calls Try.prog 20 #[.pointer (some ⟨p, 0, none⟩)] W fun e w' => e = .returned (.int .i64 (D.claim : Nat)) ∧ W = w' := by
  obtain ⟨q0, q1, q2, q3, q4, q5, qf⟩ := dkCells hB
  clear hB
  go_enter Try.func20, Try.ntmps20
  go_wp2
  go_ret
  exact ⟨rfl, rfl⟩
theorem dkPower (hB : Bag w W (dkl p L D rest)) : Calls Try.prog 15 #[.pointer (some ⟨p, 0, none⟩)] W fun e w' => e = .returned (.bool (!D.off)) ∧ W = w' := by
  obtain ⟨q0, q1, q2, q3, q4, q5, qf⟩ := dkCells hB
  clear hB
  go_enter Try.func15, Try.ntmps15
  go_wp2
  go_ret
  exact ⟨rfl, rfl⟩
theorem dkSectors (hn : 1 ≤ D.ls.length) (hB : Bag w W (dkl p L D rest)) : Calls Try.prog 54 #[.pointer (some ⟨p, 0, none⟩)] W fun e w' => e = .returned (.int .i64 (D.ls.length : Nat)) ∧ W = w' := by
  obtain ⟨q0, q1, q2, q3, q4, q5, qf⟩ := dkCells hB
  obtain ⟨g, cap, hlv, _⟩ := dkLv hB hn
  rw [hlv] at q0
  clear hB hlv
  go_enter Try.func54, Try.ntmps54
  go_wp2
  go_ret
  exact ⟨rfl, rfl⟩
def ClaimR (w : World) (p : Nat) (L : Lay) (D : Dk) (rest : List It) (e : Ending) (W' : World) : Prop := e = .returned (.int .i64 (D.claimD.claim : Nat)) ∧ Bag w W' (dkl p L D.claimD rest)
theorem dkClaim (hc : D.claim ≤ 1000000000000000) (hB : Bag w W (dkl p L D rest)) : Calls Try.prog 18 #[.pointer (some ⟨p, 0, none⟩)] W (ClaimR w p L D rest) := by
  obtain ⟨q0, q1, q2, q3, q4, q5, qf⟩ := dkCells hB
  have hpl : p < W.heap.size := World.block_lt_of_cell? W _ q2
  have HB := Lib.hid (dkPut4 hB (D.claim + 1))
  obtain ⟨n, hn⟩ : ∃ n, D.claim = n := ⟨_, rfl⟩
  rw [hn] at q4 hc HB
  have HN := Lib.hid (show D.claimD.claim = n + 1 by rw [← hn]; rfl)
  have HD := Lib.hid (show D.claimD = { D with claim := n + 1 } by rw [← hn]; rfl)
  clear hB hn
  go_enter Try.func18, Try.ntmps18
  go_wp2
  go_ret
  refine ⟨by rw [HN.out]; rfl, ?_⟩
  rw [HD.out]; exact HB.out
end
open Go.RowKit
theorem Bag.tail {w W : World} {x : It} {l : List It} (h : Bag w W (x :: l)) : Bag w W l := h.erase 0
/-- append of many cells, one each, onto a list of a bag. -/
theorem Bag.appendRow {P : Program} {w W : World} {l : List It} {ops : Array Oper} {rest : List Oper} {o : Oper} {a : Act} {Q : Exit → Act → World → Prop} (hgd : o.guard = none) (s x : Operand) (t : TypeId)
    (ho : o.op = .call { callee := .builtin .append, args := #[s, x], argTypes := #[t, t] })
    (e : TypeId) (i : TypeInfo) (z : Value) (bytes : Nat) (ht : P.underlying t = some (.slice e)) (hi : P.info? e = some i) (hz : i.zero = some z) (hsize : i.size = 1) (hby : i.bytes = bytes) (hzs : z.cells.size = 1)
    (k : Nat) (v : Value) (n : Nat) (xs : List Value) (hB : Bag w W l) (hk : l[k]? = some (.lst e 1 v n xs)) (hs : a.eval s = v)
    (b off m c : Nat) (hx : a.eval x = .slice (some ⟨b, off, none⟩) m c) (news : List Value) (hm : news.length = m) (hm0 : 0 < m) (hnews : ∀ (j : Nat) (y : Value), news[j]? = some y → W.cell? ⟨b, off + j, none⟩ = some y ∧ y.oneCell' = true) (hn : n + m ≤ maxLen) (hbytes : (n + m) * bytes ≤ 140737488355328)
    (h : ∀ g cap W', Bag w W' (l.set k (.lst e 1 (.slice (some ⟨g, 0, none⟩) (n + m) cap) (n + m) (xs ++ news))) → W.heap.size ≤ W'.heap.size → wpList P ops Q rest (a.put o.dst (.slice (some ⟨g, 0, none⟩) (n + m) cap)) W') :
    wpList P ops Q (o :: rest) a W := by
  have hown := hB.lst k hk
  refine wpList_append_lies (P := P) W hgd s x t ho 0 e i z 1 bytes ht hi hz hsize hby hzs (by decide) v n xs hs hown ⟨b, off, none⟩ m c news hx (by rw [hm, Nat.mul_one]) ?_ ?_ hm0 hn hbytes (Nat.zero_le _) _ rfl ?_
  · intro j y hj
    rw [Addr.add_lit]
    exact (hnews j y hj).1
  · intro y hy
    obtain ⟨j, hj⟩ := List.mem_iff_getElem?.1 hy
    exact (hnews j y hj).2
  · intro g cap W' h2 h3 h4 h5
    refine h g cap W' (hB.turn k hk (S := fun b => v.ownBlock = some b) ⟨h3.os, h3.tape, h3.output, h3.size, fun b hb hne => h3.block b hb fun e => hne e.symm⟩ ?_ (It.lst_of h2) ?_) h3.size
    · intro b hb
      rcases hown.2 with ⟨rfl, _⟩ | ⟨g', cap', cur, rfl, _⟩
      · cases hb
      · simp only [Value.ownBlock, Option.some.injEq] at hb
        subst hb
        exact ⟨_, _, rfl⟩
    · rintro b ⟨n', cap', hb⟩
      simp only [Value.slice.injEq, Option.some.injEq, Addr.mk.injEq] at hb
      obtain ⟨⟨rfl, _⟩, _⟩ := hb
      rcases h4 with h4 | h4
      · left
        rcases hown.2 with ⟨rfl, _⟩ | ⟨g', cap', cur, rfl, _⟩
        · cases h4
        · simp only [Value.ownBlock, Option.some.injEq] at h4
          subst h4
          exact ⟨_, _, rfl⟩
      · right; omega
/-- A list of bytes is bytes of one's own. -/
theorem Bag.lstMine {w W : World} {e n : Nat} {v : Value} {m : List (BitVec 8)} {rest : List It} (h : Bag w W (.lst e 1 v n (bts m) :: rest)) (hn : m.length = n) : ∃ ao cap, v = .slice ao n cap ∧ Bag w W (.mine e ao cap m :: rest) := by
  subst hn
  obtain ⟨ao, cap, rfl, hm⟩ := owns_mine (h.lst 0 rfl)
  refine ⟨ao, cap, rfl, h.turn 0 rfl (y := .mine e ao cap m) (Only.refl (fun _ => False) W) (fun _ h => h.elim) hm ?_⟩
  rintro k ⟨a, rfl, rfl⟩
  rcases hm with ⟨_, h0, _⟩ | ⟨g, h0, _⟩
  · cases h0
  · cases h0
    exact Or.inl ⟨_, _, rfl⟩
theorem Rd.news {w : World} {b o : Nat} {l : List (BitVec 8)} (h : Rd w (some ⟨b, o, none⟩) l) : ∀ (j : Nat) (y : Value), (bts l)[j]? = some y → w.cell? ⟨b, o + j, none⟩ = some y ∧ y.oneCell' = true := by
  intro j y hj
  refine ⟨?_, bts_one l y (List.mem_of_getElem? hj)⟩
  have := h.src j y hj
  rwa [Addr.add_lit] at this
theorem flat_len (ls : List (List (BitVec 8))) (h : ∀ l ∈ ls, l.length = 512) : ls.flatten.length = ls.length * 512 := by
  induction ls with
  | nil => rfl
  | cons a r ih =>
    rw [List.flatten_cons, List.length_append, ih (fun l hl => h l (List.mem_cons_of_mem _ hl)), h a List.mem_cons_self, List.length_cons]
    omega
theorem flat_snoc {ls : List (List (BitVec 8))} {j : Nat} {s : List (BitVec 8)} (h : ls[j]? = some s) : (ls.take (j + 1)).flatten = (ls.take j).flatten ++ s := by
  rw [take_at h, List.flatten_append]
  simp
def DurR (w : World) (p : Nat) (L : Lay) (D : Dk) (rest : List It) (e : Ending) (W' : World) : Prop := ∃ ao cap, e = .returned (.slice ao (D.ls.length * 512) cap) ∧ Bag w W' (.mine 5 ao cap D.ls.flatten :: dkl p L D rest)
set_option maxRecDepth 20000 in
set_option maxHeartbeats 800000 in
theorem dkDurable (w W : World) (p : Nat) (L : Lay) (D : Dk) (rest : List It) (m : Nat) (hw : D.Wf m) (hB : Bag w W (dkl p L D rest)) :
   Calls Try.prog 22 #[.pointer (some ⟨p, 0, none⟩)] W (DurR w p L D rest) := by
  obtain ⟨i0, hi, hz0, hz1, hz2⟩ := info_parts info_u8
  obtain ⟨q0, _, _, _, _, _, qf⟩ := dkCells hB
  obtain ⟨g, cap, hlv, hcap, hbl, _⟩ := dkLv hB hw.lo
  have HW := Lib.hid hw
  have HB := Lib.hid hB
  obtain ⟨n, hn⟩ : ∃ n, D.ls.length = n := ⟨_, rfl⟩
  have hnhi := hw.hi
  rw [hn] at hlv hcap hbl hnhi
  rw [hlv] at q0
  have HN := Lib.hid hn
  have HLV := Lib.hid hlv
  have HBL := Lib.hid hbl
  clear hB hw hn hlv hbl
  go_enter Try.func22, Try.ntmps22
  go_wp2_with (at_make; refine wpList_make_own _ rfl _ _ 37 rfl W.heap.size 5 i0 _ 1 Try.underlying37 hi hz0 hz1 .i64 .i64 ((n : Int) * 512) (n * 512) rfl rfl (by omega) (by rw [hz2]; omega) (by unfold maxLen; omega) (Nat.le_refl _) ?_)
  intro w2 hown hgrow
  have hb : Below W.heap.size W w2 := (Below.refl _ _).grown hgrow (Nat.le_refl _) (fun k hk => by cases hk)
  have HB2 := Lib.hid (HB.out.owns hb hown)
  obtain ⟨q0, _, _, _, _, _, qf⟩ := dkCells HB2.out.tail
  rw [HLV.out] at q0
  clear HB hown hgrow hb
  go_wp2_with fail
  go_loopw [3, 18] (fun v t wr => ∃ j : Nat, j ≤ n ∧ t = .int .i64 j ∧ Bag w wr (.lst 5 1 v (j * 512) (bts (D.ls.take j).flatten) :: dkl p L D rest)) (fun _ t _ => n - (intOf t).toNat)
  case atStart => exact ⟨0, Nat.zero_le _, rfl, HB2.out⟩
  case round =>
    obtain ⟨j, hj, rfl, hB⟩ := hrel
    clear HB2 q0 qf
    have HB := Lib.hid hB
    clear hB
    by_cases hlt : j < n
    · obtain ⟨s, hs⟩ : ∃ s, D.ls[j]? = some s := ⟨D.ls[j]'(by rw [HN.out]; exact hlt), List.getElem?_eq_getElem _⟩
      obtain ⟨b, hb⟩ : ∃ b, L.bs[j]? = some b := ⟨L.bs[j]'(by rw [HBL.out]; exact hlt), List.getElem?_eq_getElem _⟩
      obtain ⟨g2, cap2, hlv2, _, _, hbs⟩ := dkLv HB.out.tail HW.out.lo
      rw [HLV.out] at hlv2
      simp only [Value.slice.injEq, Option.some.injEq, Addr.mk.injEq, and_true] at hlv2
      obtain rfl := hlv2.1
      have c := hbs j b hb
      unfold slv at c
      have hR := Lib.hid (HB.out.tail.rowsOwn 2 rfl j hb hs).rd.news
      have HS := Lib.hid (HW.out.sec s (List.mem_of_getElem? hs))
      have HF := Lib.hid (flat_snoc hs)
      obtain ⟨av, cv, hv, _⟩ := HB.out.lstForm 0 rfl
      subst hv
      clear hbs hb hs hlv2
      go_wp2_with (at_builtin; refine Bag.appendRow rfl _ _ 37 rfl 5 i0 _ 1 Try.underlying37 hi hz0 hz1 hz2 rfl 0 _ (j * 512) _ HB.out rfl rfl b 0 512 512 rfl (bts s) (by rw [bts_length, HS.out]) (by omega) hR.out (by unfold maxLen; omega) (by omega) ?_)
      intro gx cx W3 hB3 _
      try simp only [List.set_cons_zero] at hB3
      rw [← bts_append, ← HF.out, show j * 512 + 512 = (j + 1) * 512 by omega] at hB3
      have HB3 := Lib.hid hB3
      clear hB3 HB c hR
      go_wp2_with fail
      go_roundw
      case rel =>
        refine ⟨j + 1, by omega, by go_num, ?_⟩
        first | exact HB3.out | (rw [show j * 512 + 512 = (j + 1) * 512 by omega]; exact HB3.out)
      case measure => simp [intOf]; omega
    · obtain rfl : j = n := by omega
      have h1 := HB.out
      rw [show D.ls.take j = D.ls by rw [← HN.out, List.take_length]] at h1
      obtain ⟨ao, cx, rfl, h2⟩ := h1.lstMine (by rw [flat_len _ HW.out.sec, HN.out])
      have HB3 := Lib.hid h2
      clear h1 h2
      go_wp2_with fail
      go_ret
      refine ⟨ao, cx, ?_, HB3.out⟩
      rw [HN.out] <;> rfl
open Go.RowKit
theorem info_pd : (Try.prog.info? 89).map (fun i => (i.zero, i.size, i.bytes)) = some (some (.agg #[.int .i64 0, .slice none 0 0]), 2, 32) := by kernel_rfl
/-- A list of writes that was handed out: its cells, its rows. -/
def pdl (v : Value) (n : Nat) (ps : List (Nat × List (BitVec 8))) (gs : List Nat) (rest : List It) : List It := .lst 89 2 v n (pcs ps gs) :: .rows 5 512 gs (ps.map Prod.snd) :: rest
def PendR (w : World) (p : Nat) (L : Lay) (D : Dk) (rest : List It) (e : Ending) (W' : World) : Prop := ∃ v gs, e = .returned v ∧ Bag w W' (pdl v D.ps.length D.ps gs (dkl p L D rest))
theorem pdPush {w W W' : World} {v : Value} {n : Nat} {ps : List (Nat × List (BitVec 8))} {gs : List Nat} {rest : List It} {gg : Nat} {b : List (BitVec 8)} (h : Bag w W (pdl v n ps gs rest)) (hb : Below W.heap.size W W') (hO : Own W' gg 512 5 b) (hg : W.heap.size ≤ gg) :
    Bag w W' (.lst 89 2 v n (pcs ps gs) :: .rows 5 512 (gs ++ [gg]) (ps.map Prod.snd ++ [b]) :: rest) := h.rowsPush 1 rfl hb hO hg
theorem pdOn {w W : World} {v : Value} {n k gg : Nat} {ps : List (Nat × List (BitVec 8))} {gs : List Nat} {rest : List It} {b : List (BitVec 8)} (hq : gs.length = ps.length) (h : Bag w W (.lst 89 2 v n (pcs ps gs ++ [.int .i64 (k : Nat), slv gg]) :: .rows 5 512 (gs ++ [gg]) (ps.map Prod.snd ++ [b]) :: rest)) :
    Bag w W (pdl v n (ps ++ [(k, b)]) (gs ++ [gg]) rest) := by
  unfold pdl
  rw [pcs_app hq (k, b) gg, List.map_append]
  exact h
set_option maxRecDepth 100000 in
set_option maxHeartbeats 2000000 in
theorem dkPending (w W : World) (p : Nat) (L : Lay) (D : Dk) (rest : List It) (m : Nat) (hw : D.Wf m) (hm : m ≤ 1000000000000) (hB : Bag w W (dkl p L D rest)) :
   Calls Try.prog 23 #[.pointer (some ⟨p, 0, none⟩)] W (PendR w p L D rest) := by
  obtain ⟨is, his, hsz0, hsz1, hsz2⟩ := info_parts info_pd
  obtain ⟨_, q1, _, _, _, _, qf⟩ := dkCells hB
  obtain ⟨aq, cp, hpv, hcp, hql, _⟩ := dkPv hB
  obtain ⟨u, hu⟩ : ∃ u, D.ps.length = u := ⟨_, rfl⟩
  have hum : u ≤ m := by rw [← hu]; exact hw.pend
  rw [hu] at hpv hcp hql
  rw [hpv] at q1
  have HW := Lib.hid hw
  have HB := Lib.hid ((hB.rowsNil 5 512).nil 89 2)
  have HPV := Lib.hid hpv
  have HQL := Lib.hid hql
  have HU := Lib.hid hu
  clear hpv hql hu hB hw
  go_enter Try.func23, Try.ntmps23
  go_wp2_with fail
  go_loopw [3, 11] (fun v t wr => ∃ (j : Nat) (gs : List Nat), j ≤ u ∧ t = .int .i64 j ∧ Bag w wr (pdl v j (D.ps.take j) gs (dkl p L D rest))) (fun _ t _ => u - (intOf t).toNat)
  case atStart => exact ⟨0, [], Nat.zero_le _, rfl, HB.out⟩
  case round =>
    obtain ⟨j, gs, hj, rfl, hB⟩ := hrel
    clear HB q1 qf
    have HB := Lib.hid hB
    clear hB
    by_cases hlt : j < u
    · obtain ⟨⟨a, b⟩, hy⟩ : ∃ y, D.ps[j]? = some y := ⟨D.ps[j]'(by rw [HU.out]; exact hlt), List.getElem?_eq_getElem _⟩
      obtain ⟨q, hq⟩ : ∃ q, L.qs[j]? = some q := ⟨L.qs[j]'(by rw [HQL.out]; exact hlt), List.getElem?_eq_getElem _⟩
      obtain ⟨ao2, cp', hpv, _, _, hcs⟩ := dkPv HB.out.tail.tail
      obtain ⟨gp, rfl, hcs2⟩ := hcs (show 0 < D.ps.length by rw [HU.out]; omega)
      obtain ⟨c1, c2⟩ := hcs2 j (a, b) q hy hq
      rw [HPV.out] at hpv
      simp only [Value.slice.injEq] at hpv
      obtain rfl := hpv.1
      unfold slv at c2
      simp only at c1
      have HAB := Lib.hid (show b.length = 512 from (HW.out.at_ (a, b) (List.mem_of_getElem? hy)).2)
      have HY := Lib.hid hy
      have HQ := Lib.hid hq
      have HGL := Lib.hid (show gs.length = (D.ps.take j).length by have := HB.out.rowsLen 1 rfl; rw [List.length_map] at this; exact this)
      obtain ⟨av, cv, hv, hcv⟩ := HB.out.lstForm2 0 rfl
      subst hv
      clear hcs hcs2 hpv hy hq
      go_wp2_with fail
      obtain ⟨x1, x2⟩ := cell_new2 wr (.int .i64 (a : Nat)) (.slice (some ⟨q, 0, none⟩) 512 512) 85 (0, 0)
      have h0 := HB.out.call (fresh1 wr (.cells #[.int .i64 (a : Nat), .slice (some ⟨q, 0, none⟩) 512 512] 85 (0, 0)))
      generalize hU : wr.alloc (.cells #[.int .i64 (a : Nat), .slice (some ⟨q, 0, none⟩) 512 512] 85 (0, 0)) = U at h0 x1 x2 ⊢
      generalize hbx : wr.heap.size = bx at x1 x2 ⊢
      have hbxl : bx < U.heap.size := World.block_lt_of_cell? U _ x1
      clear HB c1 c2
      have HB := Lib.hid h0
      clear h0 hU hbx
      go_region_law (first
          | (go_simp; go_at_call 38; refine (dkSector (some ⟨q, 0, none⟩) b 512 _ HAB.out (HB.out.drew.tail.tail.rowsOwn 4 rfl j HQ.out (show (D.ps.map Prod.snd)[j]? = some b by rw [List.getElem?_map, HY.out]; rfl)).rd).mono ?_; rintro e W3 ⟨gg, rfl, hgg, hOO, hbb⟩; have HB3 := Lib.hid (pdPush HB.out.drew hbb hOO hgg); have y1 : W3.cell? ⟨bx, 0, none⟩ = some (.int .i64 (a : Nat)) := (hbb.cell (p := ⟨bx, 0, none⟩) hbxl).trans x1; have y2 : W3.cell? ⟨bx, 1, none⟩ = some (.slice (some ⟨q, 0, none⟩) 512 512) := (hbb.cell (p := ⟨bx, 1, none⟩) hbxl).trans x2; clear hOO hgg; unfold slv)
          | (refine Bag.appendStep2 rfl _ _ 39 rfl 89 is _ 32 Try.underlying39 his hsz0 hsz1 hsz2 rfl 0 _ j _ (HB3.out.call (fresh1 W3 (.cells #[.int .i64 (a : Nat), slv gg] 89))) rfl rfl W3.heap.size 0 rfl _ _ (cell_new2 W3 _ _ _ _).1 (cell_new2 W3 _ _ _ _).2 rfl rfl (by unfold maxLen; omega) (by omega) ?_; intro gx cx W4 hB4 hsz; have HB4 := Lib.hid (pdOn (b := b) HGL.out hB4); clear hB4))
      all_goals
        go_wp2_with fail
        go_roundw
        case rel => exact ⟨j + 1, gs ++ [gg], by omega, by go_num, by rw [take_at HY.out]; exact HB4.out⟩
        case measure => simp [intOf]; omega
    · obtain rfl : j = u := by omega
      have h1 := HB.out
      rw [show D.ps.take j = D.ps by rw [← HU.out, List.take_length]] at h1
      have HB3 := Lib.hid h1
      clear h1
      go_wp2_with fail
      go_ret
      refine ⟨_, gs, rfl, ?_⟩
      rw [HU.out]; exact HB3.out
theorem dkl_in {w W : World} {x : It} {p : Nat} {L : Lay} {D : Dk} {rest : List It} (h : Bag w W (x :: dkl p L D rest)) : Bag w W (dkl p L D (x :: rest)) :=
  h.perm (List.perm_middle (l₁ := dkl p L D []) (l₂ := rest) (a := x)).symm
theorem dkl_out {w W : World} {x : It} {p : Nat} {L : Lay} {D : Dk} {rest : List It} (h : Bag w W (dkl p L D (x :: rest))) : Bag w W (x :: dkl p L D rest) :=
  h.perm (List.perm_middle (l₁ := dkl p L D []) (l₂ := rest) (a := x))
/-- Bytes of one's own that are some lie in a block. -/
theorem Bag.mineSome {w W : World} {l : List It} (h : Bag w W l) (i : Nat) {e : TypeId} {ao : Option Addr} {cap : Nat} {m : List (BitVec 8)} (hi : l[i]? = some (.mine e ao cap m)) (hm : 0 < m.length) : ∃ g, ao = some ⟨g, 0, none⟩ := by
  rcases h.holds i _ hi with ⟨h0, _⟩ | ⟨g, hg, _⟩
  · rw [h0] at hm; simp at hm
  · exact ⟨g, hg⟩
def Dk.chunk (b : List (BitVec 8)) (j : Nat) : List (BitVec 8) := (b.drop (j * 512)).take 512
end Go.Proofs.Ytkndlpihhfjcpaa
