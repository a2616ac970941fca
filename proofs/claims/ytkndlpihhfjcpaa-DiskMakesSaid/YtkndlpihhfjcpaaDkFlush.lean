/- The program's device: Flush. -/
import Derived.Test.YtkndlpihhfjcpaaDkWrite
namespace Go.Proofs.Ytkndlpihhfjcpaa
open Go.RowKit
def Lay.clear (L : Lay) : Lay := { L with pv := .slice none 0 0, qs := [] }
def Lay.calm (L : Lay) : Lay := { L with mt := none }
theorem dkPendNil {w W : World} {p : Nat} {L : Lay} {D : Dk} {rest : List It} (h : Bag w W (dkl p L D rest)) : Bag w (W.setCell ⟨p, 1, none⟩ (.slice none 0 0)) (dkl p L.clear { D with ps := [] } rest) :=
  ((h.put 0 rfl 1 (.slice none 0 0)).lstDrop 3 rfl).rowsDrop 4 rfl
theorem dkCalmSet {w W : World} {p : Nat} {L : Lay} {D : Dk} {rest : List It} (h : Bag w W (dkl p L D rest)) : Bag w (W.setCell ⟨p, 5, none⟩ (.func (.func 37) #[] #[])) (dkl p L.calm { D with fs := [] } rest) :=
  (h.put 0 rfl 5 (.func (.func 37) #[] #[])).turn (y := .grp [.fact (([] : List (Int × Int)) = [])]) 5 rfl (Only.refl (fun _ => False) _) (fun _ h => h.elim) ⟨by simp [It.fact], by simp⟩ (by rintro k ⟨x, hx, hk⟩; simp only [List.mem_singleton] at hx; subst hx; exact hk.elim)
theorem dkRow {w W W' : World} {p : Nat} {L : Lay} {D : Dk} {rest : List It} (h : Bag w W (dkl p L D rest)) {a b : Nat} (hb : L.bs[a]? = some b) {x : List (BitVec 8)} (ho : Only (fun k => k = b) W W') (hx : Own W' b 512 5 x) : Bag w W' (dkl p L { D with ls := D.ls.set a x } rest) := by
  have h1 := h.rowsSet 2 rfl a hb ho hx
  unfold dkl
  simp only [List.length_set]
  exact h1
def FlushR (w : World) (p : Nat) (D : Dk) (rest : List It) (e : Ending) (W' : World) : Prop := ∃ L', e = .returned (.int .i64 D.opE) ∧ Bag w W' (dkl p L' D.flushD rest)
/-- The state within the loop: j writes are laid down. -/
def LaidJ (w : World) (p : Nat) (L : Lay) (D : Dk) (rest : List It) (j : Nat) (W : World) : Prop := ∃ ls, ls.length = D.ls.length ∧ (∀ l ∈ ls, l.length = 512) ∧ Dk.lay (D.ps.drop j) ls = Dk.lay D.ps D.ls ∧ Bag w W (dkl p L { D with ls := ls } rest)
theorem laidJ_succ {w W' : World} {p : Nat} {L : Lay} {D : Dk} {rest : List It} {j a : Nat} {b : List (BitVec 8)} {ls : List (List (BitVec 8))} (h1 : ls.length = D.ls.length) (h2 : ∀ l ∈ ls, l.length = 512) (h3 : Dk.lay (D.ps.drop j) ls = Dk.lay D.ps D.ls) (hy : D.ps[j]? = some (a, b)) (hl : b.length = 512)
    (hW : Bag w W' (dkl p L { D with ls := ls.set a b } rest)) : LaidJ w p L D rest (j + 1) W' := by
  refine ⟨ls.set a b, by simp [h1], Dk.set_all h2 hl, ?_, hW⟩
  rw [← h3]
  obtain ⟨hj, hx⟩ := List.getElem?_eq_some_iff.1 hy
  rw [List.drop_eq_getElem_cons hj, hx]
  rfl
theorem own_cut {w : World} {g cap : Nat} {t : TypeId} {b l : List (BitVec 8)} (h : Own w g cap t (b ++ l.drop 512)) (hl : l.length = 512) : Own w g cap t b := by
  rw [List.drop_of_length_le (by omega), List.append_nil] at h
  exact h
set_option maxRecDepth 100000 in
set_option maxHeartbeats 1000000 in
theorem dkFlush (w W : World) (p : Nat) (L : Lay) (D : Dk) (rest : List It) (m : Nat) (hw : D.Wf m) (hm : m ≤ 1000000000000) (hf : D.fs.length ≤ 1000000000000000) (hB : Bag w W (dkl p L D rest)) :
   Calls Try.prog 14 #[.pointer (some ⟨p, 0, none⟩)] W (FlushR w p D rest) := by
  obtain ⟨i0, hi, hz0, hz1, hz2⟩ := info_parts info_u8
  have HW := Lib.hid hw
  have HB := Lib.hid hB
  clear hB hw
  obtain ⟨x, hx⟩ : ∃ x, D.opE = x := ⟨_, rfl⟩
  have HE := Lib.hid hx
  have HD := Lib.hid (show D.flushD = if x = 0 then { D.opD with ls := Dk.lay D.ps D.ls, ps := [] } else D.opD by unfold Dk.flushD; rw [hx])
  clear hx
  go_enter Try.func14, Try.ntmps14
  go_wp2_with fail
  refine (dkOperate w W p L D rest (by have := HW.out.count; omega) hf HB.out).mono ?_
  rintro e w1 ⟨rfl, hB1⟩
  rw [HE.out]
  obtain ⟨D1, hD1⟩ : ∃ D1, D.opD = D1 := ⟨_, rfl⟩
  have HW1 := Lib.hid (show D1.Wf (m + 1) by rw [← hD1]; exact HW.out.op)
  have hps : D1.ps = D.ps := by rw [← hD1, Dk.opD_ps]
  have hls : D1.ls = D.ls := by rw [← hD1, Dk.opD_ls]
  rw [hD1] at hB1 HD
  rw [← hps, ← hls] at HD
  have HB1 := Lib.hid hB1
  clear hB1 HB hps hls hD1
  by_cases hx0 : x = 0
  · subst hx0
    have HD0 := Lib.hid (show D.flushD = { D1 with ls := Dk.lay D1.ps D1.ls, ps := [] } from HD.out)
    clear HD
    obtain ⟨_, q1, _, _, _, _, qf⟩ := dkCells HB1.out
    obtain ⟨aq, cp, hpv, hcp, hql, _⟩ := dkPv HB1.out
    obtain ⟨u, hu⟩ : ∃ u, D1.ps.length = u := ⟨_, rfl⟩
    have hum : u ≤ m + 1 := by rw [← hu]; exact HW1.out.pend
    rw [hu] at hpv hcp hql
    rw [hpv] at q1
    have HPV := Lib.hid hpv
    have HQL := Lib.hid hql
    have HU := Lib.hid hu
    clear hpv hql hu
    go_wp2_with fail
    go_loopw [16] (fun t wr => ∃ j : Nat, j ≤ u ∧ t = .int .i64 j ∧ LaidJ w p L D1 rest j wr) (fun t _ => u - (intOf t).toNat)
    case atStart => exact ⟨0, Nat.zero_le _, rfl, D1.ls, rfl, HW1.out.sec, rfl, HB1.out⟩
    case round =>
      obtain ⟨j, hj, rfl, hJ⟩ := hrel
      have HJ := Lib.hid hJ
      clear hJ HB1
      by_cases hlt : j < u
      · obtain ⟨⟨a, b⟩, hy⟩ : ∃ y, D1.ps[j]? = some y := ⟨D1.ps[j]'(by rw [HU.out]; exact hlt), List.getElem?_eq_getElem _⟩
        obtain ⟨q, hq⟩ : ∃ q, L.qs[j]? = some q := ⟨L.qs[j]'(by rw [HQL.out]; exact hlt), List.getElem?_eq_getElem _⟩
        have hab := HW1.out.at_ (a, b) (List.mem_of_getElem? hy)
        simp only at hab
        obtain ⟨ls, hls, hl5, hlay, hB⟩ := HJ.out
        have HB := Lib.hid hB
        have HLS := Lib.hid hls
        have HL5 := Lib.hid hl5
        have HY := Lib.hid hy
        have HQ := Lib.hid hq
        have HAB := Lib.hid hab.2
        have ha := hab.1
        have HLay := Lib.hid hlay
        clear hls hl5 hlay hB hab
        obtain ⟨ao, cp', hpv, _, _, hcs⟩ := dkPv HB.out
        obtain ⟨gp, rfl, hcs2⟩ := hcs (show 0 < D1.ps.length by rw [HU.out]; omega)
        obtain ⟨c1, c2⟩ := hcs2 j (a, b) q hy hq
        rw [HPV.out] at hpv
        simp only [Value.slice.injEq] at hpv
        obtain rfl := hpv.1
        unfold slv at c2
        simp only at c1
        clear hcs hcs2 hpv hy hq q1 qf
        go_wp2_with fail
        have h0 := HB.out.call (fresh1 wr (.cells #[.int .i64 (a : Nat), .slice (some ⟨q, 0, none⟩) 512 512] 85 (0, 0)))
        obtain ⟨x1, x2⟩ := cell_new2 wr (.int .i64 (a : Nat)) (.slice (some ⟨q, 0, none⟩) 512 512) 85 (0, 0)
        generalize hU : wr.alloc (.cells #[.int .i64 (a : Nat), .slice (some ⟨q, 0, none⟩) 512 512] 85 (0, 0)) = U at h0 x1 x2 ⊢
        generalize hbx : wr.heap.size = bx at x1 x2 ⊢
        obtain ⟨q0, _, _, _, _, _, qf⟩ := dkCells h0
        obtain ⟨g, cap, hlv, hcap, hbl, hbs⟩ := dkLv h0 (by simp only; rw [HLS.out]; exact HW1.out.lo)
        obtain ⟨bk, hbk⟩ : ∃ bk, L.bs[a]? = some bk := ⟨L.bs[a]'(by rw [hbl]; simp only; rw [HLS.out]; exact ha), List.getElem?_eq_getElem _⟩
        have c3 := hbs a bk hbk
        simp only at hlv
        rw [hlv] at q0
        unfold slv at c3
        have HU0 := Lib.hid h0
        have HBK := Lib.hid hbk
        have hal : (a : Int) < ls.length := by rw [HLS.out]; omega
        clear hlv hcap hbl hbs hbk h0 c1 c2 hbx
        go_still_tail 10, (by kernel_rfl)
        obtain ⟨l0, hl0⟩ : ∃ l0, ls[a]? = some l0 := ⟨ls[a]'(by omega), List.getElem?_eq_getElem _⟩
        have HL0 := Lib.hid (HL5.out l0 (List.mem_of_getElem? hl0))
        have hO := HU0.out.drew.rowsOwn 2 rfl a HBK.out hl0
        have hR := (HU0.out.drew.rowsOwn 4 rfl j HQ.out (show (D1.ps.map Prod.snd)[j]? = some b by rw [List.getElem?_map, HY.out]; rfl)).rd
        clear hl0 q0 qf c3
        go_wp2_with (with_reducible refine wpList_copy_bytes rfl (.tmp 27) (.tmp 29) 37 37 rfl 5 i0 Try.underlying37 hi hz1 bk 512 512 (some ⟨q, 0, none⟩) 512 512 ?hd ?hs 512 5 l0 b ?hO ?hL ?hr ?hl ?hmn ?_)
        case hL => exact HL0.out
        case hl => exact HAB.out
        intro w3 hO3 _ hB3
        have HJ' := Lib.hid (laidJ_succ HLS.out HL5.out HLay.out HY.out HAB.out (dkRow HU0.out.drew HBK.out hB3 (own_cut hO3 HL0.out)))
        clear hO hR hO3 hB3 HJ HB HU0 x1 x2 hU
        go_wp2_with fail
        go_roundw
        case rel => exact ⟨j + 1, by omega, by go_num, HJ'.out⟩
        case measure => simp [intOf]; omega
      · obtain rfl : j = u := by omega
        obtain ⟨ls, hls, hl5, hlay, hB⟩ := HJ.out
        rw [← HU.out, List.drop_length] at hlay
        simp only [Dk.lay] at hlay
        have HB := Lib.hid (dkPendNil hB)
        have HLay := Lib.hid hlay
        obtain ⟨_, q1, _, _, _, _, qf⟩ := dkCells hB
        clear hls hl5 hlay hB
        go_wp2_with fail
        go_ret
        refine ⟨L.clear, ?_, ?_⟩
        · rw [HE.out] <;> rfl
        · rw [HD0.out, ← HLay.out]; exact HB.out
  · have hne : (x != 0) = true := by rw [bne_iff_ne]; exact hx0
    have HX0 := Lib.hid (show D.flushD = D1 by rw [HD.out, if_neg hx0])
    clear hx0
    go_wp2_with fail
    go_ret
    refine ⟨L, ?_, ?_⟩
    · rw [HE.out] <;> rfl
    · rw [HX0.out]; exact HB1.out
end Go.Proofs.Ytkndlpihhfjcpaa
