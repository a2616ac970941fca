/- The law's model of a device: what lasts, what pends. The law's model: what a read must tell; are these the bytes that last? The law's model: are these the bytes that last? -/
import Derived.Test.YtkndlpihhfjcpaaDlHelp
import Derived.Test.YtkndlpihhfjcpaaRkMem
import Derived.Test.YtkndlpihhfjcpaaCut
namespace Go.Proofs.Ytkndlpihhfjcpaa
open Go.RowKit
structure MLay where
  pv : Value
  es : List (Option (Nat × Nat))
  hs : List (Nat × Nat)
  P : List (Nat × Nat × List (BitVec 8))
def MLay.cells (M : MLay) : Array Value := (M.es.map svo ++ [M.pv]).toArray
def mkl (q : Nat) (M : MLay) (ls : List (List (BitVec 8))) (ps : List (Nat × List (BitVec 8))) (rest : List It) : List It :=
  .box q M.cells 41 :: .lst 89 2 M.pv ps.length (hcs ps M.hs) :: .pool 5 M.P :: .fact (AllE M.P M.es ls ∧ AllP M.P M.hs ps ∧ M.es.length = 32) :: rest
section
variable {w W : World} {q : Nat} {M : MLay} {ls : List (List (BitVec 8))} {ps : List (Nat × List (BitVec 8))} {rest : List It}
theorem mkE (h : Bag w W (mkl q M ls ps rest)) : AllE M.P M.es ls := (h.factOf 3 rfl).1
theorem mkP (h : Bag w W (mkl q M ls ps rest)) : AllP M.P M.hs ps := (h.factOf 3 rfl).2.1
theorem mkN (h : Bag w W (mkl q M ls ps rest)) : M.es.length = 32 := (h.factOf 3 rfl).2.2
theorem mkCell (h : Bag w W (mkl q M ls ps rest)) {i : Nat} {x : Option (Nat × Nat)} (hx : M.es[i]? = some x) : W.cell? ⟨q, i, none⟩ = some (svo x) := by
  rw [cell_of_row W q i _ _ _ (h.box 0 rfl)]
  unfold MLay.cells
  rw [List.getElem?_toArray, List.getElem?_append_left (by have := (List.getElem?_eq_some_iff.1 hx).1; simpa using this), List.getElem?_map, hx]
  rfl
theorem mkPends (h : Bag w W (mkl q M ls ps rest)) : W.cell? ⟨q, 32, none⟩ = some M.pv := by
  have hn := mkN h
  rw [cell_of_row W q 32 _ _ _ (h.box 0 rfl)]
  unfold MLay.cells
  rw [List.getElem?_toArray, List.getElem?_append_right (by simp [hn])]
  simp [hn]
theorem mkFree (h : Bag w W (mkl q M ls ps rest)) (i : Nat) : W.frozen? ⟨q, i, none⟩ = false := frozen_of_row W q i _ _ (h.box 0 rfl)
theorem mkPv (h : Bag w W (mkl q M ls ps rest)) : ∃ ao cap, M.pv = .slice ao ps.length cap ∧ ps.length ≤ cap ∧ (0 < ps.length → ∃ g, ao = some ⟨g, 0, none⟩ ∧ ∀ (j : Nat) (p : Nat × List (BitVec 8)) (x : Nat × Nat), ps[j]? = some p → M.hs[j]? = some x → W.cell? ⟨g, j * 2, none⟩ = some (.int .i64 (p.1 : Nat)) ∧ W.cell? ⟨g, j * 2 + 1, none⟩ = some (svo (some x))) := by
  obtain ⟨ao, cap, h1, h2⟩ := h.lstForm2 1 rfl
  refine ⟨ao, cap, h1, h2, fun h0 => ?_⟩
  obtain ⟨g, cap', h3, _, h4⟩ := h.lstAt2 1 rfl h0
  rw [h1] at h3
  simp only [Value.slice.injEq, true_and] at h3
  obtain ⟨rfl, rfl⟩ := h3
  refine ⟨g, rfl, fun j p x hp hx => ?_⟩
  have hjl : j < ps.length := (List.getElem?_eq_some_iff.1 hp).1
  obtain ⟨e1, e2⟩ := h4 j hjl
  obtain ⟨c1, c2⟩ := hcs_get hp hx
  exact ⟨e1.trans c1, e2.trans c2⟩
end
theorem mkBoxPv {W : World} {q : Nat} {M : MLay} {t : TypeId} (hn : M.es.length = 32) (h : W.heap[q]? = some (.cells M.cells t (0, 0))) : W.cell? ⟨q, 32, none⟩ = some M.pv := by
  rw [cell_of_row W q 32 _ _ _ h]
  unfold MLay.cells
  rw [List.getElem?_toArray, List.getElem?_append_right (by simp [hn])]
  simp [hn]
def MLay.put (M : MLay) (a : Nat) (y : Nat × Nat) : MLay := { M with es := M.es.set a (some y) }
def MLay.clear (M : MLay) : MLay := { M with pv := .slice none 0 0, hs := [] }
def MLay.push (M : MLay) (v : Value) (g cap : Nat) (b : List (BitVec 8)) : MLay := { M with pv := v, hs := M.hs ++ [(g, cap)], P := (g, cap, b) :: M.P }
theorem mcells_put (M : MLay) (a : Nat) (y : Nat × Nat) (ha : a < M.es.length) : M.cells.setIfInBounds a (svo (some y)) = (M.put a y).cells := by
  unfold MLay.cells MLay.put
  apply Array.ext'
  simp only [Array.toList_setIfInBounds]
  rw [List.set_append_left _ _ (by simpa using ha), List.map_set]
theorem mcells_pv (M : MLay) (v : Value) (hs : List (Nat × Nat)) (P : List (Nat × Nat × List (BitVec 8))) (hn : M.es.length = 32) : M.cells.setIfInBounds 32 v = (MLay.mk v M.es hs P).cells := by
  unfold MLay.cells
  apply Array.ext'
  simp only [Array.toList_setIfInBounds]
  rw [List.set_append_right _ _ (by simp [hn])]
  simp [hn]
section
variable {w W : World} {q : Nat} {M : MLay} {ls : List (List (BitVec 8))} {ps : List (Nat × List (BitVec 8))} {rest : List It}
theorem mkPut (h : Bag w W (mkl q M ls ps rest)) {a : Nat} {y : Nat × Nat} {b : List (BitVec 8)} (ha : a < ls.length) (hy : (y.1, y.2, b) ∈ M.P) : Bag w (W.setCell ⟨q, a, none⟩ (svo (some y))) (mkl q (M.put a y) (ls.set a b) ps rest) := by
  have hE := mkE h
  have h1 := (h.put 0 rfl a (svo (some y))).factSet 3 rfl (q := AllE M.P (M.es.set a (some y)) (ls.set a b) ∧ AllP M.P M.hs ps ∧ (M.es.set a (some y)).length = 32) ⟨hE.set a hy, mkP h, by rw [List.length_set]; exact mkN h⟩
  rw [mcells_put M a y (by rw [hE.1]; exact ha)] at h1
  exact h1
theorem mkPendNil (h : Bag w W (mkl q M ls ps rest)) : Bag w (W.setCell ⟨q, 32, none⟩ (.slice none 0 0)) (mkl q M.clear ls [] rest) := by
  have h1 := ((h.put 0 rfl 32 (.slice none 0 0)).lstDrop 1 rfl).factSet 3 rfl (q := AllE M.P M.es ls ∧ AllP M.P [] [] ∧ M.es.length = 32) ⟨mkE h, AllP.nil _, mkN h⟩
  rw [mcells_pv M (.slice none 0 0) [] M.P (mkN h)] at h1
  exact h1
theorem mkPushRow {W' : World} {gg cc : Nat} {b : List (BitVec 8)} (h : Bag w W (mkl q M ls ps rest)) (hb : Below W.heap.size W W') (hO : Own W' gg cc 5 b) (hg : W.heap.size ≤ gg) :
    Bag w W' (.box q M.cells 41 :: .lst 89 2 M.pv ps.length (hcs ps M.hs) :: .pool 5 ((gg, cc, b) :: M.P) :: .fact (AllE M.P M.es ls ∧ AllP M.P M.hs ps ∧ M.es.length = 32) :: rest) := h.poolPush 2 rfl hb hO hg
theorem mkPushed {g gg cc cap k : Nat} {b : List (BitVec 8)} (hE : AllE M.P M.es ls) (hP : AllP M.P M.hs ps) (hN : M.es.length = 32)
    (h : Bag w W (.box q M.cells 41 :: .lst 89 2 (.slice (some ⟨g, 0, none⟩) (ps.length + 1) cap) (ps.length + 1) (hcs ps M.hs ++ [.int .i64 (k : Nat), svo (some (gg, cc))]) :: .pool 5 ((gg, cc, b) :: M.P) :: .fact (AllE M.P M.es ls ∧ AllP M.P M.hs ps ∧ M.es.length = 32) :: rest)) :
    Bag w (W.setCell ⟨q, 32, none⟩ (.slice (some ⟨g, 0, none⟩) (ps.length + 1) cap)) (mkl q (M.push (.slice (some ⟨g, 0, none⟩) (ps.length + 1) cap) gg cc b) ls (ps ++ [(k, b)]) rest) := by
  have h1 := (h.put 0 rfl 32 (.slice (some ⟨g, 0, none⟩) (ps.length + 1) cap)).factSet 3 rfl (q := AllE ((gg, cc, b) :: M.P) M.es ls ∧ AllP ((gg, cc, b) :: M.P) (M.hs ++ [(gg, cc)]) (ps ++ [(k, b)]) ∧ M.es.length = 32) ⟨hE.mono _, hP.push (gg, cc) (k, b), hN⟩
  rw [mcells_pv M (.slice (some ⟨g, 0, none⟩) (ps.length + 1) cap) (M.hs ++ [(gg, cc)]) ((gg, cc, b) :: M.P) hN] at h1
  unfold mkl MLay.push
  simp only [List.length_append, List.length_singleton]
  rw [hcs_app hP.1 (k, b) (gg, cc)]
  exact h1
end
def MLaidR (w : World) (q : Nat) (M : MLay) (ls : List (List (BitVec 8))) (ps : List (Nat × List (BitVec 8))) (rest : List It) (a : Nat) (y : Nat × Nat) (b : List (BitVec 8)) (e : Ending) (W' : World) : Prop := ∃ v, e = .returned v ∧ Bag w W' (mkl q (M.put a y) (ls.set a b) ps rest)
set_option maxRecDepth 20000 in
set_option maxHeartbeats 400000 in
theorem mkLay (w W : World) (q : Nat) (M : MLay) (ls : List (List (BitVec 8))) (ps : List (Nat × List (BitVec 8))) (rest : List It) (a hg hc : Nat) (b : List (BitVec 8)) (ha : a < ls.length) (hy : (hg, hc, b) ∈ M.P) (hB : Bag w W (mkl q M ls ps rest)) :
   Calls Try.prog 44 #[.pointer (some ⟨q, 0, none⟩), .agg #[.int .i64 (a : Nat), .slice (some ⟨hg, 0, none⟩) 512 hc]] W (MLaidR w q M ls ps rest a (hg, hc) b) := by
  have h0 := hB.call (fresh1 W (.cells #[.int .i64 (a : Nat), .slice (some ⟨hg, 0, none⟩) 512 hc] 89 (0, 0)))
  obtain ⟨x1, x2⟩ := cell_new2 W (.int .i64 (a : Nat)) (.slice (some ⟨hg, 0, none⟩) 512 hc) 89 (0, 0)
  have HY := Lib.hid hy
  clear hB hy
  go_enter Try.func44, Try.ntmps44
  go_wp2
  generalize hU : W.alloc (.cells #[.int .i64 (a : Nat), .slice (some ⟨hg, 0, none⟩) 512 hc] 89 (0, 0)) = U at h0 x1 x2 ⊢
  generalize hbx : W.heap.size = bx at x1 x2 ⊢
  have HB := Lib.hid h0
  clear h0 hU hbx
  have hE := mkE HB.out
  have hN := mkN HB.out
  obtain ⟨x, hx⟩ : ∃ x, M.es[a]? = some x := ⟨M.es[a]'(by rw [hE.1]; exact ha), List.getElem?_eq_getElem _⟩
  have c := mkCell HB.out hx
  have hff := mkFree HB.out a
  have hl32 : ls.length = 32 := by rw [← hE.1]; exact hN
  have ha2 : a < 32 := by omega
  have ha' : (a : Int) < 32 := by omega
  have HA := Lib.hid ha
  clear hE hN hx hl32 ha
  go_still_tail 8, (by kernel_rfl)
  have HB2 := Lib.hid (mkPut (y := (hg, hc)) HB.out.drew HA.out HY.out)
  go_wp2_with fail
  refine bodyPost_end (results_none rfl _ _ _) rfl ?_
  exact ⟨_, rfl, HB2.out⟩
open Go.RowKit
def MLatR (w : World) (q : Nat) (M : MLay) (ls : List (List (BitVec 8))) (ps : List (Nat × List (BitVec 8))) (rest : List It) (i : Nat) (e : Ending) (W' : World) : Prop := ∃ ao cap, e = .returned (.slice ao 512 cap) ∧ Rd W' ao (Dk.latest ls ps i) ∧ Bag w W' (mkl q M ls ps rest)
set_option maxRecDepth 20000 in
set_option maxHeartbeats 800000 in
theorem mkLatest (w W : World) (q : Nat) (M : MLay) (ls : List (List (BitVec 8))) (ps : List (Nat × List (BitVec 8))) (rest : List It) (k : Nat) (hk : k < 32) (hs : ps.length ≤ 1000000000000) (hB : Bag w W (mkl q M ls ps rest)) :
   Calls Try.prog 42 #[.pointer (some ⟨q, 0, none⟩), .int .i64 (k : Nat)] W (MLatR w q M ls ps rest k) := by
  have q32 := mkPends hB
  have hff := mkFree hB 32
  obtain ⟨ao, cp, hpv, hcp, hqs⟩ := mkPv hB
  obtain ⟨s, hss⟩ : ∃ s, ps.length = s := ⟨_, rfl⟩
  rw [hpv, hss] at q32
  rw [hss] at hcp hqs hs
  have HB := Lib.hid hB
  have HS := Lib.hid hss
  have HQ := Lib.hid hqs
  have HP := Lib.hid (mkP hB)
  have HE := Lib.hid (mkE hB)
  have HN := Lib.hid (mkN hB)
  clear hB hpv hss hqs
  go_enter Try.func42, Try.ntmps42
  go_wp2_with fail
  go_loop [5] (fun t => ∃ z : Int, -1 ≤ z ∧ z < s ∧ t = .int .i64 z ∧ Dk.latest ls (ps.take (z + 1).toNat) k = Dk.latest ls ps k) (fun t => (intOf t + 1).toNat)
  case atStart => exact ⟨(s : Int) - 1, by omega, by omega, rfl, by rw [show ((s : Int) - 1 + 1).toNat = ps.length by rw [HS.out]; omega, List.take_length]⟩
  case round =>
    obtain ⟨z, hz0, hz1, rfl, hz⟩ := hrel
    have HZ := Lib.hid hz
    clear hz
    by_cases hzz : 0 ≤ z
    · obtain ⟨j, rfl⟩ : ∃ j : Nat, z = j := ⟨z.toNat, by omega⟩
      have hj : j < s := by omega
      obtain ⟨y, hy⟩ : ∃ y, ps[j]? = some y := ⟨ps[j]'(by rw [HS.out]; exact hj), List.getElem?_eq_getElem _⟩
      obtain ⟨h, hh⟩ : ∃ h, M.hs[j]? = some h := ⟨M.hs[j]'(by rw [HP.out.1, HS.out]; exact hj), List.getElem?_eq_getElem _⟩
      obtain ⟨gp, rfl, hcs⟩ := HQ.out (by omega)
      obtain ⟨c1, c2⟩ := hcs j y h hy hh
      unfold svo at c2
      have HT := Lib.hid (take_at hy)
      have HPP := Lib.hid (HP.out.2 j h y hh hy)
      clear HQ hcs hy hh
      obtain ⟨a, b⟩ := y
      obtain ⟨hg, hc⟩ := h
      simp only at c1 c2
      by_cases hak : a = k
      · subst hak
        have HV := Lib.hid (show Dk.latest ls ps a = b by rw [← HZ.out, show ((j : Int) + 1).toNat = j + 1 by omega, HT.out, latest_snoc, if_pos rfl])
        go_wp2_with fail
        go_ret
        refine ⟨some ⟨hg, 0, none⟩, hc, rfl, ?_, HB.out⟩
        rw [HV.out]
        exact (HB.out.poolOwn 2 rfl HPP.out).rd
      · have hne := ints_ne hak
        have HV := Lib.hid (show Dk.latest ls (ps.take j) k = Dk.latest ls ps k by rw [← HZ.out, show ((j : Int) + 1).toNat = j + 1 by omega, HT.out, latest_snoc, if_neg hak])
        clear hak
        go_wp2_with fail
        go_round
        case rel => exact ⟨(j : Int) - 1, by omega, by omega, rfl, by rw [show ((j : Int) - 1 + 1).toNat = j by omega]; exact HV.out⟩
        case measure => (simp [intOf] <;> omega)
    · obtain rfl : z = -1 := by omega
      obtain ⟨x, hx⟩ : ∃ x, M.es[k]? = some x := ⟨M.es[k]'(by rw [HN.out]; exact hk), List.getElem?_eq_getElem _⟩
      have hlk : ls[k]? = some (ls.getD k []) := by rw [List.getD, List.getElem?_eq_getElem (by rw [← HE.out.1, HN.out]; exact hk)]; rfl
      have HV := Lib.hid (show ls.getD k [] = Dk.latest ls ps k by rw [← HZ.out]; rfl)
      have c := mkCell HB.out hx
      have hst := HE.out.2 k x _ hx hlk
      have hk' : (k : Int) < 32 := by omega
      clear hx hlk
      rcases hst with ⟨rfl, hl⟩ | ⟨y, rfl, hy⟩
      · unfold svo at c
        have HL := Lib.hid hl
        clear hl
        have hfull := fullOf 0#8 W
        rw [← n8_zero] at hfull
        go_wp2_with fail
        refine hfull.mono ?_
        rintro e w1 ⟨gg, rfl, hgg, hO, hb⟩
        have HB2 := Lib.hid (HB.out.call hb)
        have HR := Lib.hid hO.rd
        clear hgg hO hb hfull
        unfold slv
        go_wp2_with fail
        go_ret
        refine ⟨some ⟨gg, 0, none⟩, 512, rfl, ?_, HB2.out⟩
        rw [← HV.out, HL.out, ← fullB_zero]
        exact HR.out
      · have HY := Lib.hid hy
        clear hy
        unfold svo at c
        go_wp2_with fail
        go_ret
        refine ⟨some ⟨y.1, 0, none⟩, y.2, rfl, ?_, HB.out⟩
        rw [← HV.out]
        exact (HB.out.poolOwn 2 rfl HY.out).rd
open Go.RowKit
theorem flat_chunk {ls : List (List (BitVec 8))} (h : ∀ l ∈ ls, l.length = 512) {i : Nat} {s : List (BitVec 8)} (hi : ls[i]? = some s) : Dk.chunk ls.flatten i = s := by
  obtain ⟨hl, rfl⟩ := List.getElem?_eq_some_iff.1 hi
  have e : ls = ls.take i ++ ls[i] :: ls.drop (i + 1) := by rw [← List.drop_eq_getElem_cons hl, List.take_append_drop]
  have e1 : (ls.take i).flatten.length = i * 512 := by
    rw [flat_len _ (fun l hl => h l (List.mem_of_mem_take hl)), List.length_take]
    congr 1
    omega
  have e2 : ls[i].length = 512 := h _ (List.getElem_mem hl)
  unfold Dk.chunk
  conv => lhs; rw [e]
  rw [List.flatten_append, List.flatten_cons, List.drop_left' e1, List.take_left' e2]
theorem cutRow2 (bb bo s cap j : Nat) (h : (j + 1) * 512 ≤ cap) (u : World) :
    (Instr.slice 37 (.slice (some ⟨bb, bo, none⟩) s cap) (some (.int .i64 (512 * (j : Int)))) (some (.int .i64 (512 * (j : Int) + 512))) none).run Try.prog u = .ok (.slice (some ⟨bb, bo + j * 512, none⟩) 512 (cap - j * 512)) u := by
  have h1 := cutRun (some ⟨bb, bo, none⟩) s cap (j * 512) 512 (by omega) u
  rw [show ((j * 512 : Nat) : Int) = 512 * (j : Int) by omega, show 512 * (j : Int) + ((512 : Nat) : Int) = 512 * (j : Int) + 512 by omega] at h1
  rw [h1]
  unfold cutAt
  rw [if_neg (by omega)]
  simp [Addr.add_lit]
def MIsR (w : World) (q : Nat) (M : MLay) (ls : List (List (BitVec 8))) (ps : List (Nat × List (BitVec 8))) (rest : List It) (e : Ending) (W' : World) : Prop := e = .returned (.bool true) ∧ Bag w W' (mkl q M ls ps rest)
set_option maxRecDepth 100000 in
set_option maxHeartbeats 1000000 in
theorem mkIs (w W : World) (q : Nat) (M : MLay) (ls : List (List (BitVec 8))) (ps : List (Nat × List (BitVec 8))) (rest : List It) (ao : Option Addr) (cap : Nat) (h5 : ∀ l ∈ ls, l.length = 512) (hc : 16384 ≤ cap)
   (hr : ∀ W', Bag w W' (mkl q M ls ps rest) → Rd W' ao ls.flatten) (hB : Bag w W (mkl q M ls ps rest)) :
   Calls Try.prog 21 #[.pointer (some ⟨q, 0, none⟩), .slice ao 16384 cap] W (MIsR w q M ls ps rest) := by
  have hE := mkE hB
  have hN := mkN hB
  have hl32 : ls.length = 32 := by rw [← hE.1]; exact hN
  have hfl : ls.flatten.length = 16384 := by rw [flat_len _ h5, hl32]
  obtain ⟨bb, bo, rfl, _⟩ := (hr W hB).at (by rw [hfl]; omega)
  have HB := Lib.hid hB
  have HR := Lib.hid hr
  have HE := Lib.hid hE
  have HN := Lib.hid hN
  have HL := Lib.hid hl32
  have H5 := Lib.hid h5
  clear hB hr hE hN hl32 hfl h5
  go_enter Try.func21, Try.ntmps21
  go_wp2_with fail
  go_loopw [5] (fun t wr => ∃ j : Nat, j ≤ 32 ∧ t = .int .i64 j ∧ Bag w wr (mkl q M ls ps rest)) (fun t _ => 32 - (intOf t).toNat)
  case atStart => exact ⟨0, Nat.zero_le _, rfl, HB.out⟩
  case round =>
    obtain ⟨j, hj, rfl, hB⟩ := hrel
    clear HB
    have HB := Lib.hid hB
    clear hB
    by_cases hlt : j < 32
    · obtain ⟨x, hx⟩ : ∃ x, M.es[j]? = some x := ⟨M.es[j]'(by rw [HN.out]; exact hlt), List.getElem?_eq_getElem _⟩
      obtain ⟨l, hl⟩ : ∃ l, ls[j]? = some l := ⟨ls[j]'(by rw [HL.out]; exact hlt), List.getElem?_eq_getElem _⟩
      have c := mkCell HB.out hx
      have hst := HE.out.2 j x l hx hl
      have HL5 := Lib.hid (H5.out l (List.mem_of_getElem? hl))
      have HCh := Lib.hid (flat_chunk H5.out hl)
      have hcut := cutRow2 bb bo 16384 cap j (by omega)
      have hj' : (j : Int) < 32 := by omega
      clear hx hl
      rcases hst with ⟨rfl, hz⟩ | ⟨y, rfl, hy⟩
      · unfold svo at c
        have HZ := Lib.hid hz
        clear hz
        have hfull := fullOf 0#8 wr
        rw [← n8_zero] at hfull
        go_wp2_with fail
        refine hfull.mono ?_
        rintro e w1 ⟨gg, rfl, hgg, hO, hb⟩
        have HB2 := Lib.hid (HB.out.call hb)
        have HRf := Lib.hid (show Rd w1 (some ⟨gg, 0, none⟩) l by rw [HZ.out, ← fullB_zero]; exact hO.rd)
        clear hgg hO hb hfull HB c
        unfold slv
        go_wp2_with fail
        have h := HR.out w1 HB2.out
        refine (sameTrue (some ⟨bb, bo + j * 512, none⟩) (some ⟨gg, 0, none⟩) l 512 512 _ _ w1 HL5.out HL5.out (by omega) (by have := (h.drop (j * 512)).take 512; rw [show (ls.flatten.drop (j * 512)).take 512 = l from HCh.out] at this; exact this) HRf.out).mono ?_
        rintro e w2 ⟨rfl, hst⟩
        have HB3 := Lib.hid (HB2.out.still hst)
        clear h hst hcut
        go_wp2_with fail
        go_roundw
        case rel => exact ⟨j + 1, by omega, by go_num, HB3.out⟩
        case measure => simp [intOf]; omega
      · unfold svo at c
        have HRf := Lib.hid (HB.out.poolOwn 2 rfl hy).rd
        clear hy
        go_wp2_with fail
        have h := HR.out wr HB.out
        refine (sameTrue (some ⟨bb, bo + j * 512, none⟩) (some ⟨y.1, 0, none⟩) l 512 512 _ _ wr HL5.out HL5.out (by omega) (by have := (h.drop (j * 512)).take 512; rw [show (ls.flatten.drop (j * 512)).take 512 = l from HCh.out] at this; exact this) HRf.out).mono ?_
        rintro e w2 ⟨rfl, hst⟩
        have HB3 := Lib.hid (HB.out.still hst)
        clear h hst hcut
        go_wp2_with fail
        go_roundw
        case rel => exact ⟨j + 1, by omega, by go_num, HB3.out⟩
        case measure => simp [intOf]; omega
    · go_wp2_with fail
      go_ret
      exact ⟨rfl, HB.out⟩
end Go.Proofs.Ytkndlpihhfjcpaa
