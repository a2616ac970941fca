/- The program's device: Write. -/
import Derived.Test.YtkndlpihhfjcpaaDkRead
namespace Go.Proofs.Ytkndlpihhfjcpaa
open Go.RowKit
theorem info_wr : (Try.prog.info? 85).map (fun i => (i.zero, i.size, i.bytes)) = some (some (.agg #[.int .i64 0, .slice none 0 0]), 2, 32) := by kernel_rfl
theorem cell_new2 (w : World) (u v : Value) (t : TypeId) (fr : Nat × Nat) : (w.alloc (.cells #[u, v] t fr)).cell? ⟨w.heap.size, 0, none⟩ = some u ∧ (w.alloc (.cells #[u, v] t fr)).cell? ⟨w.heap.size, 1, none⟩ = some v := by
  have h : (w.alloc (.cells #[u, v] t fr)).heap[w.heap.size]? = some (.cells #[u, v] t fr) := heap_alloc_new w _
  exact ⟨cell_of_row _ _ 0 _ _ _ h, cell_of_row _ _ 1 _ _ _ h⟩
def Lay.push (L : Lay) (v : Value) (g : Nat) : Lay := { L with pv := v, qs := L.qs ++ [g] }
theorem dkPushed {w W : World} {p : Nat} {L : Lay} {D : Dk} {rest : List It} {g gg cap k : Nat} {b : List (BitVec 8)} (hq : L.qs.length = D.ps.length)
    (h : Bag w W (D.box L p :: .lst 37 1 L.lv D.ls.length (L.bs.map slv) :: .rows 5 512 L.bs D.ls :: .lst 85 2 (.slice (some ⟨g, 0, none⟩) (D.ps.length + 1) cap) (D.ps.length + 1) (pcs D.ps L.qs ++ [.int .i64 (k : Nat), slv gg]) :: .rows 5 512 (L.qs ++ [gg]) (D.ps.map Prod.snd ++ [b]) :: .grp (L.mts D.fs) :: rest)) :
    Bag w (W.setCell ⟨p, 1, none⟩ (.slice (some ⟨g, 0, none⟩) (D.ps.length + 1) cap)) (dkl p (L.push (.slice (some ⟨g, 0, none⟩) (D.ps.length + 1) cap) gg) { D with ps := D.ps ++ [(k, b)] } rest) := by
  have h1 := h.put 0 rfl 1 (.slice (some ⟨g, 0, none⟩) (D.ps.length + 1) cap)
  unfold dkl Lay.push
  simp only [List.length_append, List.length_singleton, List.map_append, List.map_cons, List.map_nil]
  rw [pcs_app hq (k, b) gg]
  exact h1
theorem dkPushRow {w W W' : World} {p : Nat} {L : Lay} {D : Dk} {rest : List It} {gg : Nat} {b : List (BitVec 8)} (h : Bag w W (dkl p L D rest)) (hb : Below W.heap.size W W') (hO : Own W' gg 512 5 b) (hg : W.heap.size ≤ gg) :
    Bag w W' (D.box L p :: .lst 37 1 L.lv D.ls.length (L.bs.map slv) :: .rows 5 512 L.bs D.ls :: .lst 85 2 L.pv D.ps.length (pcs D.ps L.qs) :: .rows 5 512 (L.qs ++ [gg]) (D.ps.map Prod.snd ++ [b]) :: .grp (L.mts D.fs) :: rest) := h.rowsPush 4 rfl hb hO hg
def WriteR (w : World) (p : Nat) (D : Dk) (rest : List It) (i : Int) (b : List (BitVec 8)) (e : Ending) (W' : World) : Prop := ∃ L', e = .returned (.int .i64 (D.writeE i b)) ∧ Bag w W' (dkl p L' (D.writeD i b) rest)
set_option maxRecDepth 100000 in
set_option maxHeartbeats 1000000 in
theorem dkWrite (w W : World) (p : Nat) (L : Lay) (D : Dk) (rest : List It) (m : Nat) (i : Int) (ao : Option Addr) (b : List (BitVec 8)) (n c : Nat) (hbn : b.length = n) (hw : D.Wf m) (hm : m ≤ 1000000000000) (hf : D.fs.length ≤ 1000000000000000) (hi0 : -9223372036854775808 ≤ i) (hi1 : i ≤ 9223372036854775807)
   (hr : ∀ W' D', Bag w W' (dkl p L D' rest) → Rd W' ao b) (hB : Bag w W (dkl p L D rest)) :
   Calls Try.prog 36 #[.pointer (some ⟨p, 0, none⟩), .int .i64 i, .slice ao n c] W (WriteR w p D rest i b) := by
  obtain ⟨q0, q1, q2, q3, q4, q5, qf⟩ := dkCells hB
  obtain ⟨g, cap, hlv, hcap, hbl, hbs⟩ := dkLv hB hw.lo
  obtain ⟨s, hs⟩ : ∃ n, D.ls.length = n := ⟨_, rfl⟩
  have hnlo := hw.lo
  have hnhi := hw.hi
  rw [hs] at hnlo hnhi
  rw [hlv, hs] at q0
  have HW := Lib.hid hw
  have HB := Lib.hid hB
  have HN := Lib.hid hs
  have HBN := Lib.hid hbn
  have HR := Lib.hid hr
  clear hB hlv hcap hbl hbs q1 q2 q3 q4 q5 hw hs hbn hr
  by_cases hi : 0 ≤ i ∧ i < s
  · obtain ⟨k, rfl⟩ : ∃ k : Nat, i = k := ⟨i.toNat, by omega⟩
    have hkn : k < s := by omega
    have HI := Lib.hid (show D.inn k = true by unfold Dk.inn; rw [HN.out]; simpa using hkn)
    clear hi
    by_cases h5 : n = 512
    · subst h5
      obtain ⟨x, hx⟩ : ∃ x, D.opE = x := ⟨_, rfl⟩
      have HX := Lib.hid hx
      clear hx
      have HE := Lib.hid (show D.writeE k b = x by unfold Dk.writeE; rw [HI.out, HBN.out, HX.out]; rfl)
      have HD := Lib.hid (show D.writeD k b = if x = 0 then { D.opD with ps := D.ps ++ [(k, b)] } else D.opD by unfold Dk.writeD; rw [HI.out, HBN.out, HX.out]; rfl)
      go_enter Try.func36, Try.ntmps36
      go_wp2_with fail
      refine (dkOperate w W p L D rest (by have := HW.out.count; omega) hf HB.out).mono ?_
      rintro e w1 ⟨rfl, hB1⟩
      rw [HX.out]
      obtain ⟨D1, hD1⟩ : ∃ D1, D.opD = D1 := ⟨_, rfl⟩
      rw [hD1] at hB1 HD
      have hps : D1.ps = D.ps := by rw [← hD1, Dk.opD_ps]
      rw [← hps] at HD
      have HPS := Lib.hid hps
      have HB1 := Lib.hid hB1
      clear hB1 HB q0 qf hD1 hps
      by_cases hx0 : x = 0
      · subst hx0
        have HD0 := Lib.hid (show D.writeD k b = { D1 with ps := D1.ps ++ [(k, b)] } from HD.out)
        clear HD
        obtain ⟨_, q1, _, _, _, _, qf⟩ := dkCells HB1.out
        obtain ⟨aq, cp, hpv, hcp, hql, hqs⟩ := dkPv HB1.out
        have hum : D1.ps.length ≤ m := by rw [HPS.out]; exact HW.out.pend
        rw [hpv] at q1
        have HPV := Lib.hid hpv
        have HQL := Lib.hid hql
        have hpl : p < w1.heap.size := World.block_lt_of_cell? w1 _ q1
        clear hpv hqs hql
        obtain ⟨is, his, hsz0, hsz1, hsz2⟩ := info_parts info_wr
        go_wp2_with fail
        go_region_law (first
          | (go_simp; go_at_call 38; refine (dkSector ao b c _ HBN.out (HR.out _ D1 HB1.out.drew)).mono ?_; rintro e W3 ⟨gg, rfl, hgg, hOO, hbb⟩; have HB3 := Lib.hid (dkPushRow HB1.out.drew hbb hOO hgg); obtain ⟨_, q1', _, _, _, _, qf'⟩ := dkCells (HB1.out.drew.call hbb); rw [HPV.out] at q1'; have hpl' : p < W3.heap.size := World.block_lt_of_cell? W3 _ q1'; clear hOO hbb hgg; unfold slv)
          | (refine Bag.appendStep2 rfl _ _ 81 rfl 85 is _ 32 Try.underlying81 his hsz0 hsz1 hsz2 rfl 3 _ D1.ps.length _ (HB3.out.call (fresh1 W3 (.cells #[.int .i64 (k : Nat), slv gg] 85))) rfl HPV.out.symm W3.heap.size 0 rfl _ _ (cell_new2 W3 _ _ _ _).1 (cell_new2 W3 _ _ _ _).2 rfl rfl (by unfold maxLen; omega) (by omega) ?_; intro gx cx W4 hB4 hsz; have HB4 := Lib.hid (dkPushed (k := k) (b := b) HQL.out hB4); have z1 : W4.cell? ⟨p, 1, none⟩ = some (.slice aq D1.ps.length cp) := (by rw [← HPV.out]; exact cell_of_row W4 p 1 _ _ _ (hB4.box 0 rfl)); have zf : W4.frozen? ⟨p, 1, none⟩ = false := frozen_of_row W4 p 1 _ _ (hB4.box 0 rfl); clear hB4))
        all_goals
          go_wp2_with fail
          go_ret
          refine ⟨L.push (.slice (some ⟨gx, 0, none⟩) (D1.ps.length + 1) cx) gg, ?_, ?_⟩
          · rw [HE.out] <;> rfl
          · rw [HD0.out]; exact HB4.out
      · have hne : (x != 0) = true := by rw [bne_iff_ne]; exact hx0
        have HX0 := Lib.hid hx0
        clear hx0
        go_wp2_with fail
        go_ret
        refine ⟨L, ?_, ?_⟩
        · rw [HE.out] <;> rfl
        · rw [HD.out, if_neg HX0.out]; exact HB1.out
    · have hne : ((n : Int) != 512) = true := by rw [bne_iff_ne]; omega
      have HE := Lib.hid (show D.writeE k b = 102 by unfold Dk.writeE; rw [HI.out, HBN.out, if_neg h5]; rfl)
      have HD := Lib.hid (show D.writeD k b = D by unfold Dk.writeD; rw [HI.out, HBN.out, if_neg h5]; rfl)
      clear h5
      go_enter Try.func36, Try.ntmps36
      go_wp2_with fail
      go_ret
      refine ⟨L, ?_, ?_⟩
      · rw [HE.out] <;> rfl
      · rw [HD.out]; exact HB.out
  · have HI := Lib.hid (show D.inn i = false by unfold Dk.inn; rw [HN.out]; exact decide_eq_false hi)
    have HE := Lib.hid (show D.writeE i b = 101 by unfold Dk.writeE; rw [HI.out]; rfl)
    have HD := Lib.hid (show D.writeD i b = D by unfold Dk.writeD; rw [HI.out]; rfl)
    have hi' : i < 0 ∨ (0 ≤ i ∧ (s : Int) ≤ i) := by omega
    clear hi
    rcases hi' with hi | ⟨hi, hin⟩
    all_goals
      go_enter Try.func36, Try.ntmps36
      go_wp2_with fail
      go_ret
      refine ⟨L, ?_, ?_⟩
      · rw [HE.out] <;> rfl
      · rw [HD.out]; exact HB.out
end Go.Proofs.Ytkndlpihhfjcpaa
