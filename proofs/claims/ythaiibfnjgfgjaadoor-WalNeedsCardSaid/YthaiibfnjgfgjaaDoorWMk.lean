/- The program's device: Read. The program's device: Write. The program's device: Flush. The program's device: Crash. The program's device: Arm. The program's device: Arm, the walk. The program's device: New. -/
import Derived.Test.YthaiibfnjgfgjaaDoorDkOp
import Derived.Laws.EntriesVeiled
namespace Go.Proofs.YthaiibfnjgfgjaaDoor
open Go.RowKit
theorem latest_snoc (ls : List (List (BitVec 8))) (l : List (Nat × List (BitVec 8))) (p : Nat × List (BitVec 8)) (i : Nat) : Dk.latest ls (l ++ [p]) i = if p.1 = i then p.2 else Dk.latest ls l i := by
  unfold Dk.latest
  rw [List.reverse_append, List.reverse_singleton, List.singleton_append, List.find?_cons]
  by_cases h : p.1 = i
  · simp [h]
  · have : (p.1 == i) = false := by rw [beq_eq_false_iff_ne]; exact h
    simp [this, h]
theorem take_at {α : Type} {l : List α} {j : Nat} {x : α} (h : l[j]? = some x) : l.take (j + 1) = l.take j ++ [x] := by
  obtain ⟨hj, rfl⟩ := List.getElem?_eq_some_iff.1 h
  exact List.take_succ_eq_append_getElem hj
def ReadR (w : World) (p : Nat) (L : Lay) (D : Dk) (rest : List It) (i : Int) (e : Ending) (W' : World) : Prop := ∃ ao cap, e = .returned (.tuple #[.slice ao (D.readB i).length cap, .int .i64 (D.readE i)]) ∧ Bag w W' (.mine 5 ao cap (D.readB i) :: dkl p L (D.readD i) rest)
theorem Bag.mineNil {w W : World} {l : List It} (h : Bag w W l) (e : TypeId) : Bag w W (.mine e none 0 [] :: l) :=
  h.mine (Below.refl _ W) (Or.inl ⟨rfl, rfl, rfl⟩)
theorem ints_ne {a b : Nat} (h : ¬ a = b) : ((a : Int) == (b : Int)) = false := by rw [beq_eq_false_iff_ne]; omega
set_option maxRecDepth 20000 in
set_option maxHeartbeats 800000 in
theorem dkRead (w W : World) (p : Nat) (L : Lay) (D : Dk) (rest : List It) (m : Nat) (i : Int) (hw : D.Wf m) (hm : m ≤ 1000000000000000) (hf : D.fs.length ≤ 1000000000000000) (hi0 : -9223372036854775808 ≤ i) (hi1 : i ≤ 9223372036854775807) (hB : Bag w W (dkl p L D rest)) :
   Calls Tryd.prog 57 #[.pointer (some ⟨p, 0, none⟩), .int .i64 i] W (ReadR w p L D rest i) := by
  obtain ⟨q0, q1, q2, q3, q4, q5, qf⟩ := dkCells hB
  obtain ⟨g, cap, hlv, hcap, hbl, hbs⟩ := dkLv hB hw.lo
  obtain ⟨n, hn⟩ : ∃ n, D.ls.length = n := ⟨_, rfl⟩
  have hnlo := hw.lo
  have hnhi := hw.hi
  rw [hn] at hnlo hnhi
  rw [hlv, hn] at q0
  have HW := Lib.hid hw
  have HB := Lib.hid hB
  have HN := Lib.hid hn
  clear hB hlv hcap hbl hbs q1 q2 q3 q4 q5 hw hn
  by_cases hi : 0 ≤ i ∧ i < n
  · obtain ⟨k, rfl⟩ : ∃ k : Nat, i = k := ⟨i.toNat, by omega⟩
    have hkn : k < n := by omega
    have HI := Lib.hid (show D.inn k = true by unfold Dk.inn; rw [HN.out]; simpa using hkn)
    clear hi
    go_enter Tryd.func57, Tryd.ntmps57
    go_wp2_with fail
    refine (dkOperate w W p L D rest (Nat.le_trans HW.out.count hm) hf HB.out).mono ?_
    rintro e w1 ⟨rfl, hB1⟩
    have HB1 := Lib.hid hB1
    clear hB1 HB q0 qf
    obtain ⟨x, hx⟩ : ∃ x, D.opE = x := ⟨_, rfl⟩
    rw [hx]
    have HX := Lib.hid hx
    clear hx
    have HE := Lib.hid (show D.readE k = x by unfold Dk.readE; rw [HI.out, HX.out]; rfl)
    have HD := Lib.hid (show D.readD k = D.opD by unfold Dk.readD; rw [HI.out]; rfl)
    by_cases hx0 : x = 0
    · subst hx0
      have HR := Lib.hid (show D.readB k = Dk.latest D.ls D.ps k by unfold Dk.readB; rw [HE.out]; rfl)
      obtain ⟨q0, q1, _, _, _, _, qf⟩ := dkCells HB1.out
      obtain ⟨g, cap, hlv, hcap, hbl, hbs⟩ := dkLv HB1.out (by rw [Dk.opD_ls]; exact HW.out.lo)
      obtain ⟨ao, cp, hpv, hcp, hql, hqs⟩ := dkPv HB1.out
      rw [Dk.opD_ls] at hlv hcap hbl
      rw [Dk.opD_ps] at hpv hcp hql hqs
      obtain ⟨s, hs⟩ : ∃ s, D.ps.length = s := ⟨_, rfl⟩
      have hsm : s ≤ m := by rw [← hs]; exact HW.out.pend
      rw [hlv, HN.out] at q0
      rw [hpv, hs] at q1
      rw [HN.out] at hcap hbl
      rw [hs] at hcp hql hqs
      have HS := Lib.hid hs
      have HQ := Lib.hid hqs
      have HBS := Lib.hid hbs
      have HBL := Lib.hid hbl
      have HQL := Lib.hid hql
      clear hlv hpv hs hqs hbs hbl hql
      go_wp2_with fail
      go_loop [7] (fun t => ∃ z : Int, -1 ≤ z ∧ z < s ∧ t = .int .i64 z ∧ Dk.latest D.ls (D.ps.take (z + 1).toNat) k = Dk.latest D.ls D.ps k) (fun t => (intOf t + 1).toNat)
      case atStart => exact ⟨(s : Int) - 1, by omega, by omega, rfl, by rw [show ((s : Int) - 1 + 1).toNat = D.ps.length by rw [HS.out]; omega, List.take_length]⟩
      case round =>
        obtain ⟨z, hz0, hz1, rfl, hz⟩ := hrel
        have HZ := Lib.hid hz
        clear hz
        by_cases hzz : 0 ≤ z
        · obtain ⟨j, rfl⟩ : ∃ j : Nat, z = j := ⟨z.toNat, by omega⟩
          have hj : j < s := by omega
          obtain ⟨y, hy⟩ : ∃ y, D.ps[j]? = some y := ⟨D.ps[j]'(by rw [HS.out]; exact hj), List.getElem?_eq_getElem _⟩
          obtain ⟨q, hq⟩ : ∃ q, L.qs[j]? = some q := ⟨L.qs[j]'(by rw [HQL.out]; exact hj), List.getElem?_eq_getElem _⟩
          obtain ⟨gp, rfl, hcs⟩ := HQ.out (by omega)
          obtain ⟨c1, c2⟩ := hcs j y q hy hq
          unfold slv at c2
          have HT := Lib.hid (take_at hy)
          have HY := Lib.hid hy
          have HQQ := Lib.hid hq
          clear HQ hcs hy hq
          obtain ⟨a, b⟩ := y
          simp only at c1
          by_cases hak : a = k
          · subst hak
            have HV := Lib.hid (show Dk.latest D.ls D.ps a = b by rw [← HZ.out, show ((j : Int) + 1).toNat = j + 1 by omega, HT.out, latest_snoc, if_pos rfl])
            go_wp2_with fail
            have hO := HB1.out.rowsOwn 4 rfl j HQQ.out (show (D.opD.ps.map Prod.snd)[j]? = some b by rw [Dk.opD_ps, List.getElem?_map, HY.out]; rfl)
            have hb5 : b.length = 512 := (HW.out.at_ (a, b) (List.mem_of_getElem? HY.out)).2
            refine (dkSector (some ⟨q, 0, none⟩) b 512 _ hb5 hO.rd).mono ?_
            rintro e w2 ⟨gg, rfl, hgg, hOO, hbb⟩
            have HB2 := Lib.hid (HB1.out.own hbb hOO hgg)
            have HB5 := Lib.hid hb5
            clear hO hOO hbb hgg hb5
            unfold slv
            go_wp2_with fail
            go_ret2
            refine ⟨some ⟨gg, 0, none⟩, 512, ?_, ?_⟩
            · rw [HR.out, HV.out, HB5.out, HE.out] <;> rfl
            · rw [HR.out, HV.out, HD.out]; exact HB2.out
          · have hne := ints_ne hak
            have HV := Lib.hid (show Dk.latest D.ls (D.ps.take j) k = Dk.latest D.ls D.ps k by rw [← HZ.out, show ((j : Int) + 1).toNat = j + 1 by omega, HT.out, latest_snoc, if_neg hak])
            clear hak
            go_wp2_with fail
            go_round
            case rel => exact ⟨(j : Int) - 1, by omega, by omega, rfl, by rw [show ((j : Int) - 1 + 1).toNat = j by omega]; exact HV.out⟩
            case measure => (simp [intOf] <;> omega)
        · obtain rfl : z = -1 := by omega
          have HV := Lib.hid (show D.ls.getD k [] = Dk.latest D.ls D.ps k by rw [← HZ.out]; rfl)
          obtain ⟨b, hb⟩ : ∃ b, L.bs[k]? = some b := ⟨L.bs[k]'(by rw [HBL.out]; exact hkn), List.getElem?_eq_getElem _⟩
          have c := HBS.out k b hb
          unfold slv at c
          have HBB := Lib.hid hb
          clear HBS hb
          go_wp2_with fail
          have hlk : D.ls[k]? = some (D.ls.getD k []) := by rw [List.getD, List.getElem?_eq_getElem (by rw [HN.out]; exact hkn)]; rfl
          have hO := HB1.out.rowsOwn 2 rfl k HBB.out (show D.opD.ls[k]? = some (D.ls.getD k []) by rw [Dk.opD_ls]; exact hlk)
          have hb5 : (D.ls.getD k []).length = 512 := HW.out.sec _ (List.mem_of_getElem? hlk)
          obtain ⟨l, hl⟩ : ∃ l, D.ls.getD k [] = l := ⟨_, rfl⟩
          rw [hl] at hO hb5 HV
          clear hl hlk
          refine (dkSector (some ⟨b, 0, none⟩) l 512 _ hb5 hO.rd).mono ?_
          rintro e w2 ⟨gg, rfl, hgg, hOO, hbb⟩
          have HB2 := Lib.hid (HB1.out.own hbb hOO hgg)
          have HB5 := Lib.hid hb5
          clear hO hOO hbb hgg hb5
          unfold slv
          go_wp2_with fail
          go_ret2
          refine ⟨some ⟨gg, 0, none⟩, 512, ?_, ?_⟩
          · rw [HR.out, ← HV.out, HB5.out, HE.out] <;> rfl
          · rw [HR.out, ← HV.out, HD.out]; exact HB2.out
    · have hne : (x != 0) = true := by rw [bne_iff_ne]; exact hx0
      have HR := Lib.hid (show D.readB k = [] by unfold Dk.readB; rw [HE.out, if_neg hx0])
      clear hx0
      go_wp2_with fail
      go_ret2
      refine ⟨none, 0, ?_, ?_⟩
      · rw [HR.out, HE.out] <;> rfl
      · rw [HR.out, HD.out]; exact HB1.out.mineNil _
  · have HI := Lib.hid (show D.inn i = false by unfold Dk.inn; rw [HN.out]; exact decide_eq_false hi)
    have HE := Lib.hid (show D.readE i = 101 by unfold Dk.readE; rw [HI.out]; rfl)
    have HD := Lib.hid (show D.readD i = D by unfold Dk.readD; rw [HI.out]; rfl)
    have HR := Lib.hid (show D.readB i = [] by unfold Dk.readB; rw [HE.out]; rfl)
    have hi' : i < 0 ∨ (0 ≤ i ∧ (n : Int) ≤ i) := by omega
    clear hi
    rcases hi' with hi | ⟨hi, hin⟩
    all_goals
      go_enter Tryd.func57, Tryd.ntmps57
      go_wp2_with fail
      go_ret2
      refine ⟨none, 0, ?_, ?_⟩
      · rw [HR.out, HE.out] <;> rfl
      · rw [HR.out, HD.out]; exact HB.out.mineNil _
end Go.Proofs.YthaiibfnjgfgjaaDoor
namespace Go.Proofs.YthaiibfnjgfgjaaDoor
open Go.RowKit
theorem info_wr : (Tryd.prog.info? 84).map (fun i => (i.zero, i.size, i.bytes)) = some (some (.agg #[.int .i64 0, .slice none 0 0]), 2, 32) := by kernel_rfl
theorem cell_new2 (w : World) (u v : Value) (t : TypeId) (fr : Nat × Nat) : (w.alloc (.cells #[u, v] t fr)).cell? ⟨w.heap.size, 0, none⟩ = some u ∧ (w.alloc (.cells #[u, v] t fr)).cell? ⟨w.heap.size, 1, none⟩ = some v := by
  have h : (w.alloc (.cells #[u, v] t fr)).heap[w.heap.size]? = some (.cells #[u, v] t fr) := heap_alloc_new w _
  exact ⟨cell_of_row _ _ 0 _ _ _ h, cell_of_row _ _ 1 _ _ _ h⟩
def Lay.push (L : Lay) (v : Value) (g : Nat) : Lay := { L with pv := v, qs := L.qs ++ [g] }
theorem dkPushed {w W : World} {p : Nat} {L : Lay} {D : Dk} {rest : List It} {g gg cap k : Nat} {b : List (BitVec 8)} (hq : L.qs.length = D.ps.length)
    (h : Bag w W (D.box L p :: .lst 29 1 L.lv D.ls.length (L.bs.map slv) :: .rows 5 512 L.bs D.ls :: .lst 84 2 (.slice (some ⟨g, 0, none⟩) (D.ps.length + 1) cap) (D.ps.length + 1) (pcs D.ps L.qs ++ [.int .i64 (k : Nat), slv gg]) :: .rows 5 512 (L.qs ++ [gg]) (D.ps.map Prod.snd ++ [b]) :: .grp (L.mts D.fs) :: rest)) :
    Bag w (W.setCell ⟨p, 1, none⟩ (.slice (some ⟨g, 0, none⟩) (D.ps.length + 1) cap)) (dkl p (L.push (.slice (some ⟨g, 0, none⟩) (D.ps.length + 1) cap) gg) { D with ps := D.ps ++ [(k, b)] } rest) := by
  have h1 := h.put 0 rfl 1 (.slice (some ⟨g, 0, none⟩) (D.ps.length + 1) cap)
  unfold dkl Lay.push
  simp only [List.length_append, List.length_singleton, List.map_append, List.map_cons, List.map_nil]
  rw [pcs_app hq (k, b) gg]
  exact h1
theorem dkPushRow {w W W' : World} {p : Nat} {L : Lay} {D : Dk} {rest : List It} {gg : Nat} {b : List (BitVec 8)} (h : Bag w W (dkl p L D rest)) (hb : Below W.heap.size W W') (hO : Own W' gg 512 5 b) (hg : W.heap.size ≤ gg) :
    Bag w W' (D.box L p :: .lst 29 1 L.lv D.ls.length (L.bs.map slv) :: .rows 5 512 L.bs D.ls :: .lst 84 2 L.pv D.ps.length (pcs D.ps L.qs) :: .rows 5 512 (L.qs ++ [gg]) (D.ps.map Prod.snd ++ [b]) :: .grp (L.mts D.fs) :: rest) := h.rowsPush 4 rfl hb hO hg
def WriteR (w : World) (p : Nat) (D : Dk) (rest : List It) (i : Int) (b : List (BitVec 8)) (e : Ending) (W' : World) : Prop := ∃ L', e = .returned (.int .i64 (D.writeE i b)) ∧ Bag w W' (dkl p L' (D.writeD i b) rest)
set_option maxRecDepth 100000 in
set_option maxHeartbeats 1000000 in
theorem dkWrite (w W : World) (p : Nat) (L : Lay) (D : Dk) (rest : List It) (m : Nat) (i : Int) (ao : Option Addr) (b : List (BitVec 8)) (n c : Nat) (hbn : b.length = n) (hw : D.Wf m) (hm : m ≤ 1000000000000) (hf : D.fs.length ≤ 1000000000000000) (hi0 : -9223372036854775808 ≤ i) (hi1 : i ≤ 9223372036854775807)
   (hr : ∀ W' D', Bag w W' (dkl p L D' rest) → Rd W' ao b) (hB : Bag w W (dkl p L D rest)) :
   Calls Tryd.prog 72 #[.pointer (some ⟨p, 0, none⟩), .int .i64 i, .slice ao n c] W (WriteR w p D rest i b) := by
  obtain ⟨q0, q1, q2, q3, q4, q5, qf⟩ := dkCells hB
  obtain ⟨g, cap, hlv, hcap, hbl, hbs⟩ := dkLv hB hw.lo
  obtain ⟨s, hs⟩ : ∃ n, D.ls.length = n := ⟨_, rfl⟩
  have hnlo := hw.lo
  have hnhi := hw.hi
  rw [hs] at hnlo hnhi
  rw [hlv, hs] at q0
  have HW := Lib.hid hw
  have HB := Lib.hid hB
  have HN := Lib.hid hs
  have HBN := Lib.hid hbn
  have HR := Lib.hid hr
  clear hB hlv hcap hbl hbs q1 q2 q3 q4 q5 hw hs hbn hr
  by_cases hi : 0 ≤ i ∧ i < s
  · obtain ⟨k, rfl⟩ : ∃ k : Nat, i = k := ⟨i.toNat, by omega⟩
    have hkn : k < s := by omega
    have HI := Lib.hid (show D.inn k = true by unfold Dk.inn; rw [HN.out]; simpa using hkn)
    clear hi
    by_cases h5 : n = 512
    · subst h5
      obtain ⟨x, hx⟩ : ∃ x, D.opE = x := ⟨_, rfl⟩
      have HX := Lib.hid hx
      clear hx
      have HE := Lib.hid (show D.writeE k b = x by unfold Dk.writeE; rw [HI.out, HBN.out, HX.out]; rfl)
      have HD := Lib.hid (show D.writeD k b = if x = 0 then { D.opD with ps := D.ps ++ [(k, b)] } else D.opD by unfold Dk.writeD; rw [HI.out, HBN.out, HX.out]; rfl)
      go_enter Tryd.func72, Tryd.ntmps72
      go_wp2_with fail
      refine (dkOperate w W p L D rest (by have := HW.out.count; omega) hf HB.out).mono ?_
      rintro e w1 ⟨rfl, hB1⟩
      rw [HX.out]
      obtain ⟨D1, hD1⟩ : ∃ D1, D.opD = D1 := ⟨_, rfl⟩
      rw [hD1] at hB1 HD
      have hps : D1.ps = D.ps := by rw [← hD1, Dk.opD_ps]
      rw [← hps] at HD
      have HPS := Lib.hid hps
      have HB1 := Lib.hid hB1
      clear hB1 HB q0 qf hD1 hps
      by_cases hx0 : x = 0
      · subst hx0
        have HD0 := Lib.hid (show D.writeD k b = { D1 with ps := D1.ps ++ [(k, b)] } from HD.out)
        clear HD
        obtain ⟨_, q1, _, _, _, _, qf⟩ := dkCells HB1.out
        obtain ⟨aq, cp, hpv, hcp, hql, hqs⟩ := dkPv HB1.out
        have hum : D1.ps.length ≤ m := by rw [HPS.out]; exact HW.out.pend
        rw [hpv] at q1
        have HPV := Lib.hid hpv
        have HQL := Lib.hid hql
        have hpl : p < w1.heap.size := World.block_lt_of_cell? w1 _ q1
        clear hpv hqs hql
        obtain ⟨is, his, hsz0, hsz1, hsz2⟩ := info_parts info_wr
        go_wp2_with fail
        go_region_law (first
          | (go_simp; go_at_call 56; refine (dkSector ao b c _ HBN.out (HR.out _ D1 HB1.out.drew)).mono ?_; rintro e W3 ⟨gg, rfl, hgg, hOO, hbb⟩; have HB3 := Lib.hid (dkPushRow HB1.out.drew hbb hOO hgg); obtain ⟨_, q1', _, _, _, _, qf'⟩ := dkCells (HB1.out.drew.call hbb); rw [HPV.out] at q1'; have hpl' : p < W3.heap.size := World.block_lt_of_cell? W3 _ q1'; clear hOO hbb hgg; unfold slv)
          | (refine Bag.appendStep2 rfl _ _ 74 rfl 84 is _ 32 Tryd.underlying74 his hsz0 hsz1 hsz2 rfl 3 _ D1.ps.length _ (HB3.out.call (fresh1 W3 (.cells #[.int .i64 (k : Nat), slv gg] 84))) rfl HPV.out.symm W3.heap.size 0 rfl _ _ (cell_new2 W3 _ _ _ _).1 (cell_new2 W3 _ _ _ _).2 rfl rfl (by unfold maxLen; omega) (by omega) ?_; intro gx cx W4 hB4 hsz; have HB4 := Lib.hid (dkPushed (k := k) (b := b) HQL.out hB4); have z1 : W4.cell? ⟨p, 1, none⟩ = some (.slice aq D1.ps.length cp) := (by rw [← HPV.out]; exact cell_of_row W4 p 1 _ _ _ (hB4.box 0 rfl)); have zf : W4.frozen? ⟨p, 1, none⟩ = false := frozen_of_row W4 p 1 _ _ (hB4.box 0 rfl); clear hB4))
        all_goals
          go_wp2_with fail
          go_ret
          refine ⟨L.push (.slice (some ⟨gx, 0, none⟩) (D1.ps.length + 1) cx) gg, ?_, ?_⟩
          · rw [HE.out] <;> rfl
          · rw [HD0.out]; exact HB4.out
      · have hne : (x != 0) = true := by rw [bne_iff_ne]; exact hx0
        have HX0 := Lib.hid hx0
        clear hx0
        go_wp2_with fail
        go_ret
        refine ⟨L, ?_, ?_⟩
        · rw [HE.out] <;> rfl
        · rw [HD.out, if_neg HX0.out]; exact HB1.out
    · have hne : ((n : Int) != 512) = true := by rw [bne_iff_ne]; omega
      have HE := Lib.hid (show D.writeE k b = 102 by unfold Dk.writeE; rw [HI.out, HBN.out, if_neg h5]; rfl)
      have HD := Lib.hid (show D.writeD k b = D by unfold Dk.writeD; rw [HI.out, HBN.out, if_neg h5]; rfl)
      clear h5
      go_enter Tryd.func72, Tryd.ntmps72
      go_wp2_with fail
      go_ret
      refine ⟨L, ?_, ?_⟩
      · rw [HE.out] <;> rfl
      · rw [HD.out]; exact HB.out
  · have HI := Lib.hid (show D.inn i = false by unfold Dk.inn; rw [HN.out]; exact decide_eq_false hi)
    have HE := Lib.hid (show D.writeE i b = 101 by unfold Dk.writeE; rw [HI.out]; rfl)
    have HD := Lib.hid (show D.writeD i b = D by unfold Dk.writeD; rw [HI.out]; rfl)
    have hi' : i < 0 ∨ (0 ≤ i ∧ (s : Int) ≤ i) := by omega
    clear hi
    rcases hi' with hi | ⟨hi, hin⟩
    all_goals
      go_enter Tryd.func72, Tryd.ntmps72
      go_wp2_with fail
      go_ret
      refine ⟨L, ?_, ?_⟩
      · rw [HE.out] <;> rfl
      · rw [HD.out]; exact HB.out
end Go.Proofs.YthaiibfnjgfgjaaDoor
namespace Go.Proofs.YthaiibfnjgfgjaaDoor
open Go.RowKit
def Lay.clear (L : Lay) : Lay := { L with pv := .slice none 0 0, qs := [] }
def Lay.calm (L : Lay) : Lay := { L with mt := none }
theorem dkPendNil {w W : World} {p : Nat} {L : Lay} {D : Dk} {rest : List It} (h : Bag w W (dkl p L D rest)) : Bag w (W.setCell ⟨p, 1, none⟩ (.slice none 0 0)) (dkl p L.clear { D with ps := [] } rest) :=
  ((h.put 0 rfl 1 (.slice none 0 0)).lstDrop 3 rfl).rowsDrop 4 rfl
theorem dkCalmSet {w W : World} {p : Nat} {L : Lay} {D : Dk} {rest : List It} (h : Bag w W (dkl p L D rest)) : Bag w (W.setCell ⟨p, 5, none⟩ (.func (.func 50) #[] #[])) (dkl p L.calm { D with fs := [] } rest) :=
  (h.put 0 rfl 5 (.func (.func 50) #[] #[])).turn (y := .grp [.fact (([] : List (Int × Int)) = [])]) 5 rfl (Only.refl (fun _ => False) _) (fun _ h => h.elim) ⟨by simp [It.fact], by simp⟩ (by rintro k ⟨x, hx, hk⟩; simp only [List.mem_singleton] at hx; subst hx; exact hk.elim)
theorem dkRow {w W W' : World} {p : Nat} {L : Lay} {D : Dk} {rest : List It} (h : Bag w W (dkl p L D rest)) {a b : Nat} (hb : L.bs[a]? = some b) {x : List (BitVec 8)} (ho : Only (fun k => k = b) W W') (hx : Own W' b 512 5 x) : Bag w W' (dkl p L { D with ls := D.ls.set a x } rest) := by
  have h1 := h.rowsSet 2 rfl a hb ho hx
  unfold dkl
  simp only [List.length_set]
  exact h1
def FlushR (w : World) (p : Nat) (D : Dk) (rest : List It) (e : Ending) (W' : World) : Prop := ∃ L', e = .returned (.int .i64 D.opE) ∧ Bag w W' (dkl p L' D.flushD rest)
/-- The state within the loop: j writes are laid down. -/
def LaidJ (w : World) (p : Nat) (L : Lay) (D : Dk) (rest : List It) (j : Nat) (W : World) : Prop := ∃ ls, ls.length = D.ls.length ∧ (∀ l ∈ ls, l.length = 512) ∧ Dk.lay (D.ps.drop j) ls = Dk.lay D.ps D.ls ∧ Bag w W (dkl p L { D with ls := ls } rest)
theorem laidJ_succ {w W' : World} {p : Nat} {L : Lay} {D : Dk} {rest : List It} {j a : Nat} {b : List (BitVec 8)} {ls : List (List (BitVec 8))} (h1 : ls.length = D.ls.length) (h2 : ∀ l ∈ ls, l.length = 512) (h3 : Dk.lay (D.ps.drop j) ls = Dk.lay D.ps D.ls) (hy : D.ps[j]? = some (a, b)) (hl : b.length = 512)
    (hW : Bag w W' (dkl p L { D with ls := ls.set a b } rest)) : LaidJ w p L D rest (j + 1) W' := by
  refine ⟨ls.set a b, by simp [h1], Dk.set_all h2 hl, ?_, hW⟩
  rw [← h3]
  obtain ⟨hj, hx⟩ := List.getElem?_eq_some_iff.1 hy
  rw [List.drop_eq_getElem_cons hj, hx]
  rfl
theorem own_cut {w : World} {g cap : Nat} {t : TypeId} {b l : List (BitVec 8)} (h : Own w g cap t (b ++ l.drop 512)) (hl : l.length = 512) : Own w g cap t b := by
  rw [List.drop_of_length_le (by omega), List.append_nil] at h
  exact h
set_option maxRecDepth 100000 in
set_option maxHeartbeats 1000000 in
theorem dkFlush (w W : World) (p : Nat) (L : Lay) (D : Dk) (rest : List It) (m : Nat) (hw : D.Wf m) (hm : m ≤ 1000000000000) (hf : D.fs.length ≤ 1000000000000000) (hB : Bag w W (dkl p L D rest)) :
   Calls Tryd.prog 59 #[.pointer (some ⟨p, 0, none⟩)] W (FlushR w p D rest) := by
  obtain ⟨i0, hi, hz0, hz1, hz2⟩ := info_parts info_u8
  have HW := Lib.hid hw
  have HB := Lib.hid hB
  clear hB hw
  obtain ⟨x, hx⟩ : ∃ x, D.opE = x := ⟨_, rfl⟩
  have HE := Lib.hid hx
  have HD := Lib.hid (show D.flushD = if x = 0 then { D.opD with ls := Dk.lay D.ps D.ls, ps := [] } else D.opD by unfold Dk.flushD; rw [hx])
  clear hx
  go_enter Tryd.func59, Tryd.ntmps59
  go_wp2_with fail
  refine (dkOperate w W p L D rest (by have := HW.out.count; omega) hf HB.out).mono ?_
  rintro e w1 ⟨rfl, hB1⟩
  rw [HE.out]
  obtain ⟨D1, hD1⟩ : ∃ D1, D.opD = D1 := ⟨_, rfl⟩
  have HW1 := Lib.hid (show D1.Wf (m + 1) by rw [← hD1]; exact HW.out.op)
  have hps : D1.ps = D.ps := by rw [← hD1, Dk.opD_ps]
  have hls : D1.ls = D.ls := by rw [← hD1, Dk.opD_ls]
  rw [hD1] at hB1 HD
  rw [← hps, ← hls] at HD
  have HB1 := Lib.hid hB1
  clear hB1 HB hps hls hD1
  by_cases hx0 : x = 0
  · subst hx0
    have HD0 := Lib.hid (show D.flushD = { D1 with ls := Dk.lay D1.ps D1.ls, ps := [] } from HD.out)
    clear HD
    obtain ⟨_, q1, _, _, _, _, qf⟩ := dkCells HB1.out
    obtain ⟨aq, cp, hpv, hcp, hql, _⟩ := dkPv HB1.out
    obtain ⟨u, hu⟩ : ∃ u, D1.ps.length = u := ⟨_, rfl⟩
    have hum : u ≤ m + 1 := by rw [← hu]; exact HW1.out.pend
    rw [hu] at hpv hcp hql
    rw [hpv] at q1
    have HPV := Lib.hid hpv
    have HQL := Lib.hid hql
    have HU := Lib.hid hu
    clear hpv hql hu
    go_wp2_with fail
    go_loopw [16] (fun t wr => ∃ j : Nat, j ≤ u ∧ t = .int .i64 j ∧ LaidJ w p L D1 rest j wr) (fun t _ => u - (intOf t).toNat)
    case atStart => exact ⟨0, Nat.zero_le _, rfl, D1.ls, rfl, HW1.out.sec, rfl, HB1.out⟩
    case round =>
      obtain ⟨j, hj, rfl, hJ⟩ := hrel
      have HJ := Lib.hid hJ
      clear hJ HB1
      by_cases hlt : j < u
      · obtain ⟨⟨a, b⟩, hy⟩ : ∃ y, D1.ps[j]? = some y := ⟨D1.ps[j]'(by rw [HU.out]; exact hlt), List.getElem?_eq_getElem _⟩
        obtain ⟨q, hq⟩ : ∃ q, L.qs[j]? = some q := ⟨L.qs[j]'(by rw [HQL.out]; exact hlt), List.getElem?_eq_getElem _⟩
        have hab := HW1.out.at_ (a, b) (List.mem_of_getElem? hy)
        simp only at hab
        obtain ⟨ls, hls, hl5, hlay, hB⟩ := HJ.out
        have HB := Lib.hid hB
        have HLS := Lib.hid hls
        have HL5 := Lib.hid hl5
        have HY := Lib.hid hy
        have HQ := Lib.hid hq
        have HAB := Lib.hid hab.2
        have ha := hab.1
        have HLay := Lib.hid hlay
        clear hls hl5 hlay hB hab
        obtain ⟨ao, cp', hpv, _, _, hcs⟩ := dkPv HB.out
        obtain ⟨gp, rfl, hcs2⟩ := hcs (show 0 < D1.ps.length by rw [HU.out]; omega)
        obtain ⟨c1, c2⟩ := hcs2 j (a, b) q hy hq
        rw [HPV.out] at hpv
        simp only [Value.slice.injEq] at hpv
        obtain rfl := hpv.1
        unfold slv at c2
        simp only at c1
        clear hcs hcs2 hpv hy hq q1 qf
        go_wp2_with fail
        have h0 := HB.out.call (fresh1 wr (.cells #[.int .i64 (a : Nat), .slice (some ⟨q, 0, none⟩) 512 512] 84 (0, 0)))
        obtain ⟨x1, x2⟩ := cell_new2 wr (.int .i64 (a : Nat)) (.slice (some ⟨q, 0, none⟩) 512 512) 84 (0, 0)
        generalize hU : wr.alloc (.cells #[.int .i64 (a : Nat), .slice (some ⟨q, 0, none⟩) 512 512] 84 (0, 0)) = U at h0 x1 x2 ⊢
        generalize hbx : wr.heap.size = bx at x1 x2 ⊢
        obtain ⟨q0, _, _, _, _, _, qf⟩ := dkCells h0
        obtain ⟨g, cap, hlv, hcap, hbl, hbs⟩ := dkLv h0 (by simp only; rw [HLS.out]; exact HW1.out.lo)
        obtain ⟨bk, hbk⟩ : ∃ bk, L.bs[a]? = some bk := ⟨L.bs[a]'(by rw [hbl]; simp only; rw [HLS.out]; exact ha), List.getElem?_eq_getElem _⟩
        have c3 := hbs a bk hbk
        simp only at hlv
        rw [hlv] at q0
        unfold slv at c3
        have HU0 := Lib.hid h0
        have HBK := Lib.hid hbk
        have hal : (a : Int) < ls.length := by rw [HLS.out]; omega
        clear hlv hcap hbl hbs hbk h0 c1 c2 hbx
        go_still_tail 10, (by kernel_rfl)
        obtain ⟨l0, hl0⟩ : ∃ l0, ls[a]? = some l0 := ⟨ls[a]'(by omega), List.getElem?_eq_getElem _⟩
        have HL0 := Lib.hid (HL5.out l0 (List.mem_of_getElem? hl0))
        have hO := HU0.out.drew.rowsOwn 2 rfl a HBK.out hl0
        have hR := (HU0.out.drew.rowsOwn 4 rfl j HQ.out (show (D1.ps.map Prod.snd)[j]? = some b by rw [List.getElem?_map, HY.out]; rfl)).rd
        clear hl0 q0 qf c3
        go_wp2_with (with_reducible refine wpList_copy_bytes rfl (.tmp 27) (.tmp 29) 29 29 rfl 5 i0 Tryd.underlying29 hi hz1 bk 512 512 (some ⟨q, 0, none⟩) 512 512 ?hd ?hs 512 5 l0 b ?hO ?hL ?hr ?hl ?hmn ?_)
        case hL => exact HL0.out
        case hl => exact HAB.out
        intro w3 hO3 _ hB3
        have HJ' := Lib.hid (laidJ_succ HLS.out HL5.out HLay.out HY.out HAB.out (dkRow HU0.out.drew HBK.out hB3 (own_cut hO3 HL0.out)))
        clear hO hR hO3 hB3 HJ HB HU0 x1 x2 hU
        go_wp2_with fail
        go_roundw
        case rel => exact ⟨j + 1, by omega, by go_num, HJ'.out⟩
        case measure => simp [intOf]; omega
      · obtain rfl : j = u := by omega
        obtain ⟨ls, hls, hl5, hlay, hB⟩ := HJ.out
        rw [← HU.out, List.drop_length] at hlay
        simp only [Dk.lay] at hlay
        have HB := Lib.hid (dkPendNil hB)
        have HLay := Lib.hid hlay
        obtain ⟨_, q1, _, _, _, _, qf⟩ := dkCells hB
        clear hls hl5 hlay hB
        go_wp2_with fail
        go_ret
        refine ⟨L.clear, ?_, ?_⟩
        · rw [HE.out] <;> rfl
        · rw [HD0.out, ← HLay.out]; exact HB.out
  · have hne : (x != 0) = true := by rw [bne_iff_ne]; exact hx0
    have HX0 := Lib.hid (show D.flushD = D1 by rw [HD.out, if_neg hx0])
    clear hx0
    go_wp2_with fail
    go_ret
    refine ⟨L, ?_, ?_⟩
    · rw [HE.out] <;> rfl
    · rw [HX0.out]; exact HB1.out
end Go.Proofs.YthaiibfnjgfgjaaDoor
namespace Go.Proofs.YthaiibfnjgfgjaaDoor
open Go.RowKit
/-- Flags stand from an address on. -/
def Bo (w : World) (ao : Option Addr) (l : List Bool) : Prop := ∀ (j : Nat) (x : Bool), l[j]? = some x → ∃ b o, ao = some ⟨b, o, none⟩ ∧ w.cell? ⟨b, o + j, none⟩ = some (.bool x)
theorem Bo.on {w w' : World} {ao : Option Addr} {l : List Bool} (h : Bo w ao l) (hb : Below w.heap.size w w') : Bo w' ao l := by
  intro j f hj
  obtain ⟨b, o, h1, h2⟩ := h j f hj
  exact ⟨b, o, h1, (hb.cell (p := ⟨b, _, none⟩) (lt_of_rd h2)).trans h2⟩
theorem Bo.nil (w : World) (ao : Option Addr) : Bo w ao [] := by intro j x h; simp at h
theorem layK_nil (ps : List (Nat × List (BitVec 8))) (ls : List (List (BitVec 8))) : Dk.layK ps [] ls = ls := by cases ps <;> rfl
theorem layK_step {ps : List (Nat × List (BitVec 8))} {keep : List Bool} {j a : Nat} {b : List (BitVec 8)} {k : Bool} {ls : List (List (BitVec 8))} (hy : ps[j]? = some (a, b)) (hk : keep[j]? = some k) : Dk.layK (ps.drop j) (keep.drop j) ls = Dk.layK (ps.drop (j + 1)) (keep.drop (j + 1)) (if k then ls.set a b else ls) := by
  obtain ⟨hj, hx⟩ := List.getElem?_eq_some_iff.1 hy
  obtain ⟨hj2, hx2⟩ := List.getElem?_eq_some_iff.1 hk
  rw [List.drop_eq_getElem_cons hj, hx, List.drop_eq_getElem_cons hj2, hx2]
  rfl
def CrashR (w : World) (p : Nat) (D : Dk) (rest : List It) (keep : List Bool) (e : Ending) (W' : World) : Prop := ∃ L' v, e = .returned v ∧ Bag w W' (dkl p L' (D.crashD keep) rest)
/-- The state within the loop. -/
def KeptJ (w : World) (p : Nat) (L : Lay) (D : Dk) (rest : List It) (keep : List Bool) (j : Nat) (W : World) : Prop := ∃ ls, ls.length = D.ls.length ∧ (∀ l ∈ ls, l.length = 512) ∧ Dk.layK (D.ps.drop j) (keep.drop j) ls = Dk.layK D.ps keep D.ls ∧ Bag w W (dkl p L { D with ls := ls } rest)
theorem keptJ_succ {w W' : World} {p : Nat} {L : Lay} {D : Dk} {rest : List It} {keep : List Bool} {j a : Nat} {b : List (BitVec 8)} {ls : List (List (BitVec 8))} (h1 : ls.length = D.ls.length) (h2 : ∀ l ∈ ls, l.length = 512) (h3 : Dk.layK (D.ps.drop j) (keep.drop j) ls = Dk.layK D.ps keep D.ls) (hy : D.ps[j]? = some (a, b)) (hl : b.length = 512) (hk : keep[j]? = some true)
    (hW : Bag w W' (dkl p L { D with ls := ls.set a b } rest)) : KeptJ w p L D rest keep (j + 1) W' := by
  refine ⟨ls.set a b, by simp [h1], Dk.set_all h2 hl, ?_, hW⟩
  rw [← h3]
  obtain ⟨hj, hx⟩ := List.getElem?_eq_some_iff.1 hy
  obtain ⟨hj2, hx2⟩ := List.getElem?_eq_some_iff.1 hk
  rw [List.drop_eq_getElem_cons hj, hx, List.drop_eq_getElem_cons hj2, hx2]
  rfl
theorem keptJ_skip {w W' : World} {p : Nat} {L : Lay} {D : Dk} {rest : List It} {keep : List Bool} {j a : Nat} {b : List (BitVec 8)} {ls : List (List (BitVec 8))} (h1 : ls.length = D.ls.length) (h2 : ∀ l ∈ ls, l.length = 512) (h3 : Dk.layK (D.ps.drop j) (keep.drop j) ls = Dk.layK D.ps keep D.ls) (hy : D.ps[j]? = some (a, b)) (hk : keep[j]? = none ∨ keep[j]? = some false)
    (hW : Bag w W' (dkl p L { D with ls := ls } rest)) : KeptJ w p L D rest keep (j + 1) W' := by
  refine ⟨ls, h1, h2, ?_, hW⟩
  rw [← h3]
  obtain ⟨hj, hx⟩ := List.getElem?_eq_some_iff.1 hy
  rw [List.drop_eq_getElem_cons hj, hx]
  rcases hk with hk | hk
  · have hl : keep.length ≤ j := List.getElem?_eq_none_iff.1 hk
    rw [List.drop_of_length_le hl, List.drop_of_length_le (show keep.length ≤ j + 1 by omega), layK_nil, layK_nil]
  · obtain ⟨hj2, hx2⟩ := List.getElem?_eq_some_iff.1 hk
    rw [List.drop_eq_getElem_cons hj2, hx2]
    rfl
set_option maxRecDepth 100000 in
set_option maxHeartbeats 2000000 in
theorem dkCrash (w W : World) (p : Nat) (L : Lay) (D : Dk) (rest : List It) (m : Nat) (ao : Option Addr) (keep : List Bool) (n c : Nat) (hkn : keep.length = n) (hn : n ≤ 1000000000000000000) (hw : D.Wf m) (hm : m ≤ 1000000000000)
   (hr : ∀ W' D', Bag w W' (dkl p L D' rest) → Bo W' ao keep) (hB : Bag w W (dkl p L D rest)) :
   Calls Tryd.prog 29 #[.pointer (some ⟨p, 0, none⟩), .slice ao n c] W (CrashR w p D rest keep) := by
  obtain ⟨i0, hi, hz0, hz1, hz2⟩ := info_parts info_u8
  have HW := Lib.hid hw
  have HB := Lib.hid hB
  have HKN := Lib.hid hkn
  have HR := Lib.hid hr
  clear hB hw hr hkn
  obtain ⟨_, q1, _, _, _, _, qf⟩ := dkCells HB.out
  obtain ⟨aq, cp, hpv, hcp, hql, _⟩ := dkPv HB.out
  obtain ⟨u, hu⟩ : ∃ u, D.ps.length = u := ⟨_, rfl⟩
  have hum : u ≤ m := by rw [← hu]; exact HW.out.pend
  rw [hu] at hpv hcp hql
  rw [hpv] at q1
  have HPV := Lib.hid hpv
  have HQL := Lib.hid hql
  have HU := Lib.hid hu
  clear hpv hql hu
  go_enter Tryd.func29, Tryd.ntmps29
  go_wp2_with fail
  go_loopw [11] (fun t wr => ∃ j : Nat, j ≤ u ∧ t = .int .i64 j ∧ KeptJ w p L D rest keep j wr) (fun t _ => u - (intOf t).toNat)
  case atStart => exact ⟨0, Nat.zero_le _, rfl, D.ls, rfl, HW.out.sec, rfl, HB.out⟩
  case round =>
    obtain ⟨j, hj, rfl, hJ⟩ := hrel
    have HJ := Lib.hid hJ
    clear hJ HB
    by_cases hlt : j < u
    · obtain ⟨⟨a, b⟩, hy⟩ : ∃ y, D.ps[j]? = some y := ⟨D.ps[j]'(by rw [HU.out]; exact hlt), List.getElem?_eq_getElem _⟩
      obtain ⟨q, hq⟩ : ∃ q, L.qs[j]? = some q := ⟨L.qs[j]'(by rw [HQL.out]; exact hlt), List.getElem?_eq_getElem _⟩
      have hab := HW.out.at_ (a, b) (List.mem_of_getElem? hy)
      simp only at hab
      obtain ⟨ls, hls, hl5, hlay, hB⟩ := HJ.out
      have HB := Lib.hid hB
      have HLS := Lib.hid hls
      have HL5 := Lib.hid hl5
      have HY := Lib.hid hy
      have HQ := Lib.hid hq
      have HAB := Lib.hid hab.2
      have ha := hab.1
      have HLay := Lib.hid hlay
      clear hls hl5 hlay hB hab
      obtain ⟨ao2, cp', hpv, _, _, hcs⟩ := dkPv HB.out
      obtain ⟨gp, rfl, hcs2⟩ := hcs (show 0 < D.ps.length by rw [HU.out]; omega)
      obtain ⟨c1, c2⟩ := hcs2 j (a, b) q hy hq
      rw [HPV.out] at hpv
      simp only [Value.slice.injEq] at hpv
      obtain rfl := hpv.1
      unfold slv at c2
      simp only at c1
      clear hcs hcs2 hpv hy hq q1 qf
      have h0 := HB.out.call (fresh1 wr (.cells #[.int .i64 (a : Nat), .slice (some ⟨q, 0, none⟩) 512 512] 84 (0, 0)))
      have hsz := (fresh1 wr (.cells #[.int .i64 (a : Nat), .slice (some ⟨q, 0, none⟩) 512 512] 84 (0, 0))).size
      have HU0 := Lib.hid h0
      clear h0 hsz
      by_cases hjk : j < n
      · obtain ⟨kb, hkb⟩ : ∃ kb, keep[j]? = some kb := ⟨keep[j]'(by rw [HKN.out]; exact hjk), List.getElem?_eq_getElem _⟩
        obtain ⟨bk0, bo0, rfl, ck⟩ := HR.out _ _ HB.out j kb hkb
        have hbkl : bk0 < wr.heap.size := World.block_lt_of_cell? wr _ ck
        have HKB := Lib.hid hkb
        clear hkb
        cases kb with
        | false =>
          go_wp2_with fail
          have HJ' := Lib.hid (keptJ_skip HLS.out HL5.out HLay.out HY.out (Or.inr HKB.out) HU0.out)
          clear HJ HB HU0 c1 c2 ck
          go_roundw
          case rel => exact ⟨j + 1, by omega, by go_num, HJ'.out⟩
          case measure => simp [intOf]; omega
        | true =>
          go_wp2_with fail
          obtain ⟨x1, x2⟩ := cell_new2 wr (.int .i64 (a : Nat)) (.slice (some ⟨q, 0, none⟩) 512 512) 84 (0, 0)
          have h0 := HU0.out
          generalize hU : wr.alloc (.cells #[.int .i64 (a : Nat), .slice (some ⟨q, 0, none⟩) 512 512] 84 (0, 0)) = U at h0 x1 x2 ⊢
          generalize hbx : wr.heap.size = bx at x1 x2 hbkl ⊢
          clear HU0
          have HU0 := Lib.hid h0
          clear h0
          obtain ⟨q0, _, _, _, _, _, qf⟩ := dkCells HU0.out
          obtain ⟨g, cap, hlv, hcap, hbl, hbs⟩ := dkLv HU0.out (by simp only; rw [HLS.out]; exact HW.out.lo)
          obtain ⟨bk, hbk⟩ : ∃ bk, L.bs[a]? = some bk := ⟨L.bs[a]'(by rw [hbl]; simp only; rw [HLS.out]; exact ha), List.getElem?_eq_getElem _⟩
          have c3 := hbs a bk hbk
          simp only at hlv
          rw [hlv] at q0
          unfold slv at c3
          have HBK := Lib.hid hbk
          have hal : (a : Int) < ls.length := by rw [HLS.out]; omega
          clear hlv hcap hbl hbs hbk c1 c2 ck hbx hbkl
          go_still_tail 10, (by kernel_rfl)
          obtain ⟨l0, hl0⟩ : ∃ l0, ls[a]? = some l0 := ⟨ls[a]'(by omega), List.getElem?_eq_getElem _⟩
          have HL0 := Lib.hid (HL5.out l0 (List.mem_of_getElem? hl0))
          have hO := HU0.out.drew.rowsOwn 2 rfl a HBK.out hl0
          have hR := (HU0.out.drew.rowsOwn 4 rfl j HQ.out (show (D.ps.map Prod.snd)[j]? = some b by rw [List.getElem?_map, HY.out]; rfl)).rd
          clear hl0 q0 qf c3
          go_wp2_with (with_reducible refine wpList_copy_bytes rfl (.tmp 33) (.tmp 35) 29 29 rfl 5 i0 Tryd.underlying29 hi hz1 bk 512 512 (some ⟨q, 0, none⟩) 512 512 ?hd ?hs 512 5 l0 b ?hO ?hL ?hr ?hl ?hmn ?_)
          case hL => exact HL0.out
          case hl => exact HAB.out
          intro w3 hO3 _ hB3
          have HJ' := Lib.hid (keptJ_succ HLS.out HL5.out HLay.out HY.out HAB.out HKB.out (dkRow HU0.out.drew HBK.out hB3 (own_cut hO3 HL0.out)))
          clear hO hR hO3 hB3 HJ HB HU0 x1 x2 hU
          go_wp2_with fail
          go_roundw
          case rel => exact ⟨j + 1, by omega, by go_num, HJ'.out⟩
          case measure => simp [intOf]; omega
      · have HKB := Lib.hid (show keep[j]? = none from List.getElem?_eq_none_iff.2 (by rw [HKN.out]; omega))
        go_wp2_with fail
        have HJ' := Lib.hid (keptJ_skip HLS.out HL5.out HLay.out HY.out (Or.inl HKB.out) HU0.out)
        clear HJ HB HU0 c1 c2
        go_roundw
        case rel => exact ⟨j + 1, by omega, by go_num, HJ'.out⟩
        case measure => simp [intOf]; omega
    · obtain rfl : j = u := by omega
      obtain ⟨ls, hls, hl5, hlay, hB⟩ := HJ.out
      rw [← HU.out, List.drop_length] at hlay
      simp only [Dk.layK] at hlay
      have HB := Lib.hid (dkPut2 (dkPut3 (dkCalmSet (dkPendNil hB)) 0) false)
      have HLay := Lib.hid hlay
      obtain ⟨_, q1, q2, q3, _, q5, qf⟩ := dkCells hB
      clear hls hl5 hlay hB
      go_wp2_with fail
      refine bodyPost_end (results_none rfl _ _ _) rfl ?_
      refine ⟨L.clear.calm, _, rfl, ?_⟩
      unfold Dk.crashD
      rw [← HLay.out]
      exact HB.out
end Go.Proofs.YthaiibfnjgfgjaaDoor
namespace Go.Proofs.YthaiibfnjgfgjaaDoor
open Go.RowKit
def armGood (l : List (Int × Int)) (i : Nat) : Bool := decide (1 ≤ (l.getD i (0, 0)).1) && (decide ((l.getD i (0, 0)).2 = 1) || decide ((l.getD i (0, 0)).2 = 2)) && (List.range i).all fun k => (l.getD k (0, 0)).1 != (l.getD i (0, 0)).1
theorem armOk_def (l : List (Int × Int)) : Dk.armOk l = (List.range l.length).all (armGood l) := rfl
theorem armOk_no {l : List (Int × Int)} {j : Nat} (hj : j < l.length) (h : armGood l j = false) : Dk.armOk l = false := by
  rw [armOk_def, Bool.eq_false_iff]
  intro ha
  rw [List.all_eq_true] at ha
  rw [ha j (List.mem_range.2 hj)] at h
  cases h
theorem armE_no {D : Dk} {l : List (Int × Int)} {j n : Nat} (hn : l.length = n) (hj : j < n) (h : armGood l j = false) : D.armE l = 105 := by
  unfold Dk.armE
  rw [armOk_no (by omega) h]
  rfl
theorem armD_no {D : Dk} {l : List (Int × Int)} {j n : Nat} (hn : l.length = n) (hj : j < n) (h : armGood l j = false) : D.armD l = D := by
  unfold Dk.armD
  rw [armE_no hn hj h]
  rfl
theorem armAll_succ {l : List (Int × Int)} {j : Nat} (h : (List.range j).all (armGood l) = true) (hj : armGood l j = true) : (List.range (j + 1)).all (armGood l) = true := by
  rw [List.range_succ, List.all_append, h]
  simpa using hj
theorem getD_at {l : List (Int × Int)} {j : Nat} {f : Int × Int} (h : l[j]? = some f) : l.getD j (0, 0) = f := by simp [List.getD, h]
theorem armGood_lo {l : List (Int × Int)} {j : Nat} {a k : Int} (h : l[j]? = some (a, k)) (ha : a < 1) : armGood l j = false := by
  unfold armGood
  rw [getD_at h, decide_eq_false (show ¬ (1 : Int) ≤ (a, k).1 by simp only; omega)]
  rfl
theorem armGood_kind {l : List (Int × Int)} {j : Nat} {a k : Int} (h : l[j]? = some (a, k)) (h1 : ¬ k = 1) (h2 : ¬ k = 2) : armGood l j = false := by
  unfold armGood
  rw [getD_at h, decide_eq_false (show ¬ (a, k).2 = 1 from h1), decide_eq_false (show ¬ (a, k).2 = 2 from h2)]
  simp
theorem armGood_twice {l : List (Int × Int)} {i j : Nat} {a k k' : Int} (h : l[j]? = some (a, k)) (hi : l[i]? = some (a, k')) (hij : i < j) : armGood l j = false := by
  unfold armGood
  rw [Bool.and_eq_false_iff]
  right
  rw [Bool.eq_false_iff]
  intro ha
  rw [List.all_eq_true] at ha
  have := ha i (List.mem_range.2 hij)
  rw [getD_at h, getD_at hi] at this
  simp at this
theorem armGood_yes {l : List (Int × Int)} {j : Nat} {a k : Int} (h : l[j]? = some (a, k)) (ha : 1 ≤ a) (hk : k = 1 ∨ k = 2) (hd : ∀ i f, i < j → l[i]? = some f → f.1 ≠ a) : armGood l j = true := by
  unfold armGood
  rw [getD_at h, Bool.and_eq_true, Bool.and_eq_true]
  refine ⟨⟨decide_eq_true ha, by rcases hk with rfl | rfl <;> simp⟩, ?_⟩
  rw [List.all_eq_true]
  intro i hi
  have hij := List.mem_range.1 hi
  have hjl : j < l.length := (List.getElem?_eq_some_iff.1 h).1
  have hx : l[i]? = some (l[i]'(by omega)) := List.getElem?_eq_getElem _
  rw [getD_at hx, bne_iff_ne]
  exact hd i _ hij hx
theorem wpList_append_pairs {P : Program} {w : World} {ops : Array Oper} {rest : List Oper} {o : Oper} {a : Act} {Q : Exit → Act → World → Prop} (hgd : o.guard = none) (s x : Operand) (t : TypeId)
    (ho : o.op = .call { callee := .builtin .append, args := #[s, x], argTypes := #[t, t] })
    (e : Nat) (i : TypeInfo) (z : Value) (bytes : Nat) (ht : P.underlying t = some (.slice e)) (hi : P.info? e = some i) (hz : i.zero = some z) (hsize : i.size = 2) (hby : i.bytes = bytes) (hzs : z.cells.size = 2)
    (hs : a.eval s = .slice none 0 0) (ao : Option Addr) (m c : Nat) (cs : List Value) (hx : a.eval x = .slice ao m c) (hm : cs.length = m * 2)
    (hc : ∀ (j : Nat) (v : Value), cs[j]? = some v → v.oneCell' = true ∧ ∃ b o, ao = some ⟨b, o, none⟩ ∧ w.cell? ⟨b, o + j, none⟩ = some v) (hn : ao = none → c = 0) (hmax : m ≤ maxLen) (hbytes : m * bytes ≤ 140737488355328)
    (h : ∀ v' w', w'.ownsRow w.heap.size e 2 v' m cs → Below w.heap.size w w' → wpList P ops Q rest (a.put o.dst v') w') : wpList P ops Q (o :: rest) a w := by
  have hown : w.ownsRow w.heap.size e 2 (.slice none 0 0) 0 [] := ⟨by simp, Or.inl ⟨rfl, rfl⟩⟩
  cases ao with
  | none =>
    have hl : cs = [] := by
      match cs, hc with
      | [], _ => rfl
      | v :: r, hc =>
        obtain ⟨_, b, o, h1, _⟩ := hc 0 v rfl
        cases h1
    subst hl
    obtain rfl : m = 0 := by simp at hm; omega
    obtain rfl := hn rfl
    refine wpList_append_own_none hgd s x t ho w.heap.size e i 2 ht hi (.slice none 0 0) 0 [] hs hown hx ?_
    exact h (.slice none 0 0) w hown (Below.refl _ _)
  | some ad =>
    refine wpList_append_own w hgd s x t ho w.heap.size e i z 2 bytes ht hi hz hsize hby hzs (by decide) (.slice none 0 0) 0 [] hs hown ad m c cs hx hm ?_ ?_ (by omega) (by rw [Nat.zero_add]; exact hbytes) (Nat.le_refl _) ?_
    · intro j u hj
      obtain ⟨_, b, o, h1, hcell⟩ := hc j u hj
      cases h1
      rw [Addr.add_lit]
      exact hcell
    · intro u hu
      obtain ⟨j, hj⟩ := List.mem_iff_getElem?.1 hu
      exact (hc j u hj).1
    · intro v' w' h1 h2 _
      rw [Nat.zero_add, List.nil_append] at h1
      exact h v' w' h1 ((Below.refl w.heap.size w).grown h2 (Nat.le_refl _) (fun k hk => (hown.lt k hk).1))
theorem fcs_cells {w : World} {ao : Option Addr} {fs : List (Int × Int)} (h : Fd w ao fs) : ∀ (j : Nat) (v : Value), (fcs fs)[j]? = some v → v.oneCell' = true ∧ ∃ b o, ao = some ⟨b, o, none⟩ ∧ w.cell? ⟨b, o + j, none⟩ = some v := by
  intro j v hj
  have hl : (fcs fs).length = fs.length * 2 := prs_len _ _ _
  have hjl : j < fs.length * 2 := by have := (List.getElem?_eq_some_iff.1 hj).1; omega
  obtain ⟨f, hf⟩ : ∃ f, fs[j / 2]? = some f := ⟨fs[j / 2]'(by omega), List.getElem?_eq_getElem _⟩
  obtain ⟨b, o, h1, h2, h3⟩ := h _ _ hf
  obtain ⟨g1, g2⟩ := fcs_get hf
  rcases Nat.mod_two_eq_zero_or_one j with hm | hm
  · have e : j = j / 2 * 2 := by omega
    rw [e, g1] at hj
    cases hj
    exact ⟨rfl, b, o, h1, by rw [e]; exact h2⟩
  · have e : j = j / 2 * 2 + 1 := by omega
    rw [e, g2] at hj
    cases hj
    exact ⟨rfl, b, o, h1, by rw [e]; exact h3⟩
theorem dkArmed {w W : World} {p : Nat} {L : Lay} {D : Dk} {rest : List It} {c n : Nat} {v : Value} {l : List (Int × Int)} (hn : l.length = n) (h : Bag w W (.box c #[v] 30 :: .lst 52 2 v n (fcs l) :: dkl p L D rest)) :
    Bag w (W.setCell ⟨p, 5, none⟩ (.func (.func 42) #[] #[.pointer (some ⟨c, 0, none⟩)])) (dkl p { L with mt := some (c, v) } { D with fs := l } rest) := by
  subst hn
  have h1 := h.erase 7
  simp only [List.eraseIdx_cons_zero, List.eraseIdx_cons_succ, dkl] at h1
  have h2 := (Bag.grp_iff (gs := [.box c #[v] 30, .lst 52 2 v l.length (fcs l)])).2 h1
  have h3 := h2.perm (List.perm_middle (l₁ := [D.box L p, .lst 29 1 L.lv D.ls.length (L.bs.map slv), .rows 5 512 L.bs D.ls, .lst 84 2 L.pv D.ps.length (pcs D.ps L.qs), .rows 5 512 L.qs (D.ps.map Prod.snd)]) (l₂ := rest)).symm
  exact h3.put 0 rfl 5 (.func (.func 42) #[] #[.pointer (some ⟨c, 0, none⟩)])
def ArmR (w : World) (p : Nat) (D : Dk) (rest : List It) (l : List (Int × Int)) (e : Ending) (W' : World) : Prop := ∃ L', e = .returned (.int .i64 (D.armE l)) ∧ Bag w W' (dkl p L' (D.armD l) rest)
theorem info_ft : (Tryd.prog.info? 52).map (fun i => (i.zero, i.size, i.bytes)) = some (some (.agg #[.int .i64 0, .int .i64 0]), 2, 16) := by kernel_rfl
open Go.RowKit
set_option maxRecDepth 100000 in
set_option maxHeartbeats 4000000 in
theorem dkArm (w W : World) (p : Nat) (L : Lay) (D : Dk) (rest : List It) (ao : Option Addr) (l : List (Int × Int)) (n c : Nat) (hln : l.length = n) (hn : n ≤ 8796093022000) (hnc : n ≤ c) (hao : ao = none → c = 0)
   (hr : ∀ W' D', Bag w W' (dkl p L D' rest) → Fd W' ao l) (hB : Bag w W (dkl p L D rest)) :
   Calls Tryd.prog 21 #[.pointer (some ⟨p, 0, none⟩), .slice ao n c] W (ArmR w p D rest l) := by
  have HB := Lib.hid hB
  have HLN := Lib.hid hln
  have HR := Lib.hid hr
  have HAO := Lib.hid hao
  clear hB hr hln hao
  go_enter Tryd.func21, Tryd.ntmps21
  go_wp2_with fail
  go_loopw [12] (fun t wr => ∃ j : Nat, j ≤ n ∧ t = .int .i64 j ∧ (List.range j).all (armGood l) = true ∧ Bag w wr (dkl p L D rest)) (fun t _ => n - (intOf t).toNat)
  case atStart => exact ⟨0, Nat.zero_le _, rfl, rfl, HB.out⟩
  case round =>
    obtain ⟨j, hj, rfl, hg, hB⟩ := hrel
    clear HB
    have HB := Lib.hid hB
    have HG := Lib.hid hg
    clear hB hg
    by_cases hlt : j < n
    · obtain ⟨⟨a, k⟩, hf⟩ : ∃ f, l[j]? = some f := ⟨l[j]'(by rw [HLN.out]; exact hlt), List.getElem?_eq_getElem _⟩
      obtain ⟨b, o, rfl, c1, c2⟩ := HR.out wr D HB.out j (a, k) hf
      simp only at c1 c2
      have hb0 : b < wr.heap.size := World.block_lt_of_cell? wr _ c1
      have HF := Lib.hid hf
      clear hf
      have HU0 := Lib.hid (HB.out.call (fresh1 wr (.cells #[.int .i64 a, .int .i64 k] 52 (0, 0))))
      by_cases ha : a < 1
      · have HX := Lib.hid (armGood_lo HF.out ha)
        go_wp2_with fail
        go_ret
        refine ⟨L, ?_, ?_⟩
        · rw [armE_no HLN.out hlt HX.out] <;> rfl
        · rw [armD_no HLN.out hlt HX.out]; exact HU0.out
      · by_cases hk : k = 1 ∨ k = 2
        · have hk' : k = 1 ∨ (k != 1) = true ∧ k = 2 := by rcases hk with h | h; exact Or.inl h; exact Or.inr ⟨by rw [bne_iff_ne]; omega, h⟩
          have HK := Lib.hid hk
          clear hk
          rcases hk' with rfl | ⟨hk1, rfl⟩
          · go_wp2_with fail
            obtain ⟨x1, _⟩ := cell_new2 wr (.int .i64 a) (.int .i64 1) 52 (0, 0)
            have h0 := HU0.out
            have hlt6 : wr.heap.size < (wr.alloc (.cells #[.int .i64 a, .int .i64 1] 52 (0, 0))).heap.size := World.block_lt_of_cell? _ _ x1
            generalize hU : wr.alloc (.cells #[.int .i64 a, .int .i64 1] 52 (0, 0)) = U at h0 x1 hlt6 ⊢
            generalize hbx : wr.heap.size = bx at x1 hlt6 ⊢
            clear HU0
            have HU0 := Lib.hid h0
            have HX6 := Lib.hid x1
            clear h0 x1 hU hbx hb0 c1 c2 HB
            go_loopw [34] (fun t wj => ∃ q : Nat, q ≤ j ∧ t = .int .i64 q ∧ (∀ i f, i < q → l[i]? = some f → f.1 ≠ a) ∧ Below U.heap.size U wj) (fun t _ => j - (intOf t).toNat)
            case atStart => exact ⟨0, Nat.zero_le _, rfl, fun i f hi => absurd hi (Nat.not_lt_zero i), Below.refl _ _⟩
            case round =>
              obtain ⟨q, hq, rfl, hd, hb⟩ := hrel
              have HDs := Lib.hid hd
              have HBl := Lib.hid hb
              have HUB := Lib.hid (HU0.out.call hb)
              have hc6 : wr.cell? ⟨bx, 0, none⟩ = some (.int .i64 a) := (hb.cell (p := ⟨bx, 0, none⟩) hlt6).trans HX6.out
              have hbx : bx < wr.heap.size := Nat.lt_of_lt_of_le hlt6 hb.size
              clear hd hb
              by_cases hqj : q < j
              · obtain ⟨⟨a2, k2⟩, hf2⟩ : ∃ f, l[q]? = some f := ⟨l[q]'(by rw [HLN.out]; omega), List.getElem?_eq_getElem _⟩
                obtain ⟨b2, o2, hbo, d1, d2⟩ := HR.out wr D HUB.out q (a2, k2) hf2
                simp only [Option.some.injEq, Addr.mk.injEq, and_true] at hbo
                obtain ⟨rfl, rfl⟩ := hbo
                simp only at d1 d2
                have hb2 : b < wr.heap.size := World.block_lt_of_cell? wr _ d1
                have HF2 := Lib.hid hf2
                have HB8 := Lib.hid (HBl.out.alloc HBl.out.size (.cells #[.int .i64 a2, .int .i64 k2] 52 (0, 0)))
                clear hf2
                by_cases haa : a2 = a
                · subst haa
                  have HX := Lib.hid (armGood_twice HF.out HF2.out hqj)
                  go_wp2_with fail
                  go_ret
                  refine ⟨L, ?_, ?_⟩
                  · rw [armE_no HLN.out hlt HX.out] <;> rfl
                  · rw [armD_no HLN.out hlt HX.out]; exact HU0.out.call HB8.out
                · have hne : (a2 == a) = false := by rw [beq_eq_false_iff_ne]; exact haa
                  have HNE := Lib.hid haa
                  clear haa
                  go_wp2_with fail
                  go_roundw
                  case rel =>
                    refine ⟨q + 1, by omega, by go_num, ?_, HB8.out⟩
                    intro i f hi hif
                    by_cases hiq : i = q
                    · subst hiq
                      rw [HF2.out] at hif
                      cases hif
                      exact HNE.out
                    · exact HDs.out i f (by omega) hif
                  case measure => simp [intOf]; omega
              · obtain rfl : q = j := by omega
                go_wp2_with fail
                go_roundw
                case rel => exact ⟨q + 1, by omega, by go_num, armAll_succ HG.out (armGood_yes HF.out (by omega) (by decide) HDs.out), HUB.out⟩
                case measure => simp [intOf]; omega
          · go_wp2_with fail
            obtain ⟨x1, _⟩ := cell_new2 wr (.int .i64 a) (.int .i64 2) 52 (0, 0)
            have h0 := HU0.out
            have hlt6 : wr.heap.size < (wr.alloc (.cells #[.int .i64 a, .int .i64 2] 52 (0, 0))).heap.size := World.block_lt_of_cell? _ _ x1
            generalize hU : wr.alloc (.cells #[.int .i64 a, .int .i64 2] 52 (0, 0)) = U at h0 x1 hlt6 ⊢
            generalize hbx : wr.heap.size = bx at x1 hlt6 ⊢
            clear HU0
            have HU0 := Lib.hid h0
            have HX6 := Lib.hid x1
            clear h0 x1 hU hbx hb0 c1 c2 HB
            go_loopw [34] (fun t wj => ∃ q : Nat, q ≤ j ∧ t = .int .i64 q ∧ (∀ i f, i < q → l[i]? = some f → f.1 ≠ a) ∧ Below U.heap.size U wj) (fun t _ => j - (intOf t).toNat)
            case atStart => exact ⟨0, Nat.zero_le _, rfl, fun i f hi => absurd hi (Nat.not_lt_zero i), Below.refl _ _⟩
            case round =>
              obtain ⟨q, hq, rfl, hd, hb⟩ := hrel
              have HDs := Lib.hid hd
              have HBl := Lib.hid hb
              have HUB := Lib.hid (HU0.out.call hb)
              have hc6 : wr.cell? ⟨bx, 0, none⟩ = some (.int .i64 a) := (hb.cell (p := ⟨bx, 0, none⟩) hlt6).trans HX6.out
              have hbx : bx < wr.heap.size := Nat.lt_of_lt_of_le hlt6 hb.size
              clear hd hb
              by_cases hqj : q < j
              · obtain ⟨⟨a2, k2⟩, hf2⟩ : ∃ f, l[q]? = some f := ⟨l[q]'(by rw [HLN.out]; omega), List.getElem?_eq_getElem _⟩
                obtain ⟨b2, o2, hbo, d1, d2⟩ := HR.out wr D HUB.out q (a2, k2) hf2
                simp only [Option.some.injEq, Addr.mk.injEq, and_true] at hbo
                obtain ⟨rfl, rfl⟩ := hbo
                simp only at d1 d2
                have hb2 : b < wr.heap.size := World.block_lt_of_cell? wr _ d1
                have HF2 := Lib.hid hf2
                have HB8 := Lib.hid (HBl.out.alloc HBl.out.size (.cells #[.int .i64 a2, .int .i64 k2] 52 (0, 0)))
                clear hf2
                by_cases haa : a2 = a
                · subst haa
                  have HX := Lib.hid (armGood_twice HF.out HF2.out hqj)
                  go_wp2_with fail
                  go_ret
                  refine ⟨L, ?_, ?_⟩
                  · rw [armE_no HLN.out hlt HX.out] <;> rfl
                  · rw [armD_no HLN.out hlt HX.out]; exact HU0.out.call HB8.out
                · have hne : (a2 == a) = false := by rw [beq_eq_false_iff_ne]; exact haa
                  have HNE := Lib.hid haa
                  clear haa
                  go_wp2_with fail
                  go_roundw
                  case rel =>
                    refine ⟨q + 1, by omega, by go_num, ?_, HB8.out⟩
                    intro i f hi hif
                    by_cases hiq : i = q
                    · subst hiq
                      rw [HF2.out] at hif
                      cases hif
                      exact HNE.out
                    · exact HDs.out i f (by omega) hif
                  case measure => simp [intOf]; omega
              · obtain rfl : q = j := by omega
                go_wp2_with fail
                go_roundw
                case rel => exact ⟨q + 1, by omega, by go_num, armAll_succ HG.out (armGood_yes HF.out (by omega) (by decide) HDs.out), HUB.out⟩
                case measure => simp [intOf]; omega
        · have hk1 : (k != 1) = true := by rw [bne_iff_ne]; omega
          have hk2 : (k != 2) = true := by rw [bne_iff_ne]; omega
          have HX := Lib.hid (armGood_kind HF.out (by omega) (by omega))
          clear hk
          go_wp2_with fail
          go_ret
          refine ⟨L, ?_, ?_⟩
          · rw [armE_no HLN.out hlt HX.out] <;> rfl
          · rw [armD_no HLN.out hlt HX.out]; exact HU0.out
    · have hjn : n = j := by omega
      subst hjn
      have hok : Dk.armOk l = true := by rw [armOk_def, HLN.out]; exact HG.out
      obtain ⟨q0, q1, q2, q3, q4, q5, qf⟩ := dkCells HB.out
      have hpl : p < wr.heap.size := World.block_lt_of_cell? wr _ q2
      cases hoff : D.off with
      | true =>
        have HE := Lib.hid (show D.armE l = 104 by unfold Dk.armE; rw [hok, hoff]; rfl)
        have HD := Lib.hid (show D.armD l = D by unfold Dk.armD; rw [HE.out]; rfl)
        rw [hoff] at q2
        clear hoff hok
        go_wp2_with fail
        go_ret
        refine ⟨L, ?_, ?_⟩
        · rw [HE.out] <;> rfl
        · rw [HD.out]; exact HB.out
      | false =>
        have HE := Lib.hid (show D.armE l = 0 by unfold Dk.armE; rw [hok, hoff]; rfl)
        have HD := Lib.hid (show D.armD l = { D with fs := l, done := 0 } by unfold Dk.armD; rw [HE.out]; rfl)
        rw [hoff] at q2
        clear hoff hok q0 q1 q3 q4 q5
        obtain ⟨is, his, hsz0, hsz1, hsz2⟩ := info_parts info_ft
        go_wp2_with (at_builtin; refine wpList_append_pairs rfl _ _ 30 rfl 52 is _ 16 Tryd.underlying30 his hsz0 hsz1 hsz2 rfl rfl ao n c (fcs l) rfl ?hm ?hc ?hn ?hmax ?hby ?_)
        case hm => rw [show (fcs l).length = l.length * 2 from prs_len _ _ _, HLN.out]
        case hc => exact fcs_cells (HR.out _ D HB.out)
        case hn => exact HAO.out
        case hmax => unfold maxLen; omega
        case hby => omega
        intro v w2 hown hb
        obtain ⟨av, cv, rfl, _, _⟩ := owns2 (It.lst_of hown)
        have h1 := (HB.out.owns hb hown).alloc #[.slice av n cv] 30
        have h2 := dkArmed HLN.out h1
        have HB3 := Lib.hid (dkPut3 h2 0)
        obtain ⟨q0, q1, q2, q3, q4, q5, qf⟩ := dkCells (HB.out.call hb)
        have hpl2 : p < w2.heap.size := World.block_lt_of_cell? w2 _ q2
        clear h1 h2 hown hb HB q0 q1 q2 q4
        go_wp2_with fail
        go_ret
        refine ⟨{ L with mt := some (w2.heap.size, .slice av n cv) }, ?_, ?_⟩
        · rw [HE.out] <;> rfl
        · have h3 := HB3.out
          rw [World.setCell_alloc_past _ p 5 _ hpl2, World.setCell_alloc_past _ p 3 _ (by simpa using hpl2)] at h3
          rw [HD.out]; exact h3
end Go.Proofs.YthaiibfnjgfgjaaDoor
namespace Go.Proofs.YthaiibfnjgfgjaaDoor
open Go.RowKit
theorem Bag.appendStep1 {P : Program} {w W : World} {l : List It} {ops : Array Oper} {o : Oper} {a : Act} {K : Act → World → Prop} {Q : Exit → Act → World → Prop} {G : Prop} (hgd : o.guard = none) (s x : Operand) (t : TypeId)
    (ho : o.op = .call { callee := .builtin .append, args := #[s, x], argTypes := #[t, t] })
    (e : TypeId) (i : TypeInfo) (z : Value) (bytes : Nat) (ht : P.underlying t = some (.slice e)) (hi : P.info? e = some i) (hz : i.zero = some z) (hsize : i.size = 1) (hby : i.bytes = bytes) (hzs : z.cells.size = 1)
    (k : Nat) (v : Value) (n : Nat) (xs : List Value) (hB : Bag w W l) (hk : l[k]? = some (.lst e 1 v n xs)) (hs : a.eval s = v)
    (b off : Nat) (hx : a.eval x = .slice (some ⟨b, off, none⟩) 1 1) (u : Value) (hu : W.cell? ⟨b, off, none⟩ = some u) (h1 : u.oneCell' = true) (hn : n + 1 ≤ maxLen) (hbytes : (n + 1) * bytes ≤ 140737488355328)
    (h : ∀ g cap W', Bag w W' (l.set k (.lst e 1 (.slice (some ⟨g, 0, none⟩) (n + 1) cap) (n + 1) (xs ++ [u]))) → W.heap.size ≤ W'.heap.size → K (a.put o.dst (.slice (some ⟨g, 0, none⟩) (n + 1) cap)) W') :
    if Region.wanted o (yielded ops a.tmps) = true then Oper.wp P o a W K Q else G := by
  have hown := hB.lst k hk
  refine step_append_lies (P := P) W hgd s x t ho 0 e i z 1 bytes ht hi hz hsize hby hzs (by decide) v n xs hs hown ⟨b, off, none⟩ 1 1 [u] hx rfl ?_ ?_ (by decide) hn hbytes (Nat.zero_le _) _ rfl ?_
  · intro j y hj
    match j with
    | 0 => simp at hj; subst hj; rw [← hu]; rfl
    | j + 1 => simp at hj
  · intro y hy
    simp at hy; subst hy; exact h1
  · intro g cap W' h2 h3 h4 h5
    refine h g cap W' (hB.turn k hk (S := fun b => v.ownBlock = some b) ⟨h3.os, h3.tape, h3.output, h3.size, fun b hb hne => h3.block b hb fun e => hne e.symm⟩ ?_ (It.lst_of h2) ?_) h3.size
    · intro b hb
      rcases hown.2 with ⟨rfl, _⟩ | ⟨g', cap', cur, rfl, _⟩
      · cases hb
      · simp only [Value.ownBlock, Option.some.injEq] at hb
        subst hb
        exact ⟨_, _, rfl⟩
    · rintro b ⟨n', cap', hb⟩
      simp only [Value.slice.injEq, Option.some.injEq, Addr.mk.injEq] at hb
      obtain ⟨⟨rfl, _⟩, _⟩ := hb
      rcases h4 with h4 | h4
      · left
        rcases hown.2 with ⟨rfl, _⟩ | ⟨g', cap', cur, rfl, _⟩
        · cases h4
        · simp only [Value.ownBlock, Option.some.injEq] at h4
          subst h4
          exact ⟨_, _, rfl⟩
      · right; omega
theorem info_sl : (Tryd.prog.info? 29).map (fun i => (i.zero, i.size, i.bytes)) = some (some (.slice none 0 0), 1, 24) := by kernel_rfl
def calmV : Value := .func (.func 50) #[] #[]
/-- A device while it is made: j sectors of zeros. -/
def newL (lv : Value) (bs : List Nat) : Lay := ⟨lv, .slice none 0 0, bs, [], none⟩
theorem dkBorn {w W : World} {p : Nat} {rest : List It} (h : Bag w W (.box p #[.slice none 0 0, .slice none 0 0, .bool false, .int .i64 0, .int .i64 0, calmV] 76 :: rest)) : Bag w W (dkl p (newL (.slice none 0 0) []) (Dk.new 0) rest) := by
  have h0 := h.cons (x := .grp [.fact (([] : List (Int × Int)) = [])]) (Below.refl _ W) ⟨by simp [It.fact], by simp⟩ (by rintro k ⟨x, hx, hk⟩; simp only [List.mem_singleton] at hx; subst hx; exact hk.elim)
  have h1 := (((h0.rowsNil 5 512).nil 84 2).rowsNil 5 512).nil 29 1
  have h2 := h1.perm (List.perm_middle (l₁ := ([It.lst 29 1 (.slice none 0 0) 0 [], It.rows 5 512 [] [], It.lst 84 2 (.slice none 0 0) 0 [], It.rows 5 512 [] [], It.grp [It.fact (([] : List (Int × Int)) = [])]] : List It)) (l₂ := rest))
  exact h2
theorem dkZeroRow {w W W' : World} {p : Nat} {lv : Value} {bs : List Nat} {j : Nat} {rest : List It} {gg : Nat} (h : Bag w W (dkl p (newL lv bs) (Dk.new j) rest)) (hb : Below W.heap.size W W') (hO : Own W' gg 512 5 Dk.zs) (hg : W.heap.size ≤ gg) :
    Bag w W' ((Dk.new j).box (newL lv bs) p :: .lst 29 1 lv j (bs.map slv) :: .rows 5 512 (bs ++ [gg]) (List.replicate (j + 1) Dk.zs) :: .lst 84 2 (.slice none 0 0) 0 [] :: .rows 5 512 [] [] :: .grp [.fact (([] : List (Int × Int)) = [])] :: rest) := by
  have h1 := h.rowsPush 2 rfl hb hO hg
  have e : (Dk.new j).ls ++ [Dk.zs] = List.replicate (j + 1) Dk.zs := by rw [List.replicate_succ']; rfl
  rw [e] at h1
  have e2 : (Dk.new j).ls.length = j := List.length_replicate ..
  unfold dkl at h1
  rw [e2] at h1
  exact h1
theorem dkNewOn {w W : World} {p : Nat} {lv : Value} {bs : List Nat} {j : Nat} {rest : List It} {g gg cap : Nat} (h : Bag w W ((Dk.new j).box (newL lv bs) p :: .lst 29 1 (.slice (some ⟨g, 0, none⟩) (j + 1) cap) (j + 1) (bs.map slv ++ [slv gg]) :: .rows 5 512 (bs ++ [gg]) (List.replicate (j + 1) Dk.zs) :: .lst 84 2 (.slice none 0 0) 0 [] :: .rows 5 512 [] [] :: .grp [.fact (([] : List (Int × Int)) = [])] :: rest)) :
    Bag w (W.setCell ⟨p, 0, none⟩ (.slice (some ⟨g, 0, none⟩) (j + 1) cap)) (dkl p (newL (.slice (some ⟨g, 0, none⟩) (j + 1) cap) (bs ++ [gg])) (Dk.new (j + 1)) rest) := by
  have h1 := h.put 0 rfl 0 (.slice (some ⟨g, 0, none⟩) (j + 1) cap)
  have e2 : (Dk.new (j + 1)).ls.length = j + 1 := List.length_replicate ..
  unfold dkl
  rw [e2]
  unfold newL
  simp only [List.map_append, List.map_cons, List.map_nil]
  exact h1
def NewR (w : World) (n : Nat) (e : Ending) (W' : World) : Prop := ∃ p L, e = .returned (.pointer (some ⟨p, 0, none⟩)) ∧ Bag w W' [It.disk p L (Dk.new n)]
theorem dkNewNo (n : Int) (w : World) (h : n < 32 ∨ 8192 < n) : Calls Tryd.prog 35 #[.int .i64 n] w fun e w' => e = .returned (.pointer none) ∧ w = w' := by
  have h' : n < 32 ∨ (¬ n < 32 ∧ 8192 < n) := by omega
  clear h
  rcases h' with h | ⟨h, h2⟩
  all_goals
    go_enter Tryd.func35, Tryd.ntmps35
    go_wp2_with fail
    go_ret
    exact ⟨rfl, rfl⟩
set_option maxRecDepth 100000 in
set_option maxHeartbeats 2000000 in
theorem dkNew (n : Nat) (w : World) (h0 : 32 ≤ n) (h1 : n ≤ 8192) : Calls Tryd.prog 35 #[.int .i64 (n : Nat)] w (NewR w n) := by
  obtain ⟨is, his, hsz0, hsz1, hsz2⟩ := info_parts info_sl
  have HB := Lib.hid (dkBorn ((Bag.start w).alloc #[.slice none 0 0, .slice none 0 0, .bool false, .int .i64 0, .int .i64 0, calmV] 76))
  go_enter Tryd.func35, Tryd.ntmps35
  go_wp2_with fail
  generalize hU : w.alloc (.cells #[.slice none 0 0, .slice none 0 0, .bool false, .int .i64 0, .int .i64 0, calmV] 76 (0, 0)) = U at HB
  generalize hp : w.heap.size = p at HB ⊢
  go_loopw [13] (fun t wr => ∃ j : Nat, j ≤ n ∧ t = .int .i64 j ∧ ∃ lv bs, Bag w wr (dkl p (newL lv bs) (Dk.new j) [])) (fun t _ => n - (intOf t).toNat)
  case atStart => exact ⟨0, Nat.zero_le _, rfl, _, _, (by first | (rw [← hU] at HB; exact HB.out))⟩
  case round =>
    obtain ⟨j, hj, rfl, lv, bs, hB⟩ := hrel
    clear HB
    have HB := Lib.hid hB
    clear hB hU hp
    by_cases hlt : j < n
    · obtain ⟨q0, _, _, _, _, _, qf⟩ := dkCells HB.out
      obtain ⟨aq, cp, hlv, hcp⟩ := HB.out.lstForm 1 rfl
      rw [show (Dk.new j).ls.length = j from List.length_replicate ..] at hlv hcp
      obtain rfl : lv = .slice aq j cp := hlv
      unfold newL at q0
      simp only at q0
      have hpl : p < wr.heap.size := World.block_lt_of_cell? wr _ q0
      go_wp2_with fail
      go_region_law (first
          | (go_simp; go_at_call 56; refine (dkZero 0 _).mono ?_; rintro e W3 ⟨gg, rfl, hgg, hOO, hbb⟩; have HB3 := Lib.hid (dkZeroRow HB.out.drew hbb hOO hgg); obtain ⟨q0', _, _, _, _, _, qf'⟩ := dkCells (HB.out.drew.call hbb); unfold newL at q0'; simp only at q0'; have hpl' : p < W3.heap.size := World.block_lt_of_cell? W3 _ q0'; clear hOO hbb hgg; unfold slv)
          | (refine Bag.appendStep1 rfl _ _ 39 rfl 29 is _ 24 Tryd.underlying39 his hsz0 hsz1 hsz2 rfl 1 _ j _ (HB3.out.call (fresh1 W3 (.cells #[slv gg] 29))) rfl rfl W3.heap.size 0 rfl _ (cell_of_row _ _ 0 _ _ _ (heap_alloc_new W3 (.cells #[slv gg] 29))) rfl (by unfold maxLen; omega) (by omega) ?_; intro gx cx W4 hB4 hsz; have HB4 := Lib.hid (dkNewOn hB4); have z1 : W4.cell? ⟨p, 0, none⟩ = some (.slice aq j cp) := (cell_of_row W4 p 0 _ _ _ (hB4.box 0 rfl)); have zf : W4.frozen? ⟨p, 0, none⟩ = false := frozen_of_row W4 p 0 _ _ (hB4.box 0 rfl); clear hB4))
      all_goals
        go_wp2_with fail
        go_roundw
        case rel => exact ⟨j + 1, by omega, by go_num, _, _, HB4.out⟩
        case measure => simp [intOf]; omega
    · obtain rfl : j = n := by omega
      go_wp2_with fail
      go_ret
      exact ⟨p, _, rfl, disk_iff.2 HB.out⟩
end Go.Proofs.YthaiibfnjgfgjaaDoor
