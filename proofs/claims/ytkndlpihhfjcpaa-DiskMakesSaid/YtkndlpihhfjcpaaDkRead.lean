/- The program's device: Read. -/
import Derived.Test.YtkndlpihhfjcpaaDkOp
namespace Go.Proofs.Ytkndlpihhfjcpaa
open Go.RowKit
theorem latest_snoc (ls : List (List (BitVec 8))) (l : List (Nat × List (BitVec 8))) (p : Nat × List (BitVec 8)) (i : Nat) : Dk.latest ls (l ++ [p]) i = if p.1 = i then p.2 else Dk.latest ls l i := by
  unfold Dk.latest
  rw [List.reverse_append, List.reverse_singleton, List.singleton_append, List.find?_cons]
  by_cases h : p.1 = i
  · simp [h]
  · have : (p.1 == i) = false := by rw [beq_eq_false_iff_ne]; exact h
    simp [this, h]
theorem take_at {α : Type} {l : List α} {j : Nat} {x : α} (h : l[j]? = some x) : l.take (j + 1) = l.take j ++ [x] := by
  obtain ⟨hj, rfl⟩ := List.getElem?_eq_some_iff.1 h
  exact List.take_succ_eq_append_getElem hj
def ReadR (w : World) (p : Nat) (L : Lay) (D : Dk) (rest : List It) (i : Int) (e : Ending) (W' : World) : Prop := ∃ ao cap, e = .returned (.tuple #[.slice ao (D.readB i).length cap, .int .i64 (D.readE i)]) ∧ Bag w W' (.mine 5 ao cap (D.readB i) :: dkl p L (D.readD i) rest)
theorem Bag.mineNil {w W : World} {l : List It} (h : Bag w W l) (e : TypeId) : Bag w W (.mine e none 0 [] :: l) :=
  h.mine (Below.refl _ W) (Or.inl ⟨rfl, rfl, rfl⟩)
theorem ints_ne {a b : Nat} (h : ¬ a = b) : ((a : Int) == (b : Int)) = false := by rw [beq_eq_false_iff_ne]; omega
set_option maxRecDepth 20000 in
set_option maxHeartbeats 800000 in
theorem dkRead (w W : World) (p : Nat) (L : Lay) (D : Dk) (rest : List It) (m : Nat) (i : Int) (hw : D.Wf m) (hm : m ≤ 1000000000000000) (hf : D.fs.length ≤ 1000000000000000) (hi0 : -9223372036854775808 ≤ i) (hi1 : i ≤ 9223372036854775807) (hB : Bag w W (dkl p L D rest)) :
   Calls Try.prog 28 #[.pointer (some ⟨p, 0, none⟩), .int .i64 i] W (ReadR w p L D rest i) := by
  obtain ⟨q0, q1, q2, q3, q4, q5, qf⟩ := dkCells hB
  obtain ⟨g, cap, hlv, hcap, hbl, hbs⟩ := dkLv hB hw.lo
  obtain ⟨n, hn⟩ : ∃ n, D.ls.length = n := ⟨_, rfl⟩
  have hnlo := hw.lo
  have hnhi := hw.hi
  rw [hn] at hnlo hnhi
  rw [hlv, hn] at q0
  have HW := Lib.hid hw
  have HB := Lib.hid hB
  have HN := Lib.hid hn
  clear hB hlv hcap hbl hbs q1 q2 q3 q4 q5 hw hn
  by_cases hi : 0 ≤ i ∧ i < n
  · obtain ⟨k, rfl⟩ : ∃ k : Nat, i = k := ⟨i.toNat, by omega⟩
    have hkn : k < n := by omega
    have HI := Lib.hid (show D.inn k = true by unfold Dk.inn; rw [HN.out]; simpa using hkn)
    clear hi
    go_enter Try.func28, Try.ntmps28
    go_wp2_with fail
    refine (dkOperate w W p L D rest (Nat.le_trans HW.out.count hm) hf HB.out).mono ?_
    rintro e w1 ⟨rfl, hB1⟩
    have HB1 := Lib.hid hB1
    clear hB1 HB q0 qf
    obtain ⟨x, hx⟩ : ∃ x, D.opE = x := ⟨_, rfl⟩
    rw [hx]
    have HX := Lib.hid hx
    clear hx
    have HE := Lib.hid (show D.readE k = x by unfold Dk.readE; rw [HI.out, HX.out]; rfl)
    have HD := Lib.hid (show D.readD k = D.opD by unfold Dk.readD; rw [HI.out]; rfl)
    by_cases hx0 : x = 0
    · subst hx0
      have HR := Lib.hid (show D.readB k = Dk.latest D.ls D.ps k by unfold Dk.readB; rw [HE.out]; rfl)
      obtain ⟨q0, q1, _, _, _, _, qf⟩ := dkCells HB1.out
      obtain ⟨g, cap, hlv, hcap, hbl, hbs⟩ := dkLv HB1.out (by rw [Dk.opD_ls]; exact HW.out.lo)
      obtain ⟨ao, cp, hpv, hcp, hql, hqs⟩ := dkPv HB1.out
      rw [Dk.opD_ls] at hlv hcap hbl
      rw [Dk.opD_ps] at hpv hcp hql hqs
      obtain ⟨s, hs⟩ : ∃ s, D.ps.length = s := ⟨_, rfl⟩
      have hsm : s ≤ m := by rw [← hs]; exact HW.out.pend
      rw [hlv, HN.out] at q0
      rw [hpv, hs] at q1
      rw [HN.out] at hcap hbl
      rw [hs] at hcp hql hqs
      have HS := Lib.hid hs
      have HQ := Lib.hid hqs
      have HBS := Lib.hid hbs
      have HBL := Lib.hid hbl
      have HQL := Lib.hid hql
      clear hlv hpv hs hqs hbs hbl hql
      go_wp2_with fail
      go_loop [7] (fun t => ∃ z : Int, -1 ≤ z ∧ z < s ∧ t = .int .i64 z ∧ Dk.latest D.ls (D.ps.take (z + 1).toNat) k = Dk.latest D.ls D.ps k) (fun t => (intOf t + 1).toNat)
      case atStart => exact ⟨(s : Int) - 1, by omega, by omega, rfl, by rw [show ((s : Int) - 1 + 1).toNat = D.ps.length by rw [HS.out]; omega, List.take_length]⟩
      case round =>
        obtain ⟨z, hz0, hz1, rfl, hz⟩ := hrel
        have HZ := Lib.hid hz
        clear hz
        by_cases hzz : 0 ≤ z
        · obtain ⟨j, rfl⟩ : ∃ j : Nat, z = j := ⟨z.toNat, by omega⟩
          have hj : j < s := by omega
          obtain ⟨y, hy⟩ : ∃ y, D.ps[j]? = some y := ⟨D.ps[j]'(by rw [HS.out]; exact hj), List.getElem?_eq_getElem _⟩
          obtain ⟨q, hq⟩ : ∃ q, L.qs[j]? = some q := ⟨L.qs[j]'(by rw [HQL.out]; exact hj), List.getElem?_eq_getElem _⟩
          obtain ⟨gp, rfl, hcs⟩ := HQ.out (by omega)
          obtain ⟨c1, c2⟩ := hcs j y q hy hq
          unfold slv at c2
          have HT := Lib.hid (take_at hy)
          have HY := Lib.hid hy
          have HQQ := Lib.hid hq
          clear HQ hcs hy hq
          obtain ⟨a, b⟩ := y
          simp only at c1
          by_cases hak : a = k
          · subst hak
            have HV := Lib.hid (show Dk.latest D.ls D.ps a = b by rw [← HZ.out, show ((j : Int) + 1).toNat = j + 1 by omega, HT.out, latest_snoc, if_pos rfl])
            go_wp2_with fail
            have hO := HB1.out.rowsOwn 4 rfl j HQQ.out (show (D.opD.ps.map Prod.snd)[j]? = some b by rw [Dk.opD_ps, List.getElem?_map, HY.out]; rfl)
            have hb5 : b.length = 512 := (HW.out.at_ (a, b) (List.mem_of_getElem? HY.out)).2
            refine (dkSector (some ⟨q, 0, none⟩) b 512 _ hb5 hO.rd).mono ?_
            rintro e w2 ⟨gg, rfl, hgg, hOO, hbb⟩
            have HB2 := Lib.hid (HB1.out.own hbb hOO hgg)
            have HB5 := Lib.hid hb5
            clear hO hOO hbb hgg hb5
            unfold slv
            go_wp2_with fail
            go_ret2
            refine ⟨some ⟨gg, 0, none⟩, 512, ?_, ?_⟩
            · rw [HR.out, HV.out, HB5.out, HE.out] <;> rfl
            · rw [HR.out, HV.out, HD.out]; exact HB2.out
          · have hne := ints_ne hak
            have HV := Lib.hid (show Dk.latest D.ls (D.ps.take j) k = Dk.latest D.ls D.ps k by rw [← HZ.out, show ((j : Int) + 1).toNat = j + 1 by omega, HT.out, latest_snoc, if_neg hak])
            clear hak
            go_wp2_with fail
            go_round
            case rel => exact ⟨(j : Int) - 1, by omega, by omega, rfl, by rw [show ((j : Int) - 1 + 1).toNat = j by omega]; exact HV.out⟩
            case measure => (simp [intOf] <;> omega)
        · obtain rfl : z = -1 := by omega
          have HV := Lib.hid (show D.ls.getD k [] = Dk.latest D.ls D.ps k by rw [← HZ.out]; rfl)
          obtain ⟨b, hb⟩ : ∃ b, L.bs[k]? = some b := ⟨L.bs[k]'(by rw [HBL.out]; exact hkn), List.getElem?_eq_getElem _⟩
          have c := HBS.out k b hb
          unfold slv at c
          have HBB := Lib.hid hb
          clear HBS hb
          go_wp2_with fail
          have hlk : D.ls[k]? = some (D.ls.getD k []) := by rw [List.getD, List.getElem?_eq_getElem (by rw [HN.out]; exact hkn)]; rfl
          have hO := HB1.out.rowsOwn 2 rfl k HBB.out (show D.opD.ls[k]? = some (D.ls.getD k []) by rw [Dk.opD_ls]; exact hlk)
          have hb5 : (D.ls.getD k []).length = 512 := HW.out.sec _ (List.mem_of_getElem? hlk)
          obtain ⟨l, hl⟩ : ∃ l, D.ls.getD k [] = l := ⟨_, rfl⟩
          rw [hl] at hO hb5 HV
          clear hl hlk
          refine (dkSector (some ⟨b, 0, none⟩) l 512 _ hb5 hO.rd).mono ?_
          rintro e w2 ⟨gg, rfl, hgg, hOO, hbb⟩
          have HB2 := Lib.hid (HB1.out.own hbb hOO hgg)
          have HB5 := Lib.hid hb5
          clear hO hOO hbb hgg hb5
          unfold slv
          go_wp2_with fail
          go_ret2
          refine ⟨some ⟨gg, 0, none⟩, 512, ?_, ?_⟩
          · rw [HR.out, ← HV.out, HB5.out, HE.out] <;> rfl
          · rw [HR.out, ← HV.out, HD.out]; exact HB2.out
    · have hne : (x != 0) = true := by rw [bne_iff_ne]; exact hx0
      have HR := Lib.hid (show D.readB k = [] by unfold Dk.readB; rw [HE.out, if_neg hx0])
      clear hx0
      go_wp2_with fail
      go_ret2
      refine ⟨none, 0, ?_, ?_⟩
      · rw [HR.out, HE.out] <;> rfl
      · rw [HR.out, HD.out]; exact HB1.out.mineNil _
  · have HI := Lib.hid (show D.inn i = false by unfold Dk.inn; rw [HN.out]; exact decide_eq_false hi)
    have HE := Lib.hid (show D.readE i = 101 by unfold Dk.readE; rw [HI.out]; rfl)
    have HD := Lib.hid (show D.readD i = D by unfold Dk.readD; rw [HI.out]; rfl)
    have HR := Lib.hid (show D.readB i = [] by unfold Dk.readB; rw [HE.out]; rfl)
    have hi' : i < 0 ∨ (0 ≤ i ∧ (n : Int) ≤ i) := by omega
    clear hi
    rcases hi' with hi | ⟨hi, hin⟩
    all_goals
      go_enter Try.func28, Try.ntmps28
      go_wp2_with fail
      go_ret2
      refine ⟨none, 0, ?_, ?_⟩
      · rw [HR.out, HE.out] <;> rfl
      · rw [HR.out, HD.out]; exact HB.out.mineNil _
end Go.Proofs.Ytkndlpihhfjcpaa
