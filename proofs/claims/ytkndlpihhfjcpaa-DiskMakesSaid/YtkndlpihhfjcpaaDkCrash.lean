/- The program's device: Crash. -/
import Derived.Test.YtkndlpihhfjcpaaDkFlush
import Derived.Laws.EntriesVeiled
namespace Go.Proofs.Ytkndlpihhfjcpaa
open Go.RowKit
/-- Flags stand from an address on. -/
def Bo (w : World) (ao : Option Addr) (l : List Bool) : Prop := ∀ (j : Nat) (x : Bool), l[j]? = some x → ∃ b o, ao = some ⟨b, o, none⟩ ∧ w.cell? ⟨b, o + j, none⟩ = some (.bool x)
theorem Bo.on {w w' : World} {ao : Option Addr} {l : List Bool} (h : Bo w ao l) (hb : Below w.heap.size w w') : Bo w' ao l := by
  intro j f hj
  obtain ⟨b, o, h1, h2⟩ := h j f hj
  exact ⟨b, o, h1, (hb.cell (p := ⟨b, _, none⟩) (lt_of_rd h2)).trans h2⟩
theorem Bo.nil (w : World) (ao : Option Addr) : Bo w ao [] := by intro j x h; simp at h
theorem layK_nil (ps : List (Nat × List (BitVec 8))) (ls : List (List (BitVec 8))) : Dk.layK ps [] ls = ls := by cases ps <;> rfl
theorem layK_step {ps : List (Nat × List (BitVec 8))} {keep : List Bool} {j a : Nat} {b : List (BitVec 8)} {k : Bool} {ls : List (List (BitVec 8))} (hy : ps[j]? = some (a, b)) (hk : keep[j]? = some k) : Dk.layK (ps.drop j) (keep.drop j) ls = Dk.layK (ps.drop (j + 1)) (keep.drop (j + 1)) (if k then ls.set a b else ls) := by
  obtain ⟨hj, hx⟩ := List.getElem?_eq_some_iff.1 hy
  obtain ⟨hj2, hx2⟩ := List.getElem?_eq_some_iff.1 hk
  rw [List.drop_eq_getElem_cons hj, hx, List.drop_eq_getElem_cons hj2, hx2]
  rfl
def CrashR (w : World) (p : Nat) (D : Dk) (rest : List It) (keep : List Bool) (e : Ending) (W' : World) : Prop := ∃ L' v, e = .returned v ∧ Bag w W' (dkl p L' (D.crashD keep) rest)
/-- The state within the loop. -/
def KeptJ (w : World) (p : Nat) (L : Lay) (D : Dk) (rest : List It) (keep : List Bool) (j : Nat) (W : World) : Prop := ∃ ls, ls.length = D.ls.length ∧ (∀ l ∈ ls, l.length = 512) ∧ Dk.layK (D.ps.drop j) (keep.drop j) ls = Dk.layK D.ps keep D.ls ∧ Bag w W (dkl p L { D with ls := ls } rest)
theorem keptJ_succ {w W' : World} {p : Nat} {L : Lay} {D : Dk} {rest : List It} {keep : List Bool} {j a : Nat} {b : List (BitVec 8)} {ls : List (List (BitVec 8))} (h1 : ls.length = D.ls.length) (h2 : ∀ l ∈ ls, l.length = 512) (h3 : Dk.layK (D.ps.drop j) (keep.drop j) ls = Dk.layK D.ps keep D.ls) (hy : D.ps[j]? = some (a, b)) (hl : b.length = 512) (hk : keep[j]? = some true)
    (hW : Bag w W' (dkl p L { D with ls := ls.set a b } rest)) : KeptJ w p L D rest keep (j + 1) W' := by
  refine ⟨ls.set a b, by simp [h1], Dk.set_all h2 hl, ?_, hW⟩
  rw [← h3]
  obtain ⟨hj, hx⟩ := List.getElem?_eq_some_iff.1 hy
  obtain ⟨hj2, hx2⟩ := List.getElem?_eq_some_iff.1 hk
  rw [List.drop_eq_getElem_cons hj, hx, List.drop_eq_getElem_cons hj2, hx2]
  rfl
theorem keptJ_skip {w W' : World} {p : Nat} {L : Lay} {D : Dk} {rest : List It} {keep : List Bool} {j a : Nat} {b : List (BitVec 8)} {ls : List (List (BitVec 8))} (h1 : ls.length = D.ls.length) (h2 : ∀ l ∈ ls, l.length = 512) (h3 : Dk.layK (D.ps.drop j) (keep.drop j) ls = Dk.layK D.ps keep D.ls) (hy : D.ps[j]? = some (a, b)) (hk : keep[j]? = none ∨ keep[j]? = some false)
    (hW : Bag w W' (dkl p L { D with ls := ls } rest)) : KeptJ w p L D rest keep (j + 1) W' := by
  refine ⟨ls, h1, h2, ?_, hW⟩
  rw [← h3]
  obtain ⟨hj, hx⟩ := List.getElem?_eq_some_iff.1 hy
  rw [List.drop_eq_getElem_cons hj, hx]
  rcases hk with hk | hk
  · have hl : keep.length ≤ j := List.getElem?_eq_none_iff.1 hk
    rw [List.drop_of_length_le hl, List.drop_of_length_le (show keep.length ≤ j + 1 by omega), layK_nil, layK_nil]
  · obtain ⟨hj2, hx2⟩ := List.getElem?_eq_some_iff.1 hk
    rw [List.drop_eq_getElem_cons hj2, hx2]
    rfl
set_option maxRecDepth 100000 in
set_option maxHeartbeats 2000000 in
theorem dkCrash (w W : World) (p : Nat) (L : Lay) (D : Dk) (rest : List It) (m : Nat) (ao : Option Addr) (keep : List Bool) (n c : Nat) (hkn : keep.length = n) (hn : n ≤ 1000000000000000000) (hw : D.Wf m) (hm : m ≤ 1000000000000)
   (hr : ∀ W' D', Bag w W' (dkl p L D' rest) → Bo W' ao keep) (hB : Bag w W (dkl p L D rest)) :
   Calls Try.prog 17 #[.pointer (some ⟨p, 0, none⟩), .slice ao n c] W (CrashR w p D rest keep) := by
  obtain ⟨i0, hi, hz0, hz1, hz2⟩ := info_parts info_u8
  have HW := Lib.hid hw
  have HB := Lib.hid hB
  have HKN := Lib.hid hkn
  have HR := Lib.hid hr
  clear hB hw hr hkn
  obtain ⟨_, q1, _, _, _, _, qf⟩ := dkCells HB.out
  obtain ⟨aq, cp, hpv, hcp, hql, _⟩ := dkPv HB.out
  obtain ⟨u, hu⟩ : ∃ u, D.ps.length = u := ⟨_, rfl⟩
  have hum : u ≤ m := by rw [← hu]; exact HW.out.pend
  rw [hu] at hpv hcp hql
  rw [hpv] at q1
  have HPV := Lib.hid hpv
  have HQL := Lib.hid hql
  have HU := Lib.hid hu
  clear hpv hql hu
  go_enter Try.func17, Try.ntmps17
  go_wp2_with fail
  go_loopw [11] (fun t wr => ∃ j : Nat, j ≤ u ∧ t = .int .i64 j ∧ KeptJ w p L D rest keep j wr) (fun t _ => u - (intOf t).toNat)
  case atStart => exact ⟨0, Nat.zero_le _, rfl, D.ls, rfl, HW.out.sec, rfl, HB.out⟩
  case round =>
    obtain ⟨j, hj, rfl, hJ⟩ := hrel
    have HJ := Lib.hid hJ
    clear hJ HB
    by_cases hlt : j < u
    · obtain ⟨⟨a, b⟩, hy⟩ : ∃ y, D.ps[j]? = some y := ⟨D.ps[j]'(by rw [HU.out]; exact hlt), List.getElem?_eq_getElem _⟩
      obtain ⟨q, hq⟩ : ∃ q, L.qs[j]? = some q := ⟨L.qs[j]'(by rw [HQL.out]; exact hlt), List.getElem?_eq_getElem _⟩
      have hab := HW.out.at_ (a, b) (List.mem_of_getElem? hy)
      simp only at hab
      obtain ⟨ls, hls, hl5, hlay, hB⟩ := HJ.out
      have HB := Lib.hid hB
      have HLS := Lib.hid hls
      have HL5 := Lib.hid hl5
      have HY := Lib.hid hy
      have HQ := Lib.hid hq
      have HAB := Lib.hid hab.2
      have ha := hab.1
      have HLay := Lib.hid hlay
      clear hls hl5 hlay hB hab
      obtain ⟨ao2, cp', hpv, _, _, hcs⟩ := dkPv HB.out
      obtain ⟨gp, rfl, hcs2⟩ := hcs (show 0 < D.ps.length by rw [HU.out]; omega)
      obtain ⟨c1, c2⟩ := hcs2 j (a, b) q hy hq
      rw [HPV.out] at hpv
      simp only [Value.slice.injEq] at hpv
      obtain rfl := hpv.1
      unfold slv at c2
      simp only at c1
      clear hcs hcs2 hpv hy hq q1 qf
      have h0 := HB.out.call (fresh1 wr (.cells #[.int .i64 (a : Nat), .slice (some ⟨q, 0, none⟩) 512 512] 85 (0, 0)))
      have hsz := (fresh1 wr (.cells #[.int .i64 (a : Nat), .slice (some ⟨q, 0, none⟩) 512 512] 85 (0, 0))).size
      have HU0 := Lib.hid h0
      clear h0 hsz
      by_cases hjk : j < n
      · obtain ⟨kb, hkb⟩ : ∃ kb, keep[j]? = some kb := ⟨keep[j]'(by rw [HKN.out]; exact hjk), List.getElem?_eq_getElem _⟩
        obtain ⟨bk0, bo0, rfl, ck⟩ := HR.out _ _ HB.out j kb hkb
        have hbkl : bk0 < wr.heap.size := World.block_lt_of_cell? wr _ ck
        have HKB := Lib.hid hkb
        clear hkb
        cases kb with
        | false =>
          go_wp2_with fail
          have HJ' := Lib.hid (keptJ_skip HLS.out HL5.out HLay.out HY.out (Or.inr HKB.out) HU0.out)
          clear HJ HB HU0 c1 c2 ck
          go_roundw
          case rel => exact ⟨j + 1, by omega, by go_num, HJ'.out⟩
          case measure => simp [intOf]; omega
        | true =>
          go_wp2_with fail
          obtain ⟨x1, x2⟩ := cell_new2 wr (.int .i64 (a : Nat)) (.slice (some ⟨q, 0, none⟩) 512 512) 85 (0, 0)
          have h0 := HU0.out
          generalize hU : wr.alloc (.cells #[.int .i64 (a : Nat), .slice (some ⟨q, 0, none⟩) 512 512] 85 (0, 0)) = U at h0 x1 x2 ⊢
          generalize hbx : wr.heap.size = bx at x1 x2 hbkl ⊢
          clear HU0
          have HU0 := Lib.hid h0
          clear h0
          obtain ⟨q0, _, _, _, _, _, qf⟩ := dkCells HU0.out
          obtain ⟨g, cap, hlv, hcap, hbl, hbs⟩ := dkLv HU0.out (by simp only; rw [HLS.out]; exact HW.out.lo)
          obtain ⟨bk, hbk⟩ : ∃ bk, L.bs[a]? = some bk := ⟨L.bs[a]'(by rw [hbl]; simp only; rw [HLS.out]; exact ha), List.getElem?_eq_getElem _⟩
          have c3 := hbs a bk hbk
          simp only at hlv
          rw [hlv] at q0
          unfold slv at c3
          have HBK := Lib.hid hbk
          have hal : (a : Int) < ls.length := by rw [HLS.out]; omega
          clear hlv hcap hbl hbs hbk c1 c2 ck hbx hbkl
          go_still_tail 10, (by kernel_rfl)
          obtain ⟨l0, hl0⟩ : ∃ l0, ls[a]? = some l0 := ⟨ls[a]'(by omega), List.getElem?_eq_getElem _⟩
          have HL0 := Lib.hid (HL5.out l0 (List.mem_of_getElem? hl0))
          have hO := HU0.out.drew.rowsOwn 2 rfl a HBK.out hl0
          have hR := (HU0.out.drew.rowsOwn 4 rfl j HQ.out (show (D.ps.map Prod.snd)[j]? = some b by rw [List.getElem?_map, HY.out]; rfl)).rd
          clear hl0 q0 qf c3
          go_wp2_with (with_reducible refine wpList_copy_bytes rfl (.tmp 33) (.tmp 35) 37 37 rfl 5 i0 Try.underlying37 hi hz1 bk 512 512 (some ⟨q, 0, none⟩) 512 512 ?hd ?hs 512 5 l0 b ?hO ?hL ?hr ?hl ?hmn ?_)
          case hL => exact HL0.out
          case hl => exact HAB.out
          intro w3 hO3 _ hB3
          have HJ' := Lib.hid (keptJ_succ HLS.out HL5.out HLay.out HY.out HAB.out HKB.out (dkRow HU0.out.drew HBK.out hB3 (own_cut hO3 HL0.out)))
          clear hO hR hO3 hB3 HJ HB HU0 x1 x2 hU
          go_wp2_with fail
          go_roundw
          case rel => exact ⟨j + 1, by omega, by go_num, HJ'.out⟩
          case measure => simp [intOf]; omega
      · have HKB := Lib.hid (show keep[j]? = none from List.getElem?_eq_none_iff.2 (by rw [HKN.out]; omega))
        go_wp2_with fail
        have HJ' := Lib.hid (keptJ_skip HLS.out HL5.out HLay.out HY.out (Or.inl HKB.out) HU0.out)
        clear HJ HB HU0 c1 c2
        go_roundw
        case rel => exact ⟨j + 1, by omega, by go_num, HJ'.out⟩
        case measure => simp [intOf]; omega
    · obtain rfl : j = u := by omega
      obtain ⟨ls, hls, hl5, hlay, hB⟩ := HJ.out
      rw [← HU.out, List.drop_length] at hlay
      simp only [Dk.layK] at hlay
      have HB := Lib.hid (dkPut2 (dkPut3 (dkCalmSet (dkPendNil hB)) 0) false)
      have HLay := Lib.hid hlay
      obtain ⟨_, q1, q2, q3, _, q5, qf⟩ := dkCells hB
      clear hls hl5 hlay hB
      go_wp2_with fail
      refine bodyPost_end (results_none rfl _ _ _) rfl ?_
      refine ⟨L.clear.calm, _, rfl, ?_⟩
      unfold Dk.crashD
      rw [← HLay.out]
      exact HB.out
end Go.Proofs.Ytkndlpihhfjcpaa
