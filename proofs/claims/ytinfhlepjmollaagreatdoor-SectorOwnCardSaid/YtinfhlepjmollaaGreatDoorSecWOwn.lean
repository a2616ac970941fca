/- The walk of SectorOwn. -/
import Derived.Test.YtinfhlepjmollaaGreatDoorZSec
import Derived.Test.YtinfhlepjmollaaGreatDoorSecMayL
import Derived.Test.YtinfhlepjmollaaGreatDoorBookU
import Derived.Laws.Tables
namespace Go.Proofs.YtinfhlepjmollaaGreatDoor
open Go.RowKit
set_option maxRecDepth 20000
theorem wp_build {P : Program} {o : Oper} {a : Act} {w : World} {K : Act → World → Prop} {Q : Exit → Act → World → Prop} (t : TypeId) (cells : Array Value) (ho : o.op = .build t #[]) (h : P.built t [] = some cells) (hk : K (a.put o.dst (.agg cells)) w) : Oper.wp P o a w K Q := by
  unfold Oper.wp
  simp [execOp, ho, run_build w t #[] cells h, Result.andThen]
  exact hk
theorem perm_to3 {α : Type} (a b m : α) (r : List α) : (a :: b :: m :: r).Perm (m :: a :: b :: r) :=
  ((List.Perm.swap m b r).cons a).trans (List.Perm.swap m a _)
theorem may_body {st sb : List (BitVec 8)} {se ss sp : Int} (h : Sec.may ⟨st, se, ss, sp, sb⟩ = true) : sb.length ≤ 1000000 := by
  unfold Sec.may at h
  simp at h
  omega
/-- From an address on stand these sectors. -/
def Rs (w : World) (ao : Option Addr) (l : List (Sec × Option Addr × Nat)) : Prop := ∀ (i : Nat) (S : Sec) (aB : Option Addr) (cB : Nat), l[i]? = some (S, aB, cB) → ∃ b o, ao = some ⟨b, o, none⟩ ∧
  w.cell? ⟨b, o + i * 5, none⟩ = some (.string (str S.tag)) ∧ w.cell? ⟨b, o + i * 5 + 1, none⟩ = some (.int .i64 S.epoch) ∧ w.cell? ⟨b, o + i * 5 + 2, none⟩ = some (.int .i64 S.seq) ∧ w.cell? ⟨b, o + i * 5 + 3, none⟩ = some (.int .i64 S.place) ∧ w.cell? ⟨b, o + i * 5 + 4, none⟩ = some (.slice aB S.body.length cB) ∧
  S.fits ∧ Rd w aB S.body ∧ (aB = none → cB = 0) ∧ S.body.length ≤ cB
theorem Rs.on {w w' : World} {ao : Option Addr} {l : List (Sec × Option Addr × Nat)} (h : Rs w ao l) (hb : Below w.heap.size w w') : Rs w' ao l := by
  intro i S aB cB hi
  obtain ⟨b, o, rfl, h0, h1, h2, h3, h4, h5, h6, h7, h8⟩ := h i S aB cB hi
  exact ⟨b, o, rfl, (hb.cell (p := ⟨b, _, none⟩) (lt_of_rd h0)).trans h0, (hb.cell (p := ⟨b, _, none⟩) (lt_of_rd h1)).trans h1, (hb.cell (p := ⟨b, _, none⟩) (lt_of_rd h2)).trans h2, (hb.cell (p := ⟨b, _, none⟩) (lt_of_rd h3)).trans h3, (hb.cell (p := ⟨b, _, none⟩) (lt_of_rd h4)).trans h4, h5, h6.on hb, h7, h8⟩
set_option maxHeartbeats 4000000 in
theorem lawSectorOwn (l : List (Sec × Option Addr × Nat)) (ao : Option Addr) (n cap : Nat) (w : World) (hn : l.length = n) (hr : Rs w ao l) (ht : Tab w) (hT : 0 < w.heap.size) :
   Calls Tryz.prog 3 #[.slice ao n cap] w fun e w' => e = .returned (.bool true) ∧ Below w.heap.size w w' := by
  have HTB := Lib.hid (fun (w' : World) (hb : Below w.heap.size w w') => (⟨ht.below hb hT, Nat.lt_of_lt_of_le hT hb.size⟩ : _ ∧ _))
  have HR := Lib.hid (fun (w' : World) (hb : Below w.heap.size w w') => hr.on hb)
  have HN := Lib.hid hn
  clear hr ht hT hn
  go_enter Tryz.func3, Tryz.ntmps3
  go_wp2_with fail
  refine (lawFirst w (HTB.out _ (Below.refl _ w)).1 (HTB.out _ (Below.refl _ w)).2).mono ?_
  rintro e W1 ⟨rfl, hb⟩
  have HB1 := Lib.hid ((Bag.start w).call hb)
  clear hb
  go_wp2_with fail
  refine wp_build _ (bookCells 0 0 (.slice none 0 0) (.slice none 0 0) (.slice none 0 0)) rfl (by kernel_rfl) ?_
  generalize hbc : bookCells 0 0 (.slice none 0 0) (.slice none 0 0) (.slice none 0 0) = BC
  go_wp2_with fail
  have h0 := HB1.out.alloc BC 43
  rw [← hbc] at h0
  have HK := Lib.hid h0.booked
  rw [hbc] at HK
  generalize hU : W1.alloc (.cells BC 43 (0, 0)) = U at HK ⊢
  generalize hp : W1.heap.size = p at HK ⊢
  clear h0 hU hp hbc HB1
  go_loopw [5] (fun t wr => ∃ k : Nat, k ≤ 30 ∧ k ≤ n ∧ t = .int .i64 k ∧ Booked w wr p (7 * k) []) (fun t _ => 30 - (intOf t).toNat)
  case atStart => exact ⟨0, by omega, by omega, rfl, HK.out⟩
  case round =>
    obtain ⟨k, hk, hkn, rfl, hK⟩ := hrel
    clear HK
    have HK := Lib.hid hK
    clear hK
    by_cases hlt : k < n
    · by_cases h30 : k < 30
      · obtain ⟨⟨S, aB, cB⟩, hS⟩ : ∃ x, l[k]? = some x := ⟨l[k]'(by rw [HN.out]; exact hlt), List.getElem?_eq_getElem _⟩
        obtain ⟨hf, hrd, hnc, hle⟩ : S.fits ∧ Rd w aB S.body ∧ (aB = none → cB = 0) ∧ S.body.length ≤ cB := by
          obtain ⟨_, _, _, _, _, _, _, _, h⟩ := HR.out w (Below.refl _ w) k S aB cB hS
          exact h
        obtain ⟨b, o, rfl, c0, c1, c2, c3, c4, _⟩ := HR.out wr HK.out.below k S aB cB hS
        have HF := Lib.hid hf
        have HRD := Lib.hid (fun (w' : World) (hb : Below w.heap.size w w') => hrd.on hb)
        have HNC := Lib.hid hnc
        clear hS hf hrd hnc
        obtain ⟨st, se, ss, sp, sb⟩ := S
        simp only at c0 c1 c2 c3 c4 hle
        go_wp2_with fail
        have h0 := HK.out.alloc #[.string (str st), .int .i64 se, .int .i64 ss, .int .i64 sp, .slice aB sb.length cB] 46
        generalize hU : wr.alloc (.cells #[.string (str st), .int .i64 se, .int .i64 ss, .int .i64 sp, .slice aB sb.length cB] 46 (0, 0)) = U2 at h0 ⊢
        generalize hp2 : wr.heap.size = p2 at h0 ⊢
        clear HK c0 c1 c2 c3 c4 hU hp2
        have HK := Lib.hid h0
        clear h0
        refine (lawMay ⟨st, se, ss, sp, sb⟩ aB cB U2 HF.out).mono ?_
        rintro e W2 ⟨rfl, hb⟩
        have h0 := HK.out.call hb
        clear HK hb
        have HK := Lib.hid h0
        clear h0
        cases hm : Sec.may ⟨st, se, ss, sp, sb⟩ with
        | false =>
          go_wp2_with fail
          have h0 := (HK.out.tail).le (m := 7 * (k + 1)) (by omega)
          clear HK
          have HK := Lib.hid h0
          clear h0
          go_roundw
          case rel => exact ⟨k + 1, by omega, by omega, by go_num, HK.out⟩
          case measure => simp [intOf]; omega
        | true =>
          obtain ⟨PB, hPB⟩ : ∃ PB, Sec.bytes ⟨st, se, ss, sp, sb⟩ = PB := ⟨_, rfl⟩
          have hY := putS_yes hm
          have hL := bytes_len hm
          have hG := getVE hm
          have hsb : sb.length ≤ 1000000 := may_body hm
          rw [hPB] at hY hL hG
          have HM := Lib.hid hm
          have HPB := Lib.hid hPB
          have HY := Lib.hid hY
          have HL := Lib.hid hL
          have HG := Lib.hid hG
          clear hm hPB hY hL hG
          obtain ⟨q0, q1, q2, q3, q4, qf⟩ := cells5 (HK.out.bag.box 0 rfl)
          go_wp2_with fail
          have h := refPut' st se ss sp sb aB sb.length cB W2 rfl HF.out (HRD.out _ HK.out.below) HNC.out
          rw [HY.out.1, HY.out.2, HL.out] at h
          refine h.mono ?_
          clear h q0 q1 q2 q3 q4 qf
          rintro e W3 ⟨al, cl, rfl, Mx, hb⟩
          have h0 := HK.out.mine hb Mx
          clear HK Mx hb
          have HK := Lib.hid h0
          clear h0
          clear hle
          go_wp2_with fail
          go_loopw [9] (fun t wj => ∃ q : Nat, q ≤ 2 ∧ t = .int .i64 q ∧ Booked w wj p (7 * k + 3 * q) [.mine 5 al cl PB, .box p2 #[.string (str st), .int .i64 se, .int .i64 ss, .int .i64 sp, .slice aB sb.length cB] 46]) (fun t _ => 2 - (intOf t).toNat)
          case atStart => exact ⟨0, by omega, rfl, HK.out⟩
          case round =>
            obtain ⟨q, hq, rfl, hK⟩ := hrel
            clear HK
            have HK := Lib.hid hK
            clear hK
            obtain ⟨q0, q1, q2, q3, q4, qf⟩ := cells5 (HK.out.bag.box 1 rfl)
            by_cases hq2 : q < 2
            · clear q0 q1 q2 q3 q4 qf
              obtain ⟨q0, q1, q2, q3, q4, qf⟩ := cells5 (HK.out.bag.box 1 rfl)
              go_wp2_with fail
              clear q0 q1 q2 q3 q4 qf
              have h := secPut' st se ss sp sb aB sb.length cB wr rfl HF.out (HRD.out _ HK.out.below) (HTB.out _ HK.out.below).1 (HTB.out _ HK.out.below).2
              rw [HY.out.1, HY.out.2, HL.out] at h
              refine h.mono ?_
              clear h
              rintro e W4 ⟨aa, ca, rfl, Mx, hb⟩
              have h0 := HK.out.mine hb Mx
              clear HK
              have HK := Lib.hid h0
              clear h0
              clear Mx hb
              go_wp2_with fail
              have h := secGet PB al 512 cl W4 HL.out (by have := HK.out.bag.mineLe 1 rfl; rw [HL.out] at this; exact this) (HK.out.bag.mineRd 1 rfl) (HTB.out _ HK.out.below).1 (HTB.out _ HK.out.below).2
              rw [HG.out.1, HG.out.2] at h
              refine h.mono ?_
              clear h
              rintro e W5 ⟨ag, cg, he, Mx, hb⟩
              obtain rfl : e = .returned (.tuple #[.agg #[.string (str st), .int .i64 se, .int .i64 ss, .int .i64 sp, .slice ag sb.length cg], .int .i64 0]) := he
              have h0 := HK.out.mine hb (show Mine W5 W4.heap.size 5 ag cg sb from Mx)
              clear HK
              have HK := Lib.hid h0
              clear h0
              clear Mx hb
              obtain ⟨q0, q1, q2, q3, q4, qf⟩ := cells5 (HK.out.bag.box 3 rfl)
              have ql := HK.out.bag.boxLt 3 rfl
              go_wp2_with fail
              clear q0 q1 q2 q3 q4 qf ql
              have h0 := HK.out.alloc #[.string (str st), .int .i64 se, .int .i64 ss, .int .i64 sp, .slice ag sb.length cg] 46
              generalize hU : W5.alloc (.cells #[.string (str st), .int .i64 se, .int .i64 ss, .int .i64 sp, .slice ag sb.length cg] 46 (0, 0)) = U6 at h0 ⊢
              generalize hpg : W5.heap.size = pg at h0 ⊢
              clear HK hU hpg
              have HK := Lib.hid h0
              clear h0
              have h := secRight PB al 512 cl st se ss sp U6 HL.out (by have := HK.out.bag.mineLe 3 rfl; rw [HL.out] at this; exact this) (HK.out.bag.mineRd 3 rfl) (HTB.out _ HK.out.below).1 (HTB.out _ HK.out.below).2
              have hro : rightO PB st se ss sp = true := by rw [← HPB.out, rightO_bytes HM.out]; simp
              have hrb : rightB PB st se ss sp = sb := by rw [right_yes hro, HG.out.1]
              rw [hro, hrb] at h
              refine h.mono ?_
              clear h hro hrb
              rintro e W7 ⟨ac, cc, rfl, Mx, hb⟩
              have h0 := HK.out.mine hb Mx
              clear HK
              have HK := Lib.hid h0
              clear h0
              clear Mx hb
              go_wp2_with fail
              refine (sameTrue aa al PB 512 512 ca cl _ HL.out HL.out (by omega) (HK.out.bag.mineRd 3 rfl) (HK.out.bag.mineRd 4 rfl)).mono ?_
              rintro e W8 ⟨rfl, hst⟩
              have h0 := HK.out.call (hst.below _)
              clear HK
              have HK := Lib.hid h0
              clear h0
              clear hst
              obtain ⟨q0, q1, q2, q3, q4, qf⟩ := cells5 (HK.out.bag.box 5 rfl)
              obtain ⟨g0, g1, g2, g3, g4, gf⟩ := cells5 (HK.out.bag.box 1 rfl)
              go_wp2_with fail
              clear q0 q1 q2 q3 q4 qf g0 g1 g2 g3 g4 gf
              have hlb : sb.length ≤ 281474976710656 := by have := HF.out.len; simp only at this; omega
              have h := alike ⟨st, se, ss, sp, sb⟩ ⟨st, se, ss, sp, sb⟩ ag aB cg cB W8 hlb hlb (HK.out.bag.mineRd 2 rfl) (HRD.out _ HK.out.below)
              rw [alikeS_refl] at h
              refine h.mono ?_
              clear h
              rintro e W9 ⟨rfl, hb⟩
              have h0 := HK.out.call hb
              clear HK
              have HK := Lib.hid h0
              clear h0
              clear hb
              obtain ⟨q0, q1, q2, q3, q4, qf⟩ := cells5 (HK.out.bag.box 5 rfl)
              go_wp2_with fail
              clear q0 q1 q2 q3 q4 qf
              refine (sameTrue ac aB sb sb.length sb.length cc cB _ rfl rfl hlb (HK.out.bag.mineRd 0 rfl) (HRD.out _ HK.out.below)).mono ?_
              rintro e W10 ⟨rfl, hst⟩
              have h0 := HK.out.call (hst.below _)
              clear HK
              have HK := Lib.hid h0
              clear h0
              clear hst hlb
              go_wp2_with fail
              refine (numOf _ _).mono ?_
              rintro e w' ⟨rfl, hw⟩
              obtain rfl := hw
              go_wp2_with fail
              refine (numOf _ _).mono ?_
              rintro e w' ⟨rfl, hw⟩
              obtain rfl := hw
              have h0 := HK.out.perm (perm_to4 _ _ _ _ _)
              clear HK
              have HK := Lib.hid h0
              clear h0
              go_wp2_with fail
              have h := bookBytes w _ p (7 * k + 3 * q) _ aa ca PB (by rw [HL.out]; omega) (by omega) HK.out
              rw [HL.out] at h
              refine h.mono ?_
              rintro e W11 ⟨⟨v, rfl⟩, h0⟩
              clear h HK
              have HK := Lib.hid (h0.perm (perm_to3 _ _ _ _))
              clear h0
              obtain ⟨g0, g1, g2, g3, g4, gf⟩ := cells5 (HK.out.bag.box 2 rfl)
              go_wp2_with fail
              clear g0 g1 g2 g3 g4 gf
              refine (bookBytes w _ p (7 * k + 3 * q + 1) _ ag cg sb hsb (by omega) HK.out).mono ?_
              rintro e W12 ⟨⟨v2, rfl⟩, h0⟩
              clear HK
              have HK := Lib.hid h0
              clear h0
              go_wp2_with fail
              refine (bookBytes w _ p (7 * k + 3 * q + 1 + 1) _ ac cc sb hsb (by omega) HK.out).mono ?_
              rintro e W13 ⟨⟨v3, rfl⟩, h0⟩
              clear HK
              have HK := Lib.hid (h0.tail.le (m := 7 * k + 3 * (q + 1)) (by omega))
              clear h0
              go_wp2_with fail
              go_roundw
              case rel => exact ⟨q + 1, by omega, by go_num, HK.out⟩
              case measure => simp [intOf]; omega
            · obtain rfl : q = 2 := by omega
              clear q0 q1 q2 q3 q4 qf
              go_wp2_with fail
              have h := bookBytes w _ p (7 * k + 3 * 2) _ al cl PB (by rw [HL.out]; omega) (by omega) HK.out
              rw [HL.out] at h
              refine h.mono ?_
              rintro e W11 ⟨⟨v, rfl⟩, h0⟩
              clear h HK
              have HK := Lib.hid (h0.tail.le (m := 7 * (k + 1)) (by omega))
              clear h0
              go_wp2_with fail
              go_roundw
              case rel => exact ⟨k + 1, by omega, by omega, by go_num, HK.out⟩
              case measure => simp [intOf]; omega
      · have hk30 : k = 30 := by omega
        go_wp2_with fail
        refine (bookDone w wr p (7 * k) [] (by omega) HK.out).mono ?_
        rintro e W9 ⟨rfl, hb⟩
        go_wp2_with fail
        refine (lawFirst W9 (HTB.out _ hb).1 (HTB.out _ hb).2).mono ?_
        rintro e W10 ⟨rfl, hb2⟩
        go_wp2_with fail
        go_ret
        exact ⟨rfl, hb.trans (hb2.mono hb.size)⟩
    · have hk30 : k = n := by omega
      go_wp2_with fail
      refine (bookDone w wr p (7 * k) [] (by omega) HK.out).mono ?_
      rintro e W9 ⟨rfl, hb⟩
      go_wp2_with fail
      refine (lawFirst W9 (HTB.out _ hb).1 (HTB.out _ hb).2).mono ?_
      rintro e W10 ⟨rfl, hb2⟩
      go_wp2_with fail
      go_ret
      exact ⟨rfl, hb.trans (hb2.mono hb.size)⟩
end Go.Proofs.YtinfhlepjmollaaGreatDoor
