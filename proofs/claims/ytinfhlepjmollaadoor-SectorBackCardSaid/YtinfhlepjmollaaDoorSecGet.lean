/- sector.Get: what it answers. -/
import Derived.Test.YtinfhlepjmollaaDoorSecGetP
namespace Go.Proofs.YtinfhlepjmollaaDoor
open Go.RowKit
theorem n64_val {l : List (BitVec 8)} {x : Int} (h : ((val l).toNat : Int) = x) : n64 (val l) = x := by unfold n64; exact h
theorem n32_val {l : List (BitVec 8)} {x : Int} (h : ((val l).toNat : Int) = x) (hl : l.length = 4) : n32 ((val l).setWidth 32) = x := by
  have := val_lt l 4 hl (by omega)
  unfold n32; simp; omega
theorem n16_val {l : List (BitVec 8)} {x : Nat} (h : (val l).toNat = x) (hl : l.length = 2) : n16 ((val l).setWidth 16) = (x : Int) := by
  have := val_lt l 2 hl (by omega)
  unfold n16; simp; omega
/-- What stands in 512 bytes. -/
structure Read (b : List (BitVec 8)) (m24 T : List (BitVec 8)) (E Q P : Int) (N : Nat) (B : List (BitVec 8)) : Prop where
  sec : readS b = ⟨T, E, Q, P, B⟩
  len24 : m24.length = 24
  tlen : T.length = 4
  l24 : (b.drop 4).take 24 = m24
  tag : b.take 4 = T
  body : (b.drop 28).take N = B
  blen : N ≤ 484 → B.length = N
  big : 480 < N → 480 < B.length
  e : n64 (val (m24.take 8)) = E
  q : n64 (val ((m24.drop 8).take 8)) = Q
  p : n32 ((val ((m24.drop 16).take 4)).setWidth 32) = P
  n : n16 ((val ((m24.drop 20).take 2)).setWidth 16) = (N : Int)
  e0 : 0 ≤ E
  e1 : E ≤ 18446744073709551615
  q0 : 0 ≤ Q
  q1 : Q ≤ 18446744073709551615
  p0 : 0 ≤ P
  p1 : P ≤ 4294967295
  n1 : N ≤ 65535
  e' : n64 (val ((b.drop 4).take 8)) = E
  q' : n64 (val ((b.drop 12).take 8)) = Q
  p' : n64 (val ((b.drop 20).take 4)) = P
  n' : n64 (val ((b.drop 24).take 2)) = (N : Int)
theorem read_of (b : List (BitVec 8)) (hb : b.length = 512) : ∃ l24 T E Q P N B, Read b l24 T E Q P N B := by
  have a0 : ((b.drop 4).take 24).take 8 = (b.drop 4).take 8 := by rw [List.take_take]; rfl
  have a1 : (((b.drop 4).take 24).drop 8).take 8 = (b.drop 12).take 8 := by rw [List.drop_take, List.drop_drop, List.take_take]; rfl
  have a2 : (((b.drop 4).take 24).drop 16).take 4 = (b.drop 20).take 4 := by rw [List.drop_take, List.drop_drop, List.take_take]; rfl
  have a3 : (((b.drop 4).take 24).drop 20).take 2 = (b.drop 24).take 2 := by rw [List.drop_take, List.drop_drop, List.take_take]; rfl
  have v0 := val_lt ((b.drop 4).take 8) 8 (by simp; omega) (by omega)
  have v1 := val_lt ((b.drop 12).take 8) 8 (by simp; omega) (by omega)
  have v2 := val_lt ((b.drop 20).take 4) 4 (by simp; omega) (by omega)
  have v3 := val_lt ((b.drop 24).take 2) 2 (by simp; omega) (by omega)
  refine ⟨_, _, _, _, _, (val ((b.drop 24).take 2)).toNat, _, ⟨rfl, by simp; omega, by simp; omega, rfl, rfl, rfl, fun h => by simp; omega, fun h => by simp; omega, ?_, ?_, ?_, ?_, Int.natCast_nonneg _, by omega, Int.natCast_nonneg _, by omega, Int.natCast_nonneg _, by omega, by omega, n64_val rfl, n64_val rfl, n64_val rfl, n64_val rfl⟩⟩
  · rw [a0]; exact n64_val rfl
  · rw [a1]; exact n64_val rfl
  · rw [a2]; exact n32_val rfl (by simp; omega)
  · rw [a3]; exact n16_val rfl (by simp; omega)
theorem fits_read {b l24 T : List (BitVec 8)} {E Q P : Int} {N : Nat} {B : List (BitVec 8)} (h : Read b l24 T E Q P N B) (h1 : E ≤ 4611686018427387904) (h2 : Q ≤ 4611686018427387904) (h4 : N ≤ 480) : Sec.fits ⟨T, E, Q, P, B⟩ :=
  ⟨by have := h.blen (by omega); simp only; omega, by have := h.e0; simp only; omega, by simp only; omega, by have := h.q0; simp only; omega, by simp only; omega, by have := h.p0; simp only; omega, by have := h.p1; simp only; omega⟩
theorem get_not {b l24 T : List (BitVec 8)} {E Q P : Int} {N : Nat} {B : List (BitVec 8)} (h : Read b l24 T E Q P N B) (hn : Sec.may ⟨T, E, Q, P, B⟩ = false ∨ Sec.bytes ⟨T, E, Q, P, B⟩ ≠ b) : getV b = Sec.zero ∧ getE b = 117 := by
  refine getV_none (getS_no ?_)
  rw [h.sec]
  rintro ⟨h1, h2⟩
  rcases hn with h3 | h3
  · rw [h3] at h1; cases h1
  · exact h3 h2
theorem may_not {b l24 T : List (BitVec 8)} {E Q P : Int} {N : Nat} {B : List (BitVec 8)} (h : Read b l24 T E Q P N B) (hn : ¬ (E ≤ 4611686018427387904 ∧ Q ≤ 4611686018427387904 ∧ P < 8192 ∧ N ≤ 480)) : Sec.may ⟨T, E, Q, P, B⟩ = false := by
  cases hm : Sec.may ⟨T, E, Q, P, B⟩ with
  | false => rfl
  | true =>
    obtain ⟨_, ⟨_, h1⟩, ⟨_, h2⟩, ⟨_, h3⟩, h4⟩ := may_iff.1 hm
    simp only at h1 h2 h3 h4
    refine absurd ⟨h1, h2, by omega, ?_⟩ hn
    have := h.big
    omega
theorem newReader' (ao : Option Addr) (l : List (BitVec 8)) (n cap : Nat) (w : World) (hn : l.length = n) (hl : n ≤ 140737488351232) (hr : Rd w ao l) :
   Calls Tryd.prog 35 #[.slice ao n cap] w fun e w' => ∃ p g, e = .returned (.pointer (some ⟨p, 0, none⟩)) ∧ w.heap.size ≤ p ∧ w.heap.size ≤ g ∧ Rdr w' p g l 0 0 ∧ Below w.heap.size w w' := by
  subst hn
  exact newReader ao l cap w hl hr
theorem secPut' (T : List (BitVec 8)) (E Q P : Int) (B : List (BitVec 8)) (ao : Option Addr) (N cap : Nat) (w : World) (hN : B.length = N) (hf : Sec.fits ⟨T, E, Q, P, B⟩) (hr : Rd w ao B) (ht : Tab w) (hT : 0 < w.heap.size) :
   Calls Tryd.prog 13 #[.agg #[.string (str T), .int .i64 E, .int .i64 Q, .int .i64 P, .slice ao N cap]] w fun e w' => ∃ ar cr, e = .returned (.tuple #[.slice ar (putS ⟨T, E, Q, P, B⟩).length cr, .int .i64 (putE ⟨T, E, Q, P, B⟩)]) ∧ Mine w' w.heap.size 5 ar cr (putS ⟨T, E, Q, P, B⟩) ∧ Below w.heap.size w w' := by
  subst hN
  exact secPut ⟨T, E, Q, P, B⟩ ao cap w hf hr ht hT
set_option maxRecDepth 100000 in
set_option maxHeartbeats 4000000 in
theorem secGet (b : List (BitVec 8)) (ao : Option Addr) (n cap : Nat) (w : World) (hn : b.length = n) (hcap : n ≤ cap) (hr : Rd w ao b) (ht : Tab w) (hT : 0 < w.heap.size) :
   Calls Tryd.prog 23 #[.slice ao n cap] w fun e w' => ∃ ar cr, e = .returned (.tuple #[(getV b).val ar cr, .int .i64 (getE b)]) ∧ Mine w' w.heap.size 5 ar cr (getV b).body ∧ Below w.heap.size w w' := by
  obtain ⟨i0, hi, hz0, hz1, hz2⟩ := info_parts info_u8
  by_cases h512 : n = 512
  · subst h512
    obtain ⟨l24, T, E, Q, P, N, B, hR⟩ := read_of b hn
    have HR := Lib.hid hR
    have HL24 := Lib.hid hR.len24
    have he0 := hR.e0
    have he1 := hR.e1
    have hq0 := hR.q0
    have hq1 := hR.q1
    have hp0 := hR.p0
    have hp1 := hR.p1
    have hn1 := hR.n1
    obtain ⟨blk, off, rfl, hcell⟩ := hr.at (by omega)
    have hr24 := (hr.drop 4).take 24
    rw [hR.l24] at hr24
    have hrT := hr.take 4
    rw [hR.tag] at hrT
    have hrB := (hr.drop 28).take N
    rw [hR.body] at hrB
    have HRB := Lib.hid (fun (w' : World) (hb : Below w.heap.size w w') => hr.on hb)
    have HR24 := Lib.hid (fun (w' : World) (hb : Below w.heap.size w w') => hr24.on hb)
    have HRT := Lib.hid (fun (w' : World) (hb : Below w.heap.size w w') => hrT.on hb)
    have HRBd := Lib.hid (fun (w' : World) (hb : Below w.heap.size w w') => hrB.on hb)
    have HTB := Lib.hid (fun (w' : World) (hb : Below w.heap.size w w') => (⟨ht.below hb hT, Nat.lt_of_lt_of_le hT hb.size⟩ : _ ∧ _))
    have HBl := Lib.hid hn
    clear hr hr24 hrT hrB hcell ht hT hn hR
    go_enter Tryd.func23, Tryd.ntmps23
    go_wp2_with fail
    generalize hU : (w.alloc (.cells #[.string { data := #[] }, .int .i64 0, .int .i64 0, .int .i64 0, .slice none 0 0] 24 (0, 0))) = U1
    have h0 := (Bag.start w).allocAt #[.string { data := #[] }, .int .i64 0, .int .i64 0, .int .i64 0, .slice none 0 0] 24 (w.heap.size) rfl
    rw [hU] at h0
    have HB := Lib.hid h0
    clear h0 hU
    refine (newReader' (some ⟨blk, off + 4, none⟩) l24 24 24 _ HL24.out (by decide) (HR24.out _ HB.out.below)).mono ?_
    rintro e W2 ⟨p, g, rfl, hp, hg, hrd, hb⟩
    have h0 := HB.out.rdr hb hp hg hrd
    clear HB
    have HB := Lib.hid h0
    clear h0
    clear hb hp hg hrd
    go_wp2_with fail
    refine (getYes64 (l := l24) (k := 0) (HB.out.rdrAt 0 rfl) (by rw [HL24.out]; decide) (by rw [HL24.out]; decide)).mono ?_
    rintro e W3 ⟨rfl, hrd, ho⟩
    have h0 := HB.out.rdrTurn 0 rfl ho hrd
    simp only [List.set_cons_zero] at h0
    clear HB
    have HB := Lib.hid h0
    clear h0
    clear ho hrd
    go_wp2_with fail
    refine (getYes64 (l := l24) (k := 8) (HB.out.rdrAt 0 rfl) (by rw [HL24.out]; decide) (by rw [HL24.out]; decide)).mono ?_
    rintro e W4 ⟨rfl, hrd, ho⟩
    have h0 := HB.out.rdrTurn 0 rfl ho hrd
    simp only [List.set_cons_zero] at h0
    clear HB
    have HB := Lib.hid h0
    clear h0
    clear ho hrd
    go_wp2_with fail
    refine (getYes32 (l := l24) (k := 16) (HB.out.rdrAt 0 rfl) (by rw [HL24.out]; decide) (by rw [HL24.out]; decide)).mono ?_
    rintro e W5 ⟨rfl, hrd, ho⟩
    have h0 := HB.out.rdrTurn 0 rfl ho hrd
    simp only [List.set_cons_zero] at h0
    clear HB
    have HB := Lib.hid h0
    clear h0
    clear ho hrd
    go_wp2_with fail
    refine (getYes16 (l := l24) (k := 20) (HB.out.rdrAt 0 rfl) (by rw [HL24.out]; decide) (by rw [HL24.out]; decide)).mono ?_
    rintro e W6 ⟨rfl, hrd, ho⟩
    have h0 := HB.out.rdrTurn 0 rfl ho hrd
    simp only [List.set_cons_zero] at h0
    clear HB
    have HB := Lib.hid h0
    clear h0
    clear ho hrd
    rw [HR.out.e, HR.out.q, HR.out.p, HR.out.n]
    by_cases c1 : E ≤ 4611686018427387904
    · by_cases c2 : Q ≤ 4611686018427387904
      · by_cases c3 : P < 8192
        · by_cases c4 : N ≤ 480
          · have hcv := cvRun W6 (some ⟨blk, off, none⟩) T 4 4 HR.out.tlen (HRT.out _ HB.out.below)
            have HBL := Lib.hid (HR.out.blen (by omega))
            by_cases c0 : N = 0
            · obtain rfl : N = 0 := by omega
              have HNil := Lib.hid (List.length_eq_zero_iff.1 HBL.out)
              go_wp2_with fail
              generalize hU : W6.alloc (.cells #[.string (str T), .int .i64 E, .int .i64 Q, .int .i64 P, .slice none 0 0] 24 (0, 0)) = U7
              have h0 := HB.out.alloc #[.string (str T), .int .i64 E, .int .i64 Q, .int .i64 P, .slice none 0 0] 24
              rw [hU] at h0
              clear HB
              have HB := Lib.hid h0
              clear h0
              clear hU
              refine (secPut' T E Q P B none 0 0 _ HBL.out (fits_read HR.out c1 c2 c4) (by rw [HNil.out]; exact Rd.nil _ _) (HTB.out _ HB.out.below).1 (HTB.out _ HB.out.below).2).mono ?_
              rintro e W8 ⟨ap, cp, rfl, Mx, hb⟩
              have h0 := HB.out.mine hb Mx
              clear HB
              have HB := Lib.hid h0
              clear h0
              clear Mx
              clear hb
              obtain ⟨pl, hpl⟩ : ∃ pl, putS ⟨T, E, Q, P, B⟩ = pl := ⟨_, rfl⟩
              obtain ⟨pe, hpe⟩ : ∃ pe, putE ⟨T, E, Q, P, B⟩ = pe := ⟨_, rfl⟩
              have hx : Bag w W8 _ := HB.out
              rw [hpl] at hx
              clear HB
              have HB := Lib.hid hx
              clear hx
              rw [hpl, hpe]
              cases hmay : Sec.may ⟨T, E, Q, P, B⟩ with
              | false =>
                have hm0 : Sec.may ⟨T, E, Q, P, B⟩ = false := by simpa using hmay
                obtain ⟨hg1, hg2⟩ := get_not HR.out (Or.inl hm0)
                have HG2 := Lib.hid hg2
                have HG1 := Lib.hid hg1
                obtain rfl : pe = 117 := by rw [← hpe]; simp [putE, hm0]
                clear hg1 hg2 hmay hm0 hpl hpe
                obtain ⟨qr_0, qr_1, qr_2, qr_3, qr_4, qr_f⟩ := cells5 (HB.out.box 3 rfl)
                have qr_l := HB.out.boxLt 3 rfl
                go_wp2_with fail
                generalize hU : (((((W8.setCell ⟨w.heap.size, 0, none⟩ (.string { data := #[] })).setCell ⟨w.heap.size, 1, none⟩ (.int .i64 0)).setCell ⟨w.heap.size, 2, none⟩ (.int .i64 0)).setCell ⟨w.heap.size, 3, none⟩ (.int .i64 0)).setCell ⟨w.heap.size, 4, none⟩ (.slice none 0 0)) = U9
                clear qr_0 qr_1 qr_2 qr_3 qr_4 qr_f qr_l
                have h0 := HB.out.store 3 rfl [.string { data := #[] }, .int .i64 0, .int .i64 0, .int .i64 0, .slice none 0 0] rfl
                rw [show Bag.setAll W8 (w.heap.size) 0 [.string { data := #[] }, .int .i64 0, .int .i64 0, .int .i64 0, .slice none 0 0] = U9 from hU] at h0
                simp only [List.set_cons_zero, List.set_cons_succ] at h0
                clear HB
                have HB := Lib.hid h0
                clear h0
                clear hU
                obtain ⟨qr_0, qr_1, qr_2, qr_3, qr_4, qr_f⟩ := cells5 (HB.out.box 3 rfl)
                have qr_l := HB.out.boxLt 3 rfl
                refine bodyPost_ret (v := .tuple #[.agg #[.string { data := #[] }, .int .i64 0, .int .i64 0, .int .i64 0, .slice none 0 0], .int .i64 117]) (by simp [results, Tryd.results23, go_sem, qr_0, qr_1, qr_2, qr_3, qr_4]) rfl ?_
                rw [HG1.out, HG2.out]
                unfold Sec.val Sec.zero
                rw [← str_nil]
                exact ⟨none, 0, rfl, Or.inl ⟨rfl, rfl, rfl⟩, HB.out.below⟩
              | true =>
                have hm1 : Sec.may ⟨T, E, Q, P, B⟩ = true := hmay
                obtain rfl : pe = 0 := by rw [← hpe]; simp [putE, hm1]
                obtain rfl : pl = Sec.bytes ⟨T, E, Q, P, B⟩ := by rw [← hpl]; simp [putS, hm1]
                have hbl := bytes_len hm1
                obtain ⟨ob, hob⟩ : ∃ ob, Sec.bytes ⟨T, E, Q, P, B⟩ = ob := ⟨_, rfl⟩
                have hx : Bag w W8 _ := HB.out
                rw [hob] at hx hbl ⊢
                clear HB
                have HB := Lib.hid hx
                clear hx
                have hcv1 := cvRun W8 ap ob ob.length cp rfl (HB.out.mineRd 0 rfl)
                have hcv2 := cvRun W8 (some ⟨blk, off, none⟩) b 512 cap HBl.out (HRB.out _ HB.out.below)
                have HPl := Lib.hid hpl
                have HPe := Lib.hid hpe
                have HOb := Lib.hid hob
                have HM := Lib.hid hm1
                clear hpl hpe hob hbl hm1 hmay
                by_cases hbb : ob = b
                · obtain ⟨hg1, hg2⟩ := getV_some (getS_yes (by rw [HR.out.sec]; exact HM.out) (by rw [HR.out.sec, HOb.out]; exact hbb))
                  rw [HR.out.sec] at hg1
                  have HG2 := Lib.hid hg2
                  have HG1 := Lib.hid hg1
                  have hbx : (ob == b) = true := by rw [beq_iff_eq]; exact hbb
                  clear hg1 hg2 hbb
                  obtain ⟨qs_0, qs_1, qs_2, qs_3, qs_4, qs_f⟩ := cells5 (HB.out.box 1 rfl)
                  have qs_l := HB.out.boxLt 1 rfl
                  obtain ⟨qr_0, qr_1, qr_2, qr_3, qr_4, qr_f⟩ := cells5 (HB.out.box 3 rfl)
                  have qr_l := HB.out.boxLt 3 rfl
                  have nr_s := HB.out.boxNe 3 1 rfl rfl (by decide)
                  go_wp2_with fail
                  generalize hU : (((((W8.setCell ⟨w.heap.size, 0, none⟩ (.string (str T))).setCell ⟨w.heap.size, 1, none⟩ (.int .i64 E)).setCell ⟨w.heap.size, 2, none⟩ (.int .i64 Q)).setCell ⟨w.heap.size, 3, none⟩ (.int .i64 P)).setCell ⟨w.heap.size, 4, none⟩ (.slice none 0 0)) = U9
                  clear qs_0 qs_1 qs_2 qs_3 qs_4 qs_f qs_l qr_0 qr_1 qr_2 qr_3 qr_4 qr_f qr_l nr_s
                  have h0 := HB.out.store 3 rfl [.string (str T), .int .i64 E, .int .i64 Q, .int .i64 P, .slice none 0 0] rfl
                  rw [show Bag.setAll W8 (w.heap.size) 0 [.string (str T), .int .i64 E, .int .i64 Q, .int .i64 P, .slice none 0 0] = U9 from hU] at h0
                  simp only [List.set_cons_zero, List.set_cons_succ] at h0
                  clear HB
                  have HB := Lib.hid h0
                  clear h0
                  clear hU
                  obtain ⟨qr_0, qr_1, qr_2, qr_3, qr_4, qr_f⟩ := cells5 (HB.out.box 3 rfl)
                  have qr_l := HB.out.boxLt 3 rfl
                  refine bodyPost_ret (v := .tuple #[.agg #[.string (str T), .int .i64 E, .int .i64 Q, .int .i64 P, .slice none 0 0], .int .i64 0]) (by simp [results, Tryd.results23, go_sem, qr_0, qr_1, qr_2, qr_3, qr_4]) rfl ?_
                  rw [HG1.out, HG2.out]
                  refine ⟨none, 0, ?_, ?_, HB.out.below⟩
                  · unfold Sec.val
                    simp only [HBL.out]
                  · exact Or.inl ⟨HNil.out, rfl, rfl⟩
                · obtain ⟨hg1, hg2⟩ := get_not HR.out (Or.inr (by rw [HOb.out]; exact hbb))
                  have HG2 := Lib.hid hg2
                  have HG1 := Lib.hid hg1
                  have hbx : (ob == b) = false := by rw [beq_eq_false_iff_ne]; exact hbb
                  clear hg1 hg2 hbb
                  obtain ⟨qr_0, qr_1, qr_2, qr_3, qr_4, qr_f⟩ := cells5 (HB.out.box 3 rfl)
                  have qr_l := HB.out.boxLt 3 rfl
                  go_wp2_with fail
                  generalize hU : (((((W8.setCell ⟨w.heap.size, 0, none⟩ (.string { data := #[] })).setCell ⟨w.heap.size, 1, none⟩ (.int .i64 0)).setCell ⟨w.heap.size, 2, none⟩ (.int .i64 0)).setCell ⟨w.heap.size, 3, none⟩ (.int .i64 0)).setCell ⟨w.heap.size, 4, none⟩ (.slice none 0 0)) = U9
                  clear qr_0 qr_1 qr_2 qr_3 qr_4 qr_f qr_l
                  have h0 := HB.out.store 3 rfl [.string { data := #[] }, .int .i64 0, .int .i64 0, .int .i64 0, .slice none 0 0] rfl
                  rw [show Bag.setAll W8 (w.heap.size) 0 [.string { data := #[] }, .int .i64 0, .int .i64 0, .int .i64 0, .slice none 0 0] = U9 from hU] at h0
                  simp only [List.set_cons_zero, List.set_cons_succ] at h0
                  clear HB
                  have HB := Lib.hid h0
                  clear h0
                  clear hU
                  obtain ⟨qr_0, qr_1, qr_2, qr_3, qr_4, qr_f⟩ := cells5 (HB.out.box 3 rfl)
                  have qr_l := HB.out.boxLt 3 rfl
                  refine bodyPost_ret (v := .tuple #[.agg #[.string { data := #[] }, .int .i64 0, .int .i64 0, .int .i64 0, .slice none 0 0], .int .i64 117]) (by simp [results, Tryd.results23, go_sem, qr_0, qr_1, qr_2, qr_3, qr_4]) rfl ?_
                  rw [HG1.out, HG2.out]
                  unfold Sec.val Sec.zero
                  rw [← str_nil]
                  exact ⟨none, 0, rfl, Or.inl ⟨rfl, rfl, rfl⟩, HB.out.below⟩
            · have hN0 : (0 : Int) < (N : Int) := by omega
              obtain ⟨Z, hZ⟩ : ∃ Z, List.replicate N 0#8 = Z := ⟨_, rfl⟩
              have hZl : Z.length = N := by rw [← hZ]; exact List.length_replicate
              have HZ := Lib.hid hZ
              have HZl := Lib.hid hZl
              clear hZ hZl
              go_wp2_with (at_make; go_loud (refine wpList_make_zeros rfl _ _ 22 rfl 5 i0 Tryd.underlying22 hi hz0 hz1 hz2 .i64 .i64 N rfl rfl (by omega) Z HZ.out ?_))
              intro W7 hO hb
              have hb1 : Below (W6.alloc (.cells #[.string (str T), .int .i64 E, .int .i64 Q, .int .i64 P, .slice none 0 0] 24 (0, 0))).heap.size (W6.alloc (.cells #[.string (str T), .int .i64 E, .int .i64 Q, .int .i64 P, .slice none 0 0] 24 (0, 0))) W7 := by rw [alloc_size]; exact hb
              have h0 := (HB.out.alloc #[.string (str T), .int .i64 E, .int .i64 Q, .int .i64 P, .slice none 0 0] 24).own hb1 hO (by rw [alloc_size]; exact Nat.le_refl _)
              clear HB
              have HB := Lib.hid h0
              clear h0
              clear hb hb1 hO
              generalize hgb : W6.heap.size + 1 = gb at *
              clear hgb
              obtain ⟨qs_0, qs_1, qs_2, qs_3, qs_4, qs_f⟩ := cells5 (HB.out.box 1 rfl)
              have qs_l := HB.out.boxLt 1 rfl
              have hw1 := wrapI64 (28 + (N : Int)) (by omega) (by omega)
              have hw0 : (0 : Int) ≤ 28 + (N : Int) := by omega
              have hw3 : (28 + (N : Int)).toNat = 28 + N := by omega
              have hw2 : (28 : Int) + (N : Int) ≤ (cap : Int) := by omega
              have hw4 : (28 : Int) ≤ 28 + (N : Int) := by omega
              go_wp2_with fail
              generalize hU : W7.setCell ⟨W6.heap.size, 4, none⟩ (.slice (some ⟨gb, 0, none⟩) N N) = U8
              clear qs_0 qs_1 qs_2 qs_3 qs_4 qs_f qs_l
              have h0 := HB.out.put 1 rfl 4 (.slice (some ⟨gb, 0, none⟩) N N)
              rw [hU, show It.box (W6.heap.size) (Array.setIfInBounds #[.string (str T), .int .i64 E, .int .i64 Q, .int .i64 P, .slice none 0 0] 4 (.slice (some ⟨gb, 0, none⟩) N N)) 24 = It.box (W6.heap.size) #[.string (str T), .int .i64 E, .int .i64 Q, .int .i64 P, .slice (some ⟨gb, 0, none⟩) N N] 24 from rfl] at h0
              simp only [List.set_cons_zero, List.set_cons_succ] at h0
              clear HB
              have HB := Lib.hid h0
              clear h0
              clear hU
              obtain ⟨qs_0, qs_1, qs_2, qs_3, qs_4, qs_f⟩ := cells5 (HB.out.box 1 rfl)
              have qs_l := HB.out.boxLt 1 rfl
              go_still_tail 8, (by kernel_rfl)
              change wpList _ _ _ _ _ U8.drew
              clear qs_0 qs_1 qs_2 qs_3 qs_4 qs_f qs_l
              generalize hU : U8.drew = U9
              have h0 := HB.out.drew
              rw [hU] at h0
              clear HB
              have HB := Lib.hid h0
              clear h0
              clear hU
              refine wpList_copy_at rfl (.tmp 59) (.tmp 65) 22 22 rfl 5 i0 Tryd.underlying22 hi hz1 gb 0 N N (some ⟨gb, 0, none⟩) (some ⟨blk, off + 28, none⟩) N N ?hd2 ?hs2 N 5 Z B (HB.out.mineOwn 0 rfl) (fun _ => rfl) (HRBd.out _ HB.out.below) HBL.out (Nat.le_refl _) (by rw [HZl.out]; omega) ?_
              case hd2 => rfl
              case hs2 => rfl
              intro W10 hO hs hb
              have hsp : splice Z 0 B = B := by simp [splice, HBL.out, HZl.out]
              rw [hsp] at hO
              clear hsp hs hw0 hw1 hw2 hw3 hw4
              have h0 := HB.out.row 0 rfl hb hO
              simp only [List.set_cons_zero] at h0
              clear HB
              have HB := Lib.hid h0
              clear h0
              clear hb hO
              go_simp
              obtain ⟨qs_0, qs_1, qs_2, qs_3, qs_4, qs_f⟩ := cells5 (HB.out.box 1 rfl)
              have qs_l := HB.out.boxLt 1 rfl
              go_wp2_with fail
              clear qs_0 qs_1 qs_2 qs_3 qs_4 qs_f qs_l
              refine (secPut' T E Q P B (some ⟨gb, 0, none⟩) N N _ HBL.out (fits_read HR.out c1 c2 c4) (HB.out.mineRd 0 rfl) (HTB.out _ HB.out.below).1 (HTB.out _ HB.out.below).2).mono ?_
              rintro e W11 ⟨ap, cp, rfl, Mx, hb⟩
              have h0 := HB.out.mine hb Mx
              clear HB
              have HB := Lib.hid h0
              clear h0
              clear Mx
              clear hb
              obtain ⟨pl, hpl⟩ : ∃ pl, putS ⟨T, E, Q, P, B⟩ = pl := ⟨_, rfl⟩
              obtain ⟨pe, hpe⟩ : ∃ pe, putE ⟨T, E, Q, P, B⟩ = pe := ⟨_, rfl⟩
              have hx : Bag w W11 _ := HB.out
              rw [hpl] at hx
              clear HB
              have HB := Lib.hid hx
              clear hx
              rw [hpl, hpe]
              cases hmay : Sec.may ⟨T, E, Q, P, B⟩ with
              | false =>
                have hm0 : Sec.may ⟨T, E, Q, P, B⟩ = false := by simpa using hmay
                obtain ⟨hg1, hg2⟩ := get_not HR.out (Or.inl hm0)
                have HG2 := Lib.hid hg2
                have HG1 := Lib.hid hg1
                obtain rfl : pe = 117 := by rw [← hpe]; simp [putE, hm0]
                clear hg1 hg2 hmay hm0 hpl hpe
                obtain ⟨qr_0, qr_1, qr_2, qr_3, qr_4, qr_f⟩ := cells5 (HB.out.box 4 rfl)
                have qr_l := HB.out.boxLt 4 rfl
                go_wp2_with fail
                generalize hU : (((((W11.setCell ⟨w.heap.size, 0, none⟩ (.string { data := #[] })).setCell ⟨w.heap.size, 1, none⟩ (.int .i64 0)).setCell ⟨w.heap.size, 2, none⟩ (.int .i64 0)).setCell ⟨w.heap.size, 3, none⟩ (.int .i64 0)).setCell ⟨w.heap.size, 4, none⟩ (.slice none 0 0)) = U12
                clear qr_0 qr_1 qr_2 qr_3 qr_4 qr_f qr_l
                have h0 := HB.out.store 4 rfl [.string { data := #[] }, .int .i64 0, .int .i64 0, .int .i64 0, .slice none 0 0] rfl
                rw [show Bag.setAll W11 (w.heap.size) 0 [.string { data := #[] }, .int .i64 0, .int .i64 0, .int .i64 0, .slice none 0 0] = U12 from hU] at h0
                simp only [List.set_cons_zero, List.set_cons_succ] at h0
                clear HB
                have HB := Lib.hid h0
                clear h0
                clear hU
                obtain ⟨qr_0, qr_1, qr_2, qr_3, qr_4, qr_f⟩ := cells5 (HB.out.box 4 rfl)
                have qr_l := HB.out.boxLt 4 rfl
                refine bodyPost_ret (v := .tuple #[.agg #[.string { data := #[] }, .int .i64 0, .int .i64 0, .int .i64 0, .slice none 0 0], .int .i64 117]) (by simp [results, Tryd.results23, go_sem, qr_0, qr_1, qr_2, qr_3, qr_4]) rfl ?_
                rw [HG1.out, HG2.out]
                unfold Sec.val Sec.zero
                rw [← str_nil]
                exact ⟨none, 0, rfl, Or.inl ⟨rfl, rfl, rfl⟩, HB.out.below⟩
              | true =>
                have hm1 : Sec.may ⟨T, E, Q, P, B⟩ = true := hmay
                obtain rfl : pe = 0 := by rw [← hpe]; simp [putE, hm1]
                obtain rfl : pl = Sec.bytes ⟨T, E, Q, P, B⟩ := by rw [← hpl]; simp [putS, hm1]
                have hbl := bytes_len hm1
                obtain ⟨ob, hob⟩ : ∃ ob, Sec.bytes ⟨T, E, Q, P, B⟩ = ob := ⟨_, rfl⟩
                have hx : Bag w W11 _ := HB.out
                rw [hob] at hx hbl ⊢
                clear HB
                have HB := Lib.hid hx
                clear hx
                have hcv1 := cvRun W11 ap ob ob.length cp rfl (HB.out.mineRd 0 rfl)
                have hcv2 := cvRun W11 (some ⟨blk, off, none⟩) b 512 cap HBl.out (HRB.out _ HB.out.below)
                have HPl := Lib.hid hpl
                have HPe := Lib.hid hpe
                have HOb := Lib.hid hob
                have HM := Lib.hid hm1
                clear hpl hpe hob hbl hm1 hmay
                by_cases hbb : ob = b
                · obtain ⟨hg1, hg2⟩ := getV_some (getS_yes (by rw [HR.out.sec]; exact HM.out) (by rw [HR.out.sec, HOb.out]; exact hbb))
                  rw [HR.out.sec] at hg1
                  have HG2 := Lib.hid hg2
                  have HG1 := Lib.hid hg1
                  have hbx : (ob == b) = true := by rw [beq_iff_eq]; exact hbb
                  clear hg1 hg2 hbb
                  obtain ⟨qs_0, qs_1, qs_2, qs_3, qs_4, qs_f⟩ := cells5 (HB.out.box 2 rfl)
                  have qs_l := HB.out.boxLt 2 rfl
                  obtain ⟨qr_0, qr_1, qr_2, qr_3, qr_4, qr_f⟩ := cells5 (HB.out.box 4 rfl)
                  have qr_l := HB.out.boxLt 4 rfl
                  have nr_s := HB.out.boxNe 4 2 rfl rfl (by decide)
                  go_wp2_with fail
                  generalize hU : (((((W11.setCell ⟨w.heap.size, 0, none⟩ (.string (str T))).setCell ⟨w.heap.size, 1, none⟩ (.int .i64 E)).setCell ⟨w.heap.size, 2, none⟩ (.int .i64 Q)).setCell ⟨w.heap.size, 3, none⟩ (.int .i64 P)).setCell ⟨w.heap.size, 4, none⟩ (.slice (some ⟨gb, 0, none⟩) N N)) = U12
                  clear qs_0 qs_1 qs_2 qs_3 qs_4 qs_f qs_l qr_0 qr_1 qr_2 qr_3 qr_4 qr_f qr_l nr_s
                  have h0 := HB.out.store 4 rfl [.string (str T), .int .i64 E, .int .i64 Q, .int .i64 P, .slice (some ⟨gb, 0, none⟩) N N] rfl
                  rw [show Bag.setAll W11 (w.heap.size) 0 [.string (str T), .int .i64 E, .int .i64 Q, .int .i64 P, .slice (some ⟨gb, 0, none⟩) N N] = U12 from hU] at h0
                  simp only [List.set_cons_zero, List.set_cons_succ] at h0
                  clear HB
                  have HB := Lib.hid h0
                  clear h0
                  clear hU
                  obtain ⟨qr_0, qr_1, qr_2, qr_3, qr_4, qr_f⟩ := cells5 (HB.out.box 4 rfl)
                  have qr_l := HB.out.boxLt 4 rfl
                  refine bodyPost_ret (v := .tuple #[.agg #[.string (str T), .int .i64 E, .int .i64 Q, .int .i64 P, .slice (some ⟨gb, 0, none⟩) N N], .int .i64 0]) (by simp [results, Tryd.results23, go_sem, qr_0, qr_1, qr_2, qr_3, qr_4]) rfl ?_
                  rw [HG1.out, HG2.out]
                  refine ⟨(some ⟨gb, 0, none⟩), N, ?_, ?_, HB.out.below⟩
                  · unfold Sec.val
                    simp only [HBL.out]
                  · exact HB.out.mineMine 1 rfl
                · obtain ⟨hg1, hg2⟩ := get_not HR.out (Or.inr (by rw [HOb.out]; exact hbb))
                  have HG2 := Lib.hid hg2
                  have HG1 := Lib.hid hg1
                  have hbx : (ob == b) = false := by rw [beq_eq_false_iff_ne]; exact hbb
                  clear hg1 hg2 hbb
                  obtain ⟨qr_0, qr_1, qr_2, qr_3, qr_4, qr_f⟩ := cells5 (HB.out.box 4 rfl)
                  have qr_l := HB.out.boxLt 4 rfl
                  go_wp2_with fail
                  generalize hU : (((((W11.setCell ⟨w.heap.size, 0, none⟩ (.string { data := #[] })).setCell ⟨w.heap.size, 1, none⟩ (.int .i64 0)).setCell ⟨w.heap.size, 2, none⟩ (.int .i64 0)).setCell ⟨w.heap.size, 3, none⟩ (.int .i64 0)).setCell ⟨w.heap.size, 4, none⟩ (.slice none 0 0)) = U12
                  clear qr_0 qr_1 qr_2 qr_3 qr_4 qr_f qr_l
                  have h0 := HB.out.store 4 rfl [.string { data := #[] }, .int .i64 0, .int .i64 0, .int .i64 0, .slice none 0 0] rfl
                  rw [show Bag.setAll W11 (w.heap.size) 0 [.string { data := #[] }, .int .i64 0, .int .i64 0, .int .i64 0, .slice none 0 0] = U12 from hU] at h0
                  simp only [List.set_cons_zero, List.set_cons_succ] at h0
                  clear HB
                  have HB := Lib.hid h0
                  clear h0
                  clear hU
                  obtain ⟨qr_0, qr_1, qr_2, qr_3, qr_4, qr_f⟩ := cells5 (HB.out.box 4 rfl)
                  have qr_l := HB.out.boxLt 4 rfl
                  refine bodyPost_ret (v := .tuple #[.agg #[.string { data := #[] }, .int .i64 0, .int .i64 0, .int .i64 0, .slice none 0 0], .int .i64 117]) (by simp [results, Tryd.results23, go_sem, qr_0, qr_1, qr_2, qr_3, qr_4]) rfl ?_
                  rw [HG1.out, HG2.out]
                  unfold Sec.val Sec.zero
                  rw [← str_nil]
                  exact ⟨none, 0, rfl, Or.inl ⟨rfl, rfl, rfl⟩, HB.out.below⟩
          · obtain ⟨hg1, hg2⟩ := get_not HR.out (Or.inl (may_not HR.out (by omega)))
            have HG2 := Lib.hid hg2
            have HG1 := Lib.hid hg1
            clear hg1 hg2
            have c4x : ¬ (N : Int) ≤ 480 := by omega
            obtain ⟨qr_0, qr_1, qr_2, qr_3, qr_4, qr_f⟩ := cells5 (HB.out.box 1 rfl)
            have qr_l := HB.out.boxLt 1 rfl
            go_wp2_with fail
            generalize hU : (((((W6.setCell ⟨w.heap.size, 0, none⟩ (.string { data := #[] })).setCell ⟨w.heap.size, 1, none⟩ (.int .i64 0)).setCell ⟨w.heap.size, 2, none⟩ (.int .i64 0)).setCell ⟨w.heap.size, 3, none⟩ (.int .i64 0)).setCell ⟨w.heap.size, 4, none⟩ (.slice none 0 0)) = U7
            clear qr_0 qr_1 qr_2 qr_3 qr_4 qr_f qr_l
            have h0 := HB.out.store 1 rfl [.string { data := #[] }, .int .i64 0, .int .i64 0, .int .i64 0, .slice none 0 0] rfl
            rw [show Bag.setAll W6 (w.heap.size) 0 [.string { data := #[] }, .int .i64 0, .int .i64 0, .int .i64 0, .slice none 0 0] = U7 from hU] at h0
            simp only [List.set_cons_zero, List.set_cons_succ] at h0
            clear HB
            have HB := Lib.hid h0
            clear h0
            clear hU
            obtain ⟨qr_0, qr_1, qr_2, qr_3, qr_4, qr_f⟩ := cells5 (HB.out.box 1 rfl)
            have qr_l := HB.out.boxLt 1 rfl
            refine bodyPost_ret (v := .tuple #[.agg #[.string { data := #[] }, .int .i64 0, .int .i64 0, .int .i64 0, .slice none 0 0], .int .i64 117]) (by simp [results, Tryd.results23, go_sem, qr_0, qr_1, qr_2, qr_3, qr_4]) rfl ?_
            rw [HG1.out, HG2.out]
            unfold Sec.val Sec.zero
            rw [← str_nil]
            exact ⟨none, 0, rfl, Or.inl ⟨rfl, rfl, rfl⟩, HB.out.below⟩
        · obtain ⟨hg1, hg2⟩ := get_not HR.out (Or.inl (may_not HR.out (by omega)))
          have HG2 := Lib.hid hg2
          have HG1 := Lib.hid hg1
          clear hg1 hg2
          obtain ⟨qr_0, qr_1, qr_2, qr_3, qr_4, qr_f⟩ := cells5 (HB.out.box 1 rfl)
          have qr_l := HB.out.boxLt 1 rfl
          go_wp2_with fail
          generalize hU : (((((W6.setCell ⟨w.heap.size, 0, none⟩ (.string { data := #[] })).setCell ⟨w.heap.size, 1, none⟩ (.int .i64 0)).setCell ⟨w.heap.size, 2, none⟩ (.int .i64 0)).setCell ⟨w.heap.size, 3, none⟩ (.int .i64 0)).setCell ⟨w.heap.size, 4, none⟩ (.slice none 0 0)) = U7
          clear qr_0 qr_1 qr_2 qr_3 qr_4 qr_f qr_l
          have h0 := HB.out.store 1 rfl [.string { data := #[] }, .int .i64 0, .int .i64 0, .int .i64 0, .slice none 0 0] rfl
          rw [show Bag.setAll W6 (w.heap.size) 0 [.string { data := #[] }, .int .i64 0, .int .i64 0, .int .i64 0, .slice none 0 0] = U7 from hU] at h0
          simp only [List.set_cons_zero, List.set_cons_succ] at h0
          clear HB
          have HB := Lib.hid h0
          clear h0
          clear hU
          obtain ⟨qr_0, qr_1, qr_2, qr_3, qr_4, qr_f⟩ := cells5 (HB.out.box 1 rfl)
          have qr_l := HB.out.boxLt 1 rfl
          refine bodyPost_ret (v := .tuple #[.agg #[.string { data := #[] }, .int .i64 0, .int .i64 0, .int .i64 0, .slice none 0 0], .int .i64 117]) (by simp [results, Tryd.results23, go_sem, qr_0, qr_1, qr_2, qr_3, qr_4]) rfl ?_
          rw [HG1.out, HG2.out]
          unfold Sec.val Sec.zero
          rw [← str_nil]
          exact ⟨none, 0, rfl, Or.inl ⟨rfl, rfl, rfl⟩, HB.out.below⟩
      · obtain ⟨hg1, hg2⟩ := get_not HR.out (Or.inl (may_not HR.out (by omega)))
        have HG2 := Lib.hid hg2
        have HG1 := Lib.hid hg1
        clear hg1 hg2
        obtain ⟨qr_0, qr_1, qr_2, qr_3, qr_4, qr_f⟩ := cells5 (HB.out.box 1 rfl)
        have qr_l := HB.out.boxLt 1 rfl
        go_wp2_with fail
        generalize hU : (((((W6.setCell ⟨w.heap.size, 0, none⟩ (.string { data := #[] })).setCell ⟨w.heap.size, 1, none⟩ (.int .i64 0)).setCell ⟨w.heap.size, 2, none⟩ (.int .i64 0)).setCell ⟨w.heap.size, 3, none⟩ (.int .i64 0)).setCell ⟨w.heap.size, 4, none⟩ (.slice none 0 0)) = U7
        clear qr_0 qr_1 qr_2 qr_3 qr_4 qr_f qr_l
        have h0 := HB.out.store 1 rfl [.string { data := #[] }, .int .i64 0, .int .i64 0, .int .i64 0, .slice none 0 0] rfl
        rw [show Bag.setAll W6 (w.heap.size) 0 [.string { data := #[] }, .int .i64 0, .int .i64 0, .int .i64 0, .slice none 0 0] = U7 from hU] at h0
        simp only [List.set_cons_zero, List.set_cons_succ] at h0
        clear HB
        have HB := Lib.hid h0
        clear h0
        clear hU
        obtain ⟨qr_0, qr_1, qr_2, qr_3, qr_4, qr_f⟩ := cells5 (HB.out.box 1 rfl)
        have qr_l := HB.out.boxLt 1 rfl
        refine bodyPost_ret (v := .tuple #[.agg #[.string { data := #[] }, .int .i64 0, .int .i64 0, .int .i64 0, .slice none 0 0], .int .i64 117]) (by simp [results, Tryd.results23, go_sem, qr_0, qr_1, qr_2, qr_3, qr_4]) rfl ?_
        rw [HG1.out, HG2.out]
        unfold Sec.val Sec.zero
        rw [← str_nil]
        exact ⟨none, 0, rfl, Or.inl ⟨rfl, rfl, rfl⟩, HB.out.below⟩
    · obtain ⟨hg1, hg2⟩ := get_not HR.out (Or.inl (may_not HR.out (by omega)))
      have HG2 := Lib.hid hg2
      have HG1 := Lib.hid hg1
      clear hg1 hg2
      obtain ⟨qr_0, qr_1, qr_2, qr_3, qr_4, qr_f⟩ := cells5 (HB.out.box 1 rfl)
      have qr_l := HB.out.boxLt 1 rfl
      go_wp2_with fail
      generalize hU : (((((W6.setCell ⟨w.heap.size, 0, none⟩ (.string { data := #[] })).setCell ⟨w.heap.size, 1, none⟩ (.int .i64 0)).setCell ⟨w.heap.size, 2, none⟩ (.int .i64 0)).setCell ⟨w.heap.size, 3, none⟩ (.int .i64 0)).setCell ⟨w.heap.size, 4, none⟩ (.slice none 0 0)) = U7
      clear qr_0 qr_1 qr_2 qr_3 qr_4 qr_f qr_l
      have h0 := HB.out.store 1 rfl [.string { data := #[] }, .int .i64 0, .int .i64 0, .int .i64 0, .slice none 0 0] rfl
      rw [show Bag.setAll W6 (w.heap.size) 0 [.string { data := #[] }, .int .i64 0, .int .i64 0, .int .i64 0, .slice none 0 0] = U7 from hU] at h0
      simp only [List.set_cons_zero, List.set_cons_succ] at h0
      clear HB
      have HB := Lib.hid h0
      clear h0
      clear hU
      obtain ⟨qr_0, qr_1, qr_2, qr_3, qr_4, qr_f⟩ := cells5 (HB.out.box 1 rfl)
      have qr_l := HB.out.boxLt 1 rfl
      refine bodyPost_ret (v := .tuple #[.agg #[.string { data := #[] }, .int .i64 0, .int .i64 0, .int .i64 0, .slice none 0 0], .int .i64 117]) (by simp [results, Tryd.results23, go_sem, qr_0, qr_1, qr_2, qr_3, qr_4]) rfl ?_
      rw [HG1.out, HG2.out]
      unfold Sec.val Sec.zero
      rw [← str_nil]
      exact ⟨none, 0, rfl, Or.inl ⟨rfl, rfl, rfl⟩, HB.out.below⟩
  · obtain ⟨e1, e2⟩ := getV_none (getS_len (by rw [hn]; exact h512))
    have HG2 := Lib.hid e2
    have HG1 := Lib.hid e1
    clear e1 e2 hr ht hn
    go_enter Tryd.func23, Tryd.ntmps23
    go_wp2_with fail
    generalize hU : (w.alloc (.cells #[.string { data := #[] }, .int .i64 0, .int .i64 0, .int .i64 0, .slice none 0 0] 24 (0, 0))) = U1
    have h0 := (Bag.start w).allocAt #[.string { data := #[] }, .int .i64 0, .int .i64 0, .int .i64 0, .slice none 0 0] 24 (w.heap.size) rfl
    rw [hU] at h0
    have HB := Lib.hid h0
    clear h0 hU
    obtain ⟨qr_0, qr_1, qr_2, qr_3, qr_4, qr_f⟩ := cells5 (HB.out.box 0 rfl)
    have qr_l := HB.out.boxLt 0 rfl
    refine bodyPost_ret (v := .tuple #[.agg #[.string { data := #[] }, .int .i64 0, .int .i64 0, .int .i64 0, .slice none 0 0], .int .i64 117]) (by simp [results, Tryd.results23, go_sem, qr_0, qr_1, qr_2, qr_3, qr_4]) rfl ?_
    rw [HG1.out, HG2.out]
    unfold Sec.val Sec.zero
    rw [← str_nil]
    exact ⟨none, 0, rfl, Or.inl ⟨rfl, rfl, rfl⟩, HB.out.below⟩
end Go.Proofs.YtinfhlepjmollaaDoor
