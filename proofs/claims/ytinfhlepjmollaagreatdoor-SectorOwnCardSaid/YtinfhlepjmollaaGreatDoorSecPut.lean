/- sector.Put: what it makes of a sector. -/
import Derived.Test.YtinfhlepjmollaaGreatDoorSecMay
import Derived.Test.YtinfhlepjmollaaGreatDoorSecCopy
import Derived.Test.YtinfhlepjmollaaGreatDoorSBits
import Derived.Test.YtinfhlepjmollaaGreatDoorSCrc
import Derived.Test.YtinfhlepjmollaaGreatDoorCut
import Derived.StillTailTactics
import Derived.Deep.RegionLaw
import Derived.Deep.DeepCutAuto
namespace Go.Proofs.YtinfhlepjmollaaGreatDoor
open Go.RowKit
set_option maxRecDepth 20000
def putS (S : Sec) : List (BitVec 8) := if S.may then S.bytes else []
def putE (S : Sec) : Int := if S.may then 0 else 117
theorem n64_w64 (x : Int) (h0 : 0 ≤ x) (h1 : x ≤ 4611686018427387904) : x = n64 (w64 x) := by unfold n64 w64; simp; omega
theorem n32_w32 (x : Int) (h0 : 0 ≤ x) (h1 : x ≤ 8191) : x = n32 (BitVec.ofNat 32 x.toNat) ∧ (BitVec.ofNat 32 x.toNat).setWidth 64 = w64 x := by
  refine ⟨by unfold n32; simp; omega, BitVec.eq_of_toNat_eq ?_⟩
  simp [w64]; omega
theorem n16_w16 (x : Nat) (h1 : x ≤ 480) : (x : Int) = n16 (BitVec.ofNat 16 x) ∧ (BitVec.ofNat 16 x).setWidth 64 = BitVec.ofNat 64 x := by
  refine ⟨by unfold n16; simp; omega, BitVec.eq_of_toNat_eq ?_⟩
  simp; omega
theorem put64' (ao : Option Addr) (l : List (BitVec 8)) (n cap : Nat) (x : BitVec 64) (w : World) (hn : l.length = n) (hl : n ≤ 140737488351232) (hr : Rd w ao l) :
   Calls Tryz.prog 20 #[.slice ao n cap, .int .u64 (n64 x)] w fun e w' => ∃ g, e = .returned (.slice (some ⟨g, 0, none⟩) (n + 8) (n + 8)) ∧ w.heap.size ≤ g ∧ Own w' g (n + 8) 5 (l ++ be x 8) ∧ Below w.heap.size w w' := by
  subst hn
  exact put64 ao l cap x w hl hr
theorem put32' (ao : Option Addr) (l : List (BitVec 8)) (n cap : Nat) (x : BitVec 32) (w : World) (hn : l.length = n) (hl : n ≤ 140737488351232) (hr : Rd w ao l) :
   Calls Tryz.prog 21 #[.slice ao n cap, .int .u32 (n32 x)] w fun e w' => ∃ g, e = .returned (.slice (some ⟨g, 0, none⟩) (n + 4) (n + 4)) ∧ w.heap.size ≤ g ∧ Own w' g (n + 4) 5 (l ++ be (x.setWidth 64) 4) ∧ Below w.heap.size w w' := by
  subst hn
  exact put32 ao l cap x w hl hr
theorem put16' (ao : Option Addr) (l : List (BitVec 8)) (n cap : Nat) (x : BitVec 16) (w : World) (hn : l.length = n) (hl : n ≤ 140737488351232) (hr : Rd w ao l) :
   Calls Tryz.prog 22 #[.slice ao n cap, .int .u16 (n16 x)] w fun e w' => ∃ g, e = .returned (.slice (some ⟨g, 0, none⟩) (n + 2) (n + 2)) ∧ w.heap.size ≤ g ∧ Own w' g (n + 2) 5 (l ++ be (x.setWidth 64) 2) ∧ Below w.heap.size w w' := by
  subst hn
  exact put16 ao l cap x w hl hr
theorem crcSum' (ao : Option Addr) (l : List (BitVec 8)) (n cap : Nat) (w : World) (hn : l.length = n) (hl : n ≤ 140737488351232) (hr : Rd w ao l) (ht : Tab w) :
   Calls Tryz.prog 23 #[.slice ao n cap] w fun e w' => e = .returned (.int .u32 (n32 (Crc.sum l))) ∧ w = w' := by
  subst hn
  exact crcSum ao l cap w hl hr ht
theorem run_make_room (c : Nat) (hc : c ≤ 1000000) (u : World) : (Instr.makeSlice 44 (.int .i64 0) (.int .i64 (c : Int))).run Tryz.prog u = .ok (.slice (some ⟨u.heap.size, 0, none⟩) 0 c) (u.alloc (.cells (madeCells #[.int .u8 0] c) 5)) := by
  obtain ⟨i, hi, h⟩ := Option.map_eq_some_iff.1 info_u8
  simp only [Prod.mk.injEq] at h
  obtain ⟨hz, hs, hb⟩ := h
  have hr := run_make (P := Tryz.prog) u 44 5 i (.int .u8 0) Tryz.underlying44 hi hz .i64 .i64 0 c (Int.le_refl _) (by omega) (by rw [hb]; omega) (by omega)
  simp only [Int.toNat_zero, Int.toNat_natCast, hs, Nat.mul_one] at hr
  exact hr
set_option maxHeartbeats 1000000 in
theorem secPut (S : Sec) (ao : Option Addr) (cap : Nat) (w : World) (hf : S.fits) (hr : Rd w ao S.body) (ht : Tab w) (hT : 0 < w.heap.size) :
   Calls Tryz.prog 7 #[S.val ao cap] w fun e w' => ∃ ar cr, e = .returned (.tuple #[.slice ar (putS S).length cr, .int .i64 (putE S)]) ∧ Mine w' w.heap.size 5 ar cr (putS S) ∧ Below w.heap.size w w' := by
  obtain ⟨i0, hi, hz0, hz1, hz2⟩ := info_parts info_u8
  have HM := fun (W : World) => secMay S ao cap W hf
  obtain ⟨tag, epoch, seq, place, body⟩ := S
  have hmi := may_iff (S := ⟨tag, epoch, seq, place, body⟩)
  obtain ⟨hl, he0, he1, hs0, hs1, hp0, hp1⟩ := hf
  unfold Sec.val at HM ⊢
  simp only at hl he0 he1 hs0 hs1 hp0 hp1 hr hmi HM ⊢
  obtain ⟨b, hb⟩ : ∃ b, Sec.may ⟨tag, epoch, seq, place, body⟩ = b := ⟨_, rfl⟩
  rw [hb] at HM
  cases b with
  | false =>
    have e1 : putS ⟨tag, epoch, seq, place, body⟩ = [] := by simp [putS, hb]
    have e2 : putE ⟨tag, epoch, seq, place, body⟩ = 117 := by simp [putE, hb]
    rw [e1, e2]
    clear hmi hb e1 e2
    go_enter Tryz.func7, Tryz.ntmps7
    go_wp2_with fail
    refine (HM _).mono ?_
    rintro e w1 ⟨rfl, hb1⟩
    go_wp2_with fail
    go_ret2
    exact ⟨none, 0, rfl, Or.inl ⟨rfl, rfl, rfl⟩, ((Below.refl _ w).alloc (Nat.le_refl _) _).trans (hb1.mono (by simp))⟩
  | true =>
    obtain ⟨htag, ⟨hE0, hE1⟩, ⟨hS0, hS1⟩, ⟨hP0, hP1⟩, hL⟩ := hmi.1 hb
    have HTL := Lib.hid (tag_len htag)
    have e1 : putS ⟨tag, epoch, seq, place, body⟩ = Sec.bytes ⟨tag, epoch, seq, place, body⟩ := by simp [putS, hb]
    have e2 : putE ⟨tag, epoch, seq, place, body⟩ = 0 := by simp [putE, hb]
    have e3 := bytes_len hb
    rw [e1, e2]
    clear hmi e1 e2
    go_enter Tryz.func7, Tryz.ntmps7
    go_wp2_with fail
    refine (HM _).mono ?_
    rintro e w1 ⟨rfl, hb1⟩
    have HB := Lib.hid ((Bag.start w).alloc #[.string (str tag), .int .i64 epoch, .int .i64 seq, .int .i64 place, .slice ao body.length cap] 46 |>.call hb1)
    clear hb1
    obtain ⟨q0, q1, q2, q3, q4, qf⟩ := cells5 (HB.out.box 0 rfl)
    have ql := HB.out.boxLt 0 rfl
    go_upto_region 3 with fail
    go_cut [4] (fun v wx => ∃ ar cr, v = .slice ar tag.length cr ∧ Mine wx w1.heap.size 5 ar cr tag ∧ Below w1.heap.size w1 wx)
    case first =>
      have hmk : ∀ u, (Instr.makeSlice 44 (.int .i64 0) (.int .i64 28)).run Tryz.prog u = .ok (.slice (some ⟨u.heap.size, 0, none⟩) 0 28) (u.alloc (.cells (madeCells #[.int .u8 0] 28) 5)) := run_make_room 28 (by decide)
      go_region_law (refine step_append_str rfl (.tmp 9) (.tmp 11) 44 9 rfl w1.heap.size 5 i0 Tryz.underlying44 Tryz.underlying9 hi hz0 hz1 hz2 _ 0 [] tag rfl (owns_room w1.drew _ _ 28 (by simp [size_madeCells]) (by decide)) rfl (by rw [HTL.out]; omega) w1.heap.size ((Below.refl _ w1).drew.alloc (Nat.le_refl _) _) (Nat.le_refl _) (by simp) ?_; intro v2 w2 ho2 hb2)
      all_goals
        go_wp2_with fail
        go_meet
        case rel =>
          simp only [Nat.zero_add, List.nil_append] at ho2
          obtain ⟨ar, cr, rfl, hm⟩ := owns_mine ho2
          exact ⟨ar, cr, rfl, hm, hb2⟩
    case rest =>
      obtain ⟨a1, c1, rfl, hm1, hbw⟩ := hcut
      have HB2 := Lib.hid (HB.out.mine hbw hm1)
      clear HB hm1 hbw q0 q1 q2 q3 q4 qf ql
      obtain ⟨q0, q1, q2, q3, q4, qf⟩ := cells5 (HB2.out.box 1 rfl)
      have ql := HB2.out.boxLt 1 rfl
      go_wp2_with fail
      have hE := n64_w64 epoch (by omega) hE1
      have h := put64' a1 tag (tag.length) (c1) (w64 epoch) wc (by rfl) (by rw [HTL.out]; decide) (HB2.out.mineRd 0 rfl)
      rw [← hE] at h
      clear hE
      refine h.mono ?_
      clear h
      rintro e w2 ⟨g2, rfl, hg, ho, hb⟩
      have h0 := HB2.out.erase 0 |>.own hb ho hg
      simp only [List.eraseIdx_cons_zero] at h0
      have HB3 := Lib.hid h0
      clear HB2 hg ho hb h0 q0 q1 q2 q3 q4 qf ql
      obtain ⟨q0, q1, q2, q3, q4, qf⟩ := cells5 (HB3.out.box 1 rfl)
      have ql := HB3.out.boxLt 1 rfl
      go_wp2_with fail
      have hE := n64_w64 seq (by omega) hS1
      have h := put64' (some ⟨g2, 0, none⟩) (tag ++ be (w64 epoch) 8) (tag.length + 8) (tag.length + 8) (w64 seq) w2 (by simp [be_length]) (by rw [HTL.out]; decide) (HB3.out.mineRd 0 rfl)
      rw [← hE] at h
      clear hE
      refine h.mono ?_
      clear h
      rintro e w3 ⟨g3, rfl, hg, ho, hb⟩
      have h0 := HB3.out.erase 0 |>.own hb ho hg
      simp only [List.eraseIdx_cons_zero] at h0
      have HB4 := Lib.hid h0
      clear HB3 hg ho hb h0 q0 q1 q2 q3 q4 qf ql
      obtain ⟨q0, q1, q2, q3, q4, qf⟩ := cells5 (HB4.out.box 1 rfl)
      have ql := HB4.out.boxLt 1 rfl
      go_wp2_with fail
      obtain ⟨hE, hE2⟩ := n32_w32 place hP0 hP1
      have h := put32' (some ⟨g3, 0, none⟩) ((tag ++ be (w64 epoch) 8) ++ be (w64 seq) 8) (tag.length + 8 + 8) (tag.length + 8 + 8) (BitVec.ofNat 32 place.toNat) w3 (by simp [be_length]) (by rw [HTL.out]; decide) (HB4.out.mineRd 0 rfl)
      rw [← hE, hE2] at h
      clear hE hE2
      refine h.mono ?_
      clear h
      rintro e w4 ⟨g4, rfl, hg, ho, hb⟩
      have h0 := HB4.out.erase 0 |>.own hb ho hg
      simp only [List.eraseIdx_cons_zero] at h0
      have HB5 := Lib.hid h0
      clear HB4 hg ho hb h0 q0 q1 q2 q3 q4 qf ql
      obtain ⟨q0, q1, q2, q3, q4, qf⟩ := cells5 (HB5.out.box 1 rfl)
      have ql := HB5.out.boxLt 1 rfl
      go_wp2_with fail
      obtain ⟨hE, hE2⟩ := n16_w16 body.length hL
      have h := put16' (some ⟨g4, 0, none⟩) (((tag ++ be (w64 epoch) 8) ++ be (w64 seq) 8) ++ be (w64 place) 4) (tag.length + 8 + 8 + 4) (tag.length + 8 + 8 + 4) (BitVec.ofNat 16 body.length) w4 (by simp [be_length]) (by rw [HTL.out]; decide) (HB5.out.mineRd 0 rfl)
      rw [← hE, hE2] at h
      clear hE hE2
      refine h.mono ?_
      clear h
      rintro e w5 ⟨g5, rfl, hg, ho, hb⟩
      have h0 := HB5.out.erase 0 |>.own hb ho hg
      simp only [List.eraseIdx_cons_zero] at h0
      have HB6 := Lib.hid h0
      clear HB5 hg ho hb h0 q0 q1 q2 q3 q4 qf ql
      obtain ⟨q0, q1, q2, q3, q4, qf⟩ := cells5 (HB6.out.box 1 rfl)
      have ql := HB6.out.boxLt 1 rfl
      go_wp2_with fail
      have hE : n16 0#16 = 0 := by unfold n16; rfl
      have hE2 : be ((0#16).setWidth 64) 2 = [0#8, 0#8] := by decide
      have h := put16' (some ⟨g5, 0, none⟩) ((((tag ++ be (w64 epoch) 8) ++ be (w64 seq) 8) ++ be (w64 place) 4) ++ be (BitVec.ofNat 64 body.length) 2) (tag.length + 8 + 8 + 4 + 2) (tag.length + 8 + 8 + 4 + 2) 0#16 w5 (by simp [be_length]) (by rw [HTL.out]; decide) (HB6.out.mineRd 0 rfl)
      rw [hE, hE2] at h
      clear hE hE2
      refine h.mono ?_
      clear h
      rintro e w6 ⟨g6, rfl, hg, ho, hb⟩
      have h0 := HB6.out.erase 0 |>.own hb ho hg
      simp only [List.eraseIdx_cons_zero] at h0
      have HB7 := Lib.hid h0
      clear HB6 hg ho hb h0 q0 q1 q2 q3 q4 qf ql
      obtain ⟨q0, q1, q2, q3, q4, qf⟩ := cells5 (HB7.out.box 1 rfl)
      have ql := HB7.out.boxLt 1 rfl
      have hH : ((((tag ++ be (w64 epoch) 8 ++ be (w64 seq) 8) ++ be (w64 place) 4) ++ be (BitVec.ofNat 64 body.length) 2) ++ [0#8, 0#8]) = Sec.head ⟨tag, epoch, seq, place, body⟩ := by simp [Sec.head, List.append_assoc]
      have hHl := head_len hb
      have h0 := HB7.out
      rw [hH] at h0
      have HB8 := Lib.hid h0
      clear hH h0 HB7 q0 q1 q2 q3 q4 qf ql
      obtain ⟨Hd, hHd⟩ : ∃ H, Sec.head ⟨tag, epoch, seq, place, body⟩ = H := ⟨_, rfl⟩
      rw [hHd] at HB8 hHl
      have HHd := Lib.hid hHd
      clear hHd
      have hn6 : tag.length + 8 + 8 + 4 + 2 + 2 = 28 := by rw [HTL.out]
      have HN := Lib.hid hn6
      clear hn6
      obtain ⟨Z, hZ⟩ : ∃ Z, List.replicate 512 0#8 = Z := ⟨_, rfl⟩
      have hZl : Z.length = 512 := by rw [← hZ]; exact List.length_replicate
      have HZ := Lib.hid hZ
      have HZl := Lib.hid hZl
      clear hZ hZl
      go_wp2_with (at_make; go_loud (refine wpList_make_zeros rfl _ _ 44 rfl 5 i0 Tryz.underlying44 hi hz0 hz1 hz2 .i64 .i64 512 rfl rfl (by omega) Z HZ.out ?_))
      intro w7 hO7 hb7
      have HB9 := Lib.hid (HB8.out.own hb7 hO7 (Nat.le_refl _))
      clear HB8 hO7 hb7
      generalize w6.heap.size = g at *
      have HHl := Lib.hid hHl
      clear hHl
      go_wp2_with (with_reducible refine wpList_copy_at rfl (.tmp 38) (.tmp 39) 44 44 rfl 5 i0 Tryz.underlying44 hi hz1 g 0 28 28 (some ⟨g, 0, none⟩) (some ⟨g6, 0, none⟩) (tag.length + 8 + 8 + 4 + 2 + 2) (tag.length + 8 + 8 + 4 + 2 + 2) ?hd ?hs 512 5 Z Hd (HB9.out.mineOwn 0 rfl) (fun _ => rfl) (HB9.out.mineRd 1 rfl) (HHl.out.trans HN.out.symm) (by rw [HN.out]; omega) (by rw [HN.out, HZl.out]; decide) ?_)
      case hd => rfl
      case hs => rfl
      intro w8 hO8 hs8 hb8
      have HB10 := Lib.hid (HB9.out.row 0 rfl hb8 hO8)
      simp only [List.set_cons_zero] at HB10
      clear HB9 hO8 hs8 hb8
      obtain ⟨q0, q1, q2, q3, q4, qf⟩ := cells5 (HB10.out.box 2 rfl)
      have ql := HB10.out.boxLt 2 rfl
      go_wp2_with fail
      go_still_tail 4, (by kernel_rfl)
      change wpList _ _ _ _ _ w8.drew
      have h0 := HB10.out.drew
      have HB11 := Lib.hid h0
      clear HB10 h0 q0 q1 q2 q3 q4 qf ql
      generalize w8.drew = w9 at *
      have hrb := hr.on HB11.out.below
      refine wpList_copy_at rfl (.tmp 42) (.tmp 44) 44 44 rfl 5 i0 Tryz.underlying44 hi hz1 g 28 480 480 (some ⟨g, 28, none⟩) ao body.length cap ?hd2 ?hs2 512 5 (splice Z 0 Hd) body (HB11.out.mineOwn 0 rfl) (fun _ => rfl) hrb rfl (by omega) (by rw [length_splice _ _ _ (by rw [HHl.out, HZl.out]; decide), HZl.out]; omega) ?_
      case hd2 => rfl
      case hs2 => rfl
      intro w10 hO10 hs10 hb10
      have e4 := splice_head Hd body HHl.out hL
      rw [HZ.out] at e4
      rw [e4] at hO10
      have e5 : Hd ++ (body ++ List.replicate (480 - body.length) 0#8) = Sec.pre ⟨tag, epoch, seq, place, body⟩ := by rw [← HHd.out]; rfl
      rw [e5] at hO10
      have h0 := HB11.out.row 0 rfl hb10 hO10
      simp only [List.set_cons_zero] at h0
      have HB12 := Lib.hid h0
      have hpl := pre_len hb
      clear HB11 hO10 hs10 hb10 e4 e5 h0 hrb
      obtain ⟨P, hP⟩ : ∃ P, Sec.pre ⟨tag, epoch, seq, place, body⟩ = P := ⟨_, rfl⟩
      obtain ⟨R, hR⟩ : ∃ R, List.replicate 4 0#8 = R := ⟨_, rfl⟩
      have hRl : R.length = 4 := by rw [← hR]; rfl
      have hby : Sec.bytes ⟨tag, epoch, seq, place, body⟩ = P ++ be ((Crc.sum P).setWidth 64) 4 := by rw [← hP]; rfl
      rw [hP, hR] at HB12
      rw [hP] at hpl
      have HPl := Lib.hid hpl
      have HRl := Lib.hid hRl
      have HBy := Lib.hid hby
      have hlen : (Sec.bytes ⟨tag, epoch, seq, place, body⟩).length = 512 := e3
      have HLen := Lib.hid hlen
      clear hP hR hpl hRl hby hlen e3 hb
      have htw : ∀ w', Below w.heap.size w w' → Tab w' := fun w' hb => ht.below hb hT
      have HTW := Lib.hid htw
      clear htw ht
      go_upto_region 12 with fail
      go_simp
      go_cut [] (fun wx => Own wx g 512 5 (P ++ be ((Crc.sum P).setWidth 64) 4) ∧ Below w.heap.size w wx)
      case first =>
        have hOd : Own w10.drew g 512 5 (P ++ R) := HB12.out.drew.mineOwn 0 rfl
        have htd : Tab w10.drew := HTW.out _ HB12.out.drew.below
        have hBd : Below w.heap.size w w10.drew := HB12.out.drew.below
        have hgn := (HB12.out.mineFar 0 rfl _ rfl).1
        have hgw : g < w10.drew.heap.size := hOd.lt
        have HOd := Lib.hid hOd
        have HBd := Lib.hid hBd
        have HTd := Lib.hid htd
        clear hOd hBd htd
        go_region_law (first | (refine step_copy_at rfl (.tmp 47) (.tmp 51) 44 44 rfl 5 i0 Tryz.underlying44 hi hz1 g 508 4 4 (some ⟨g, 508, none⟩) (some ⟨g7, 0, none⟩) 4 4 rfl rfl 512 5 (P ++ R) (be ((Crc.sum P).setWidth 64) 4) (HOd.out.below hb7 hgw) (fun _ => rfl) ho7.rd (be_length _ _) (by omega) (by rw [List.length_append, HPl.out, HRl.out]; decide) ?_; intro w11 hO11 hs11 hb11) | (go_simp; go_at_call 23; refine (crcSum' (some ⟨g, 0, none⟩) P 508 508 _ HPl.out (by decide) HOd.out.pre.rd HTd.out).mono ?_; rintro e w' ⟨rfl, hw⟩; obtain rfl := hw.symm; clear hw) | (go_simp; go_at_call 21; refine (put32' none [] 0 0 (Crc.sum P) _ rfl (by decide) (Rd.nil _ _)).mono ?_; rintro e w12 ⟨g7, rfl, hg7, ho7, hb7⟩))
        all_goals
          go_wp2_with fail
          go_meet
          case rel =>
            rw [splice_end P R _ 508 HPl.out (by rw [be_length, HRl.out])] at hO11
            have h2 := HBd.out.trans (hb7.mono HBd.out.size)
            exact ⟨hO11, h2.trans (hb11.below (fun k hk => by omega) h2.size)⟩
      case rest =>
        obtain ⟨hO, hBx⟩ := hcut
        have hgn := (HB12.out.mineFar 0 rfl _ rfl).1
        have HO := Lib.hid hO
        clear hO
        go_wp2_with fail
        go_ret2
        rw [HBy.out]
        refine ⟨some ⟨g, 0, none⟩, 512, ?_, Or.inr ⟨g, rfl, hgn, HO.out⟩, hBx⟩
        rw [← HBy.out, HLen.out]
        rfl
end Go.Proofs.YtinfhlepjmollaaGreatDoor
