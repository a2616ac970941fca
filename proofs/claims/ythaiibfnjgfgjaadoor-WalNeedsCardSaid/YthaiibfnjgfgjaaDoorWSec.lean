/- The sector's contracts and laws, for the log. -/
import Derived.Test.YthaiibfnjgfgjaaDoorSecStr
import Derived.Test.YthaiibfnjgfgjaaDoorSame
import Derived.Test.YthaiibfnjgfgjaaDoorSecCopy
import Derived.Test.YthaiibfnjgfgjaaDoorSBits
import Derived.Test.YthaiibfnjgfgjaaDoorSCrc
import Derived.Test.YthaiibfnjgfgjaaDoorCut
import Derived.StillTailTactics
import Derived.Deep.RegionLaw
import Derived.Deep.DeepCutAuto
import Derived.Test.YthaiibfnjgfgjaaDoorCrcMaps
import Derived.Test.YthaiibfnjgfgjaaDoorBagKey
import Derived.Lib.SlBytesConst
import Derived.Deep.RegionHeld3
namespace Go.Proofs.YthaiibfnjgfgjaaDoor
open Go.RowKit
/-- A sector as a value. -/
def Sec.val (S : Sec) (ao : Option Addr) (cap : Nat) : Value := .agg #[.string (str S.tag), .int .i64 S.epoch, .int .i64 S.seq, .int .i64 S.place, .slice ao S.body.length cap]
/-- Its numbers are numbers of the machine. -/
structure Sec.fits (S : Sec) : Prop where
  len : S.body.length ≤ 140737488351232
  e0 : -9223372036854775808 ≤ S.epoch
  e1 : S.epoch ≤ 9223372036854775807
  s0 : -9223372036854775808 ≤ S.seq
  s1 : S.seq ≤ 9223372036854775807
  p0 : -9223372036854775808 ≤ S.place
  p1 : S.place ≤ 9223372036854775807
set_option maxHeartbeats 4000000 in
theorem secMay (S : Sec) (ao : Option Addr) (cap : Nat) (w : World) (hf : S.fits) :
   Calls Tryd.prog 81 #[S.val ao cap] w fun e w' => e = .returned (.bool S.may) ∧ Below w.heap.size w w' := by
  obtain ⟨hl, he0, he1, hs0, hs1, hp0, hp1⟩ := hf
  obtain ⟨tag, epoch, seq, place, body⟩ := S
  unfold Sec.val
  simp only at hl he0 he1 hs0 hs1 hp0 hp1 ⊢
  go_enter Tryd.func81, Tryd.ntmps81
  go_wp2_with fail
  refine (tagged tag _).mono ?_; rintro e w1 ⟨rfl, hw⟩; obtain rfl := hw.symm; clear hw
  cases c1 : tagB tag
  · go_wp2
    go_ret
    exact ⟨by simp [Sec.may, c1] <;> omega, (Below.refl _ w).alloc (Nat.le_refl _) _⟩
  · by_cases c2 : 1 ≤ epoch
    · by_cases c3 : epoch ≤ 4611686018427387904
      · by_cases c4 : 1 ≤ seq
        · by_cases c5 : seq ≤ 4611686018427387904
          · by_cases c6 : 0 ≤ place
            · by_cases c7 : place ≤ 8191
              · have c7x : place < 8192 := by omega
                by_cases c8 : body.length ≤ 480
                · have c8x : (body.length : Int) ≤ 480 := by omega
                  go_wp2
                  go_ret
                  exact ⟨by simp [Sec.may, c1, c2, c3, c4, c5, c6, c7, c8] <;> omega, (Below.refl _ w).alloc (Nat.le_refl _) _⟩
                · have c8x : ¬ (body.length : Int) ≤ 480 := by omega
                  go_wp2
                  go_ret
                  exact ⟨by simp [Sec.may, c1, c2, c3, c4, c5, c6, c7, c8] <;> omega, (Below.refl _ w).alloc (Nat.le_refl _) _⟩
              · have c7x : ¬ place < 8192 := by omega
                go_wp2
                go_ret
                exact ⟨by simp [Sec.may, c1, c2, c3, c4, c5, c6] <;> omega, (Below.refl _ w).alloc (Nat.le_refl _) _⟩
            · go_wp2
              go_ret
              exact ⟨by simp [Sec.may, c1, c2, c3, c4, c5] <;> omega, (Below.refl _ w).alloc (Nat.le_refl _) _⟩
          · go_wp2
            go_ret
            exact ⟨by simp [Sec.may, c1, c2, c3, c4] <;> omega, (Below.refl _ w).alloc (Nat.le_refl _) _⟩
        · go_wp2
          go_ret
          exact ⟨by simp [Sec.may, c1, c2, c3] <;> omega, (Below.refl _ w).alloc (Nat.le_refl _) _⟩
      · go_wp2
        go_ret
        exact ⟨by simp [Sec.may, c1, c2] <;> omega, (Below.refl _ w).alloc (Nat.le_refl _) _⟩
    · go_wp2
      go_ret
      exact ⟨by simp [Sec.may, c1] <;> omega, (Below.refl _ w).alloc (Nat.le_refl _) _⟩
def alikeS (A B : Sec) : Bool := (A.body == B.body) && ((A.tag == B.tag) && ((A.epoch == B.epoch) && ((A.seq == B.seq) && (A.place == B.place))))
theorem alikeS_refl (A : Sec) : alikeS A A = true := by simp [alikeS]
theorem alikeS_iff {A B : Sec} : alikeS A B = true ↔ A = B := by
  obtain ⟨a, b, c, d, e⟩ := A
  obtain ⟨a', b', c', d', e'⟩ := B
  simp only [alikeS, Bool.and_eq_true, beq_iff_eq, Sec.mk.injEq]
  constructor
  · rintro ⟨h1, h2, h3, h4, h5⟩; exact ⟨h2, h3, h4, h5, h1⟩
  · rintro ⟨h2, h3, h4, h5, h1⟩; exact ⟨h1, h2, h3, h4, h5⟩
set_option maxRecDepth 20000
def putS (S : Sec) : List (BitVec 8) := if S.may then S.bytes else []
def putE (S : Sec) : Int := if S.may then 0 else 117
theorem n64_w64 (x : Int) (h0 : 0 ≤ x) (h1 : x ≤ 4611686018427387904) : x = n64 (w64 x) := by unfold n64 w64; simp; omega
theorem n32_w32 (x : Int) (h0 : 0 ≤ x) (h1 : x ≤ 8191) : x = n32 (BitVec.ofNat 32 x.toNat) ∧ (BitVec.ofNat 32 x.toNat).setWidth 64 = w64 x := by
  refine ⟨by unfold n32; simp; omega, BitVec.eq_of_toNat_eq ?_⟩
  simp [w64]; omega
theorem n16_w16 (x : Nat) (h1 : x ≤ 480) : (x : Int) = n16 (BitVec.ofNat 16 x) ∧ (BitVec.ofNat 16 x).setWidth 64 = BitVec.ofNat 64 x := by
  refine ⟨by unfold n16; simp; omega, BitVec.eq_of_toNat_eq ?_⟩
  simp; omega
theorem put64' (ao : Option Addr) (l : List (BitVec 8)) (n cap : Nat) (x : BitVec 64) (w : World) (hn : l.length = n) (hl : n ≤ 140737488351232) (hr : Rd w ao l) :
   Calls Tryd.prog 82 #[.slice ao n cap, .int .u64 (n64 x)] w fun e w' => ∃ g, e = .returned (.slice (some ⟨g, 0, none⟩) (n + 8) (n + 8)) ∧ w.heap.size ≤ g ∧ Own w' g (n + 8) 5 (l ++ be x 8) ∧ Below w.heap.size w w' := by
  subst hn
  exact put64 ao l cap x w hl hr
theorem put32' (ao : Option Addr) (l : List (BitVec 8)) (n cap : Nat) (x : BitVec 32) (w : World) (hn : l.length = n) (hl : n ≤ 140737488351232) (hr : Rd w ao l) :
   Calls Tryd.prog 62 #[.slice ao n cap, .int .u32 (n32 x)] w fun e w' => ∃ g, e = .returned (.slice (some ⟨g, 0, none⟩) (n + 4) (n + 4)) ∧ w.heap.size ≤ g ∧ Own w' g (n + 4) 5 (l ++ be (x.setWidth 64) 4) ∧ Below w.heap.size w w' := by
  subst hn
  exact put32 ao l cap x w hl hr
theorem put16' (ao : Option Addr) (l : List (BitVec 8)) (n cap : Nat) (x : BitVec 16) (w : World) (hn : l.length = n) (hl : n ≤ 140737488351232) (hr : Rd w ao l) :
   Calls Tryd.prog 61 #[.slice ao n cap, .int .u16 (n16 x)] w fun e w' => ∃ g, e = .returned (.slice (some ⟨g, 0, none⟩) (n + 2) (n + 2)) ∧ w.heap.size ≤ g ∧ Own w' g (n + 2) 5 (l ++ be (x.setWidth 64) 2) ∧ Below w.heap.size w w' := by
  subst hn
  exact put16 ao l cap x w hl hr
theorem crcSum' (ao : Option Addr) (l : List (BitVec 8)) (n cap : Nat) (w : World) (hn : l.length = n) (hl : n ≤ 140737488351232) (hr : Rd w ao l) (ht : Tab w) :
   Calls Tryd.prog 63 #[.slice ao n cap] w fun e w' => e = .returned (.int .u32 (n32 (Crc.sum l))) ∧ w = w' := by
  subst hn
  exact crcSum ao l cap w hl hr ht
theorem run_make_room (c : Nat) (hc : c ≤ 1000000) (u : World) : (Instr.makeSlice 29 (.int .i64 0) (.int .i64 (c : Int))).run Tryd.prog u = .ok (.slice (some ⟨u.heap.size, 0, none⟩) 0 c) (u.alloc (.cells (madeCells #[.int .u8 0] c) 5)) := by
  obtain ⟨i, hi, h⟩ := Option.map_eq_some_iff.1 info_u8
  simp only [Prod.mk.injEq] at h
  obtain ⟨hz, hs, hb⟩ := h
  have hr := run_make (P := Tryd.prog) u 29 5 i (.int .u8 0) Tryd.underlying29 hi hz .i64 .i64 0 c (Int.le_refl _) (by omega) (by rw [hb]; omega) (by omega)
  simp only [Int.toNat_zero, Int.toNat_natCast, hs, Nat.mul_one] at hr
  exact hr
set_option maxHeartbeats 1000000 in
theorem secPut (S : Sec) (ao : Option Addr) (cap : Nat) (w : World) (hf : S.fits) (hr : Rd w ao S.body) (ht : Tab w) (hT : 0 < w.heap.size) :
   Calls Tryd.prog 71 #[S.val ao cap] w fun e w' => ∃ ar cr, e = .returned (.tuple #[.slice ar (putS S).length cr, .int .i64 (putE S)]) ∧ Mine w' w.heap.size 5 ar cr (putS S) ∧ Below w.heap.size w w' := by
  obtain ⟨i0, hi, hz0, hz1, hz2⟩ := info_parts info_u8
  have HM := fun (W : World) => secMay S ao cap W hf
  obtain ⟨tag, epoch, seq, place, body⟩ := S
  have hmi := may_iff (S := ⟨tag, epoch, seq, place, body⟩)
  obtain ⟨hl, he0, he1, hs0, hs1, hp0, hp1⟩ := hf
  unfold Sec.val at HM ⊢
  simp only at hl he0 he1 hs0 hs1 hp0 hp1 hr hmi HM ⊢
  obtain ⟨b, hb⟩ : ∃ b, Sec.may ⟨tag, epoch, seq, place, body⟩ = b := ⟨_, rfl⟩
  rw [hb] at HM
  cases b with
  | false =>
    have e1 : putS ⟨tag, epoch, seq, place, body⟩ = [] := by simp [putS, hb]
    have e2 : putE ⟨tag, epoch, seq, place, body⟩ = 117 := by simp [putE, hb]
    rw [e1, e2]
    clear hmi hb e1 e2
    go_enter Tryd.func71, Tryd.ntmps71
    go_wp2_with fail
    refine (HM _).mono ?_
    rintro e w1 ⟨rfl, hb1⟩
    go_wp2_with fail
    go_ret2
    exact ⟨none, 0, rfl, Or.inl ⟨rfl, rfl, rfl⟩, ((Below.refl _ w).alloc (Nat.le_refl _) _).trans (hb1.mono (by simp))⟩
  | true =>
    obtain ⟨htag, ⟨hE0, hE1⟩, ⟨hS0, hS1⟩, ⟨hP0, hP1⟩, hL⟩ := hmi.1 hb
    have HTL := Lib.hid (tag_len htag)
    have e1 : putS ⟨tag, epoch, seq, place, body⟩ = Sec.bytes ⟨tag, epoch, seq, place, body⟩ := by simp [putS, hb]
    have e2 : putE ⟨tag, epoch, seq, place, body⟩ = 0 := by simp [putE, hb]
    have e3 := bytes_len hb
    rw [e1, e2]
    clear hmi e1 e2
    go_enter Tryd.func71, Tryd.ntmps71
    go_wp2_with fail
    refine (HM _).mono ?_
    rintro e w1 ⟨rfl, hb1⟩
    have HB := Lib.hid ((Bag.start w).alloc #[.string (str tag), .int .i64 epoch, .int .i64 seq, .int .i64 place, .slice ao body.length cap] 33 |>.call hb1)
    clear hb1
    obtain ⟨q0, q1, q2, q3, q4, qf⟩ := cells5 (HB.out.box 0 rfl)
    have ql := HB.out.boxLt 0 rfl
    go_upto_region 3 with fail
    go_cut [4] (fun v wx => ∃ ar cr, v = .slice ar tag.length cr ∧ Mine wx w1.heap.size 5 ar cr tag ∧ Below w1.heap.size w1 wx)
    case first =>
      have hmk : ∀ u, (Instr.makeSlice 29 (.int .i64 0) (.int .i64 28)).run Tryd.prog u = .ok (.slice (some ⟨u.heap.size, 0, none⟩) 0 28) (u.alloc (.cells (madeCells #[.int .u8 0] 28) 5)) := run_make_room 28 (by decide)
      go_region_law (refine step_append_str rfl (.tmp 9) (.tmp 11) 29 9 rfl w1.heap.size 5 i0 Tryd.underlying29 Tryd.underlying9 hi hz0 hz1 hz2 _ 0 [] tag rfl (owns_room w1.drew _ _ 28 (by simp [size_madeCells]) (by decide)) rfl (by rw [HTL.out]; omega) w1.heap.size ((Below.refl _ w1).drew.alloc (Nat.le_refl _) _) (Nat.le_refl _) (by simp) ?_; intro v2 w2 ho2 hb2)
      all_goals
        go_wp2_with fail
        go_meet
        case rel =>
          simp only [Nat.zero_add, List.nil_append] at ho2
          obtain ⟨ar, cr, rfl, hm⟩ := owns_mine ho2
          exact ⟨ar, cr, rfl, hm, hb2⟩
    case rest =>
      obtain ⟨a1, c1, rfl, hm1, hbw⟩ := hcut
      have HB2 := Lib.hid (HB.out.mine hbw hm1)
      clear HB hm1 hbw q0 q1 q2 q3 q4 qf ql
      obtain ⟨q0, q1, q2, q3, q4, qf⟩ := cells5 (HB2.out.box 1 rfl)
      have ql := HB2.out.boxLt 1 rfl
      go_wp2_with fail
      have hE := n64_w64 epoch (by omega) hE1
      have h := put64' a1 tag (tag.length) (c1) (w64 epoch) wc (by rfl) (by rw [HTL.out]; decide) (HB2.out.mineRd 0 rfl)
      rw [← hE] at h
      clear hE
      refine h.mono ?_
      clear h
      rintro e w2 ⟨g2, rfl, hg, ho, hb⟩
      have h0 := HB2.out.erase 0 |>.own hb ho hg
      simp only [List.eraseIdx_cons_zero] at h0
      have HB3 := Lib.hid h0
      clear HB2 hg ho hb h0 q0 q1 q2 q3 q4 qf ql
      obtain ⟨q0, q1, q2, q3, q4, qf⟩ := cells5 (HB3.out.box 1 rfl)
      have ql := HB3.out.boxLt 1 rfl
      go_wp2_with fail
      have hE := n64_w64 seq (by omega) hS1
      have h := put64' (some ⟨g2, 0, none⟩) (tag ++ be (w64 epoch) 8) (tag.length + 8) (tag.length + 8) (w64 seq) w2 (by simp [be_length]) (by rw [HTL.out]; decide) (HB3.out.mineRd 0 rfl)
      rw [← hE] at h
      clear hE
      refine h.mono ?_
      clear h
      rintro e w3 ⟨g3, rfl, hg, ho, hb⟩
      have h0 := HB3.out.erase 0 |>.own hb ho hg
      simp only [List.eraseIdx_cons_zero] at h0
      have HB4 := Lib.hid h0
      clear HB3 hg ho hb h0 q0 q1 q2 q3 q4 qf ql
      obtain ⟨q0, q1, q2, q3, q4, qf⟩ := cells5 (HB4.out.box 1 rfl)
      have ql := HB4.out.boxLt 1 rfl
      go_wp2_with fail
      obtain ⟨hE, hE2⟩ := n32_w32 place hP0 hP1
      have h := put32' (some ⟨g3, 0, none⟩) ((tag ++ be (w64 epoch) 8) ++ be (w64 seq) 8) (tag.length + 8 + 8) (tag.length + 8 + 8) (BitVec.ofNat 32 place.toNat) w3 (by simp [be_length]) (by rw [HTL.out]; decide) (HB4.out.mineRd 0 rfl)
      rw [← hE, hE2] at h
      clear hE hE2
      refine h.mono ?_
      clear h
      rintro e w4 ⟨g4, rfl, hg, ho, hb⟩
      have h0 := HB4.out.erase 0 |>.own hb ho hg
      simp only [List.eraseIdx_cons_zero] at h0
      have HB5 := Lib.hid h0
      clear HB4 hg ho hb h0 q0 q1 q2 q3 q4 qf ql
      obtain ⟨q0, q1, q2, q3, q4, qf⟩ := cells5 (HB5.out.box 1 rfl)
      have ql := HB5.out.boxLt 1 rfl
      go_wp2_with fail
      obtain ⟨hE, hE2⟩ := n16_w16 body.length hL
      have h := put16' (some ⟨g4, 0, none⟩) (((tag ++ be (w64 epoch) 8) ++ be (w64 seq) 8) ++ be (w64 place) 4) (tag.length + 8 + 8 + 4) (tag.length + 8 + 8 + 4) (BitVec.ofNat 16 body.length) w4 (by simp [be_length]) (by rw [HTL.out]; decide) (HB5.out.mineRd 0 rfl)
      rw [← hE, hE2] at h
      clear hE hE2
      refine h.mono ?_
      clear h
      rintro e w5 ⟨g5, rfl, hg, ho, hb⟩
      have h0 := HB5.out.erase 0 |>.own hb ho hg
      simp only [List.eraseIdx_cons_zero] at h0
      have HB6 := Lib.hid h0
      clear HB5 hg ho hb h0 q0 q1 q2 q3 q4 qf ql
      obtain ⟨q0, q1, q2, q3, q4, qf⟩ := cells5 (HB6.out.box 1 rfl)
      have ql := HB6.out.boxLt 1 rfl
      go_wp2_with fail
      have hE : n16 0#16 = 0 := by unfold n16; rfl
      have hE2 : be ((0#16).setWidth 64) 2 = [0#8, 0#8] := by decide
      have h := put16' (some ⟨g5, 0, none⟩) ((((tag ++ be (w64 epoch) 8) ++ be (w64 seq) 8) ++ be (w64 place) 4) ++ be (BitVec.ofNat 64 body.length) 2) (tag.length + 8 + 8 + 4 + 2) (tag.length + 8 + 8 + 4 + 2) 0#16 w5 (by simp [be_length]) (by rw [HTL.out]; decide) (HB6.out.mineRd 0 rfl)
      rw [hE, hE2] at h
      clear hE hE2
      refine h.mono ?_
      clear h
      rintro e w6 ⟨g6, rfl, hg, ho, hb⟩
      have h0 := HB6.out.erase 0 |>.own hb ho hg
      simp only [List.eraseIdx_cons_zero] at h0
      have HB7 := Lib.hid h0
      clear HB6 hg ho hb h0 q0 q1 q2 q3 q4 qf ql
      obtain ⟨q0, q1, q2, q3, q4, qf⟩ := cells5 (HB7.out.box 1 rfl)
      have ql := HB7.out.boxLt 1 rfl
      have hH : ((((tag ++ be (w64 epoch) 8 ++ be (w64 seq) 8) ++ be (w64 place) 4) ++ be (BitVec.ofNat 64 body.length) 2) ++ [0#8, 0#8]) = Sec.head ⟨tag, epoch, seq, place, body⟩ := by simp [Sec.head, List.append_assoc]
      have hHl := head_len hb
      have h0 := HB7.out
      rw [hH] at h0
      have HB8 := Lib.hid h0
      clear hH h0 HB7 q0 q1 q2 q3 q4 qf ql
      obtain ⟨Hd, hHd⟩ : ∃ H, Sec.head ⟨tag, epoch, seq, place, body⟩ = H := ⟨_, rfl⟩
      rw [hHd] at HB8 hHl
      have HHd := Lib.hid hHd
      clear hHd
      have hn6 : tag.length + 8 + 8 + 4 + 2 + 2 = 28 := by rw [HTL.out]
      have HN := Lib.hid hn6
      clear hn6
      obtain ⟨Z, hZ⟩ : ∃ Z, List.replicate 512 0#8 = Z := ⟨_, rfl⟩
      have hZl : Z.length = 512 := by rw [← hZ]; exact List.length_replicate
      have HZ := Lib.hid hZ
      have HZl := Lib.hid hZl
      clear hZ hZl
      go_wp2_with (at_make; go_loud (refine wpList_make_zeros rfl _ _ 29 rfl 5 i0 Tryd.underlying29 hi hz0 hz1 hz2 .i64 .i64 512 rfl rfl (by omega) Z HZ.out ?_))
      intro w7 hO7 hb7
      have HB9 := Lib.hid (HB8.out.own hb7 hO7 (Nat.le_refl _))
      clear HB8 hO7 hb7
      generalize w6.heap.size = g at *
      have HHl := Lib.hid hHl
      clear hHl
      go_wp2_with (with_reducible refine wpList_copy_at rfl (.tmp 38) (.tmp 39) 29 29 rfl 5 i0 Tryd.underlying29 hi hz1 g 0 28 28 (some ⟨g, 0, none⟩) (some ⟨g6, 0, none⟩) (tag.length + 8 + 8 + 4 + 2 + 2) (tag.length + 8 + 8 + 4 + 2 + 2) ?hd ?hs 512 5 Z Hd (HB9.out.mineOwn 0 rfl) (fun _ => rfl) (HB9.out.mineRd 1 rfl) (HHl.out.trans HN.out.symm) (by rw [HN.out]; omega) (by rw [HN.out, HZl.out]; decide) ?_)
      case hd => rfl
      case hs => rfl
      intro w8 hO8 hs8 hb8
      have HB10 := Lib.hid (HB9.out.row 0 rfl hb8 hO8)
      simp only [List.set_cons_zero] at HB10
      clear HB9 hO8 hs8 hb8
      obtain ⟨q0, q1, q2, q3, q4, qf⟩ := cells5 (HB10.out.box 2 rfl)
      have ql := HB10.out.boxLt 2 rfl
      go_wp2_with fail
      go_still_tail 4, (by kernel_rfl)
      change wpList _ _ _ _ _ w8.drew
      have h0 := HB10.out.drew
      have HB11 := Lib.hid h0
      clear HB10 h0 q0 q1 q2 q3 q4 qf ql
      generalize w8.drew = w9 at *
      have hrb := hr.on HB11.out.below
      refine wpList_copy_at rfl (.tmp 42) (.tmp 44) 29 29 rfl 5 i0 Tryd.underlying29 hi hz1 g 28 480 480 (some ⟨g, 28, none⟩) ao body.length cap ?hd2 ?hs2 512 5 (splice Z 0 Hd) body (HB11.out.mineOwn 0 rfl) (fun _ => rfl) hrb rfl (by omega) (by rw [length_splice _ _ _ (by rw [HHl.out, HZl.out]; decide), HZl.out]; omega) ?_
      case hd2 => rfl
      case hs2 => rfl
      intro w10 hO10 hs10 hb10
      have e4 := splice_head Hd body HHl.out hL
      rw [HZ.out] at e4
      rw [e4] at hO10
      have e5 : Hd ++ (body ++ List.replicate (480 - body.length) 0#8) = Sec.pre ⟨tag, epoch, seq, place, body⟩ := by rw [← HHd.out]; rfl
      rw [e5] at hO10
      have h0 := HB11.out.row 0 rfl hb10 hO10
      simp only [List.set_cons_zero] at h0
      have HB12 := Lib.hid h0
      have hpl := pre_len hb
      clear HB11 hO10 hs10 hb10 e4 e5 h0 hrb
      obtain ⟨P, hP⟩ : ∃ P, Sec.pre ⟨tag, epoch, seq, place, body⟩ = P := ⟨_, rfl⟩
      obtain ⟨R, hR⟩ : ∃ R, List.replicate 4 0#8 = R := ⟨_, rfl⟩
      have hRl : R.length = 4 := by rw [← hR]; rfl
      have hby : Sec.bytes ⟨tag, epoch, seq, place, body⟩ = P ++ be ((Crc.sum P).setWidth 64) 4 := by rw [← hP]; rfl
      rw [hP, hR] at HB12
      rw [hP] at hpl
      have HPl := Lib.hid hpl
      have HRl := Lib.hid hRl
      have HBy := Lib.hid hby
      have hlen : (Sec.bytes ⟨tag, epoch, seq, place, body⟩).length = 512 := e3
      have HLen := Lib.hid hlen
      clear hP hR hpl hRl hby hlen e3 hb
      have htw : ∀ w', Below w.heap.size w w' → Tab w' := fun w' hb => ht.below hb hT
      have HTW := Lib.hid htw
      clear htw ht
      go_upto_region 12 with fail
      go_simp
      go_cut [] (fun wx => Own wx g 512 5 (P ++ be ((Crc.sum P).setWidth 64) 4) ∧ Below w.heap.size w wx)
      case first =>
        have hOd : Own w10.drew g 512 5 (P ++ R) := HB12.out.drew.mineOwn 0 rfl
        have htd : Tab w10.drew := HTW.out _ HB12.out.drew.below
        have hBd : Below w.heap.size w w10.drew := HB12.out.drew.below
        have hgn := (HB12.out.mineFar 0 rfl _ rfl).1
        have hgw : g < w10.drew.heap.size := hOd.lt
        have HOd := Lib.hid hOd
        have HBd := Lib.hid hBd
        have HTd := Lib.hid htd
        clear hOd hBd htd
        go_region_law (first | (refine step_copy_at rfl (.tmp 47) (.tmp 51) 29 29 rfl 5 i0 Tryd.underlying29 hi hz1 g 508 4 4 (some ⟨g, 508, none⟩) (some ⟨g7, 0, none⟩) 4 4 rfl rfl 512 5 (P ++ R) (be ((Crc.sum P).setWidth 64) 4) (HOd.out.below hb7 hgw) (fun _ => rfl) ho7.rd (be_length _ _) (by omega) (by rw [List.length_append, HPl.out, HRl.out]; decide) ?_; intro w11 hO11 hs11 hb11) | (go_simp; go_at_call 63; refine (crcSum' (some ⟨g, 0, none⟩) P 508 508 _ HPl.out (by decide) HOd.out.pre.rd HTd.out).mono ?_; rintro e w' ⟨rfl, hw⟩; obtain rfl := hw.symm; clear hw) | (go_simp; go_at_call 62; refine (put32' none [] 0 0 (Crc.sum P) _ rfl (by decide) (Rd.nil _ _)).mono ?_; rintro e w12 ⟨g7, rfl, hg7, ho7, hb7⟩))
        all_goals
          go_wp2_with fail
          go_meet
          case rel =>
            rw [splice_end P R _ 508 HPl.out (by rw [be_length, HRl.out])] at hO11
            have h2 := HBd.out.trans (hb7.mono HBd.out.size)
            exact ⟨hO11, h2.trans (hb11.below (fun k hk => by omega) h2.size)⟩
      case rest =>
        obtain ⟨hO, hBx⟩ := hcut
        have hgn := (HB12.out.mineFar 0 rfl _ rfl).1
        have HO := Lib.hid hO
        clear hO
        go_wp2_with fail
        go_ret2
        rw [HBy.out]
        refine ⟨some ⟨g, 0, none⟩, 512, ?_, Or.inr ⟨g, rfl, hgn, HO.out⟩, hBx⟩
        rw [← HBy.out, HLen.out]
        rfl
theorem stp_low (r : BitVec 32) : (n32 (r &&& 1#32) == 1) = r.getLsbD 0 := by
  rw [show (1 : Int) = n32 1#32 from by unfold n32; rfl, n32_beq, Bool.eq_iff_iff, beq_iff_eq]
  constructor
  · intro h
    have := congrArg (fun x => x.getLsbD 0) h
    simpa using this
  · intro h
    ext i hi
    rcases Nat.eq_zero_or_pos i with rfl | h1
    · simpa using h
    · simp; intro; omega
theorem poly_x (a : BitVec 32) : bits .xor .u32 (n32 a) 2197175160 = n32 (a ^^^ Crc.poly) := by
  rw [show (2197175160 : Int) = n32 Crc.poly from by unfold n32; rfl, xor32]
theorem owns_form {w : World} {B e size n : Nat} {v : Value} {xs : List Value} (h : w.ownsRow B e size v n xs) : ∃ ao cap, v = .slice ao n cap ∧ n ≤ cap := by
  rcases h.2 with ⟨rfl, rfl⟩ | ⟨g, cap, cur, rfl, _, _, hc, _⟩
  · exact ⟨none, 0, rfl, Nat.le_refl _⟩
  · exact ⟨_, cap, rfl, hc⟩
def vlen : Value → Nat
  | .slice _ n _ => n
  | _ => 0
theorem owns_mine' {w : World} {B e : Nat} {v : Value} {n : Nat} {l : List (BitVec 8)} (h : w.ownsRow B e 1 v n (bts l)) (hn : l.length = n) : ∃ ao cap, v = .slice ao n cap ∧ Mine w B e ao cap l := by
  subst hn
  exact owns_mine h
def Sec.zero : Sec := ⟨[], 0, 0, 0, []⟩
def getV (b : List (BitVec 8)) : Sec := (getS b).getD Sec.zero
def getE (b : List (BitVec 8)) : Int := if (getS b).isSome then 0 else 117
theorem val_lt (l : List (BitVec 8)) : ∀ k, l.length = k → k ≤ 8 → (val l).toNat < 2 ^ (8 * k) := by
  intro k
  induction k generalizing l with
  | zero =>
    intro h _
    obtain rfl := List.length_eq_zero_iff.1 h
    simp [val]
  | succ k ih =>
    intro h hk
    obtain ⟨m, c, rfl⟩ : ∃ m c, l = m ++ [c] := by
      have hk2 : k < l.length := by omega
      refine ⟨l.take k, l[k], ?_⟩
      rw [← List.take_succ_eq_append_getElem hk2, List.take_of_length_le (by omega)]
    have h1 := ih m (by simpa using h) (by omega)
    rw [val_snoc]
    have h2 : (val m <<< 8).toNat < 2 ^ (8 * (k + 1)) := by
      rw [BitVec.toNat_shiftLeft, Nat.shiftLeft_eq]
      refine Nat.lt_of_le_of_lt (Nat.mod_le _ _) ?_
      have : 2 ^ (8 * (k + 1)) = 2 ^ (8 * k) * 2 ^ 8 := by rw [← Nat.pow_add]; congr 1
      rw [this]
      exact Nat.mul_lt_mul_of_pos_right h1 (by decide)
    rw [BitVec.toNat_or]
    refine Nat.or_lt_two_pow h2 ?_
    have h3 := c.isLt
    rw [BitVec.toNat_setWidth]
    refine Nat.lt_of_le_of_lt (Nat.mod_le _ _) (Nat.lt_of_lt_of_le h3 (Nat.pow_le_pow_right (by decide) (by omega)))
theorem getS_len {b : List (BitVec 8)} (h : b.length ≠ 512) : getS b = none := by
  unfold getS
  rw [if_neg]
  rintro ⟨h1, h2⟩
  exact h (by rw [← h2]; exact bytes_len h1)
theorem getS_no {b : List (BitVec 8)} (h : ¬ ((readS b).may = true ∧ (readS b).bytes = b)) : getS b = none := if_neg h
theorem getS_yes {b : List (BitVec 8)} (h1 : (readS b).may = true) (h2 : (readS b).bytes = b) : getS b = some (readS b) := if_pos ⟨h1, h2⟩
theorem getV_none {b : List (BitVec 8)} (h : getS b = none) : getV b = Sec.zero ∧ getE b = 117 := by simp [getV, getE, h]
theorem getV_some {b : List (BitVec 8)} {S : Sec} (h : getS b = some S) : getV b = S ∧ getE b = 0 := by simp [getV, getE, h]
/-- A reader. -/
def It.rdr (p g : Nat) (l : List (BitVec 8)) (k : Nat) (e : Int) : It where
  ats j := j = p ∨ j = g
  holds W := Rdr W p g l k e
  lt := by
    rintro W j h (rfl | rfl)
    · exact h.lt
    · exact h.lt'
  keep := fun _ _ h hk => h.kept (hk p (Or.inl rfl)) (hk g (Or.inr rfl))
theorem Bag.rdr {w W W' : World} {l : List It} (h : Bag w W l) (hb : Below W.heap.size W W') {p g : Nat} {m : List (BitVec 8)} {k : Nat} {e : Int} (hp : W.heap.size ≤ p) (hg : W.heap.size ≤ g) (hr : Rdr W' p g m k e) : Bag w W' (.rdr p g m k e :: l) :=
  h.cons hb hr (by rintro j (rfl | rfl) <;> assumption)
theorem Bag.rdrAt {w W : World} {l : List It} (h : Bag w W l) (i : Nat) {p g : Nat} {m : List (BitVec 8)} {k : Nat} {e : Int} (hi : l[i]? = some (.rdr p g m k e)) : Rdr W p g m k e := h.holds i _ hi
theorem Bag.rdrTurn {w W W' : World} {l : List It} (h : Bag w W l) (i : Nat) {p g : Nat} {m : List (BitVec 8)} {k k' : Nat} {e e' : Int} (hi : l[i]? = some (.rdr p g m k e)) (ho : Only (fun j => j = p) W W') (hr : Rdr W' p g m k' e') : Bag w W' (l.set i (.rdr p g m k' e')) :=
  h.turn i hi ho (fun _ h => Or.inl h) hr (fun _ h => Or.inl h)
theorem cvRun (w : World) (ao : Option Addr) (l : List (BitVec 8)) (n cap : Nat) (hn : l.length = n) (hr : Rd w ao l) : (convert 29 9 (.slice ao n cap)).run Tryd.prog w = .ok (.string (str l)) w := by
  subst hn
  rcases Nat.eq_zero_or_pos l.length with h0 | h0
  · obtain rfl := List.length_eq_zero_iff.1 h0
    cases ao with
    | none =>
      rw [run_convert_bytes_nil w 29 5 Tryd.underlying29 Tryd.underlying5 _ _ 9 Tryd.underlying9]
      congr 2
      unfold str; rfl
    | some a =>
      have h := run_convert_bytes_back (P := Tryd.prog) w 29 9 5 a cap [] Tryd.underlying29 Tryd.underlying5 Tryd.underlying9 (fun j hj => by simp at hj)
      refine h.trans ?_
      congr 2
      unfold str; rfl
  · obtain ⟨b, o, rfl, hc⟩ := hr.at h0
    rw [run_convert_bytes_arg w 29 5 Tryd.underlying29 Tryd.underlying5 b o l.length cap (l.map n8) (by simp) (fun i hi => by rw [hc i hi]; simp [List.getD, hi]) 9 Tryd.underlying9, str_nums]
theorem str_nil : ({ data := #[] } : ByteArray) = str [] := by unfold str; rfl
theorem n64_val {l : List (BitVec 8)} {x : Int} (h : ((val l).toNat : Int) = x) : n64 (val l) = x := by unfold n64; exact h
theorem n32_val {l : List (BitVec 8)} {x : Int} (h : ((val l).toNat : Int) = x) (hl : l.length = 4) : n32 ((val l).setWidth 32) = x := by
  have := val_lt l 4 hl (by omega)
  unfold n32; simp; omega
theorem n16_val {l : List (BitVec 8)} {x : Nat} (h : (val l).toNat = x) (hl : l.length = 2) : n16 ((val l).setWidth 16) = (x : Int) := by
  have := val_lt l 2 hl (by omega)
  unfold n16; simp; omega
/-- What stands in 512 bytes. -/
structure Read (b : List (BitVec 8)) (m24 T : List (BitVec 8)) (E Q P : Int) (N : Nat) (B : List (BitVec 8)) : Prop where
  sec : readS b = ⟨T, E, Q, P, B⟩
  len24 : m24.length = 24
  tlen : T.length = 4
  l24 : (b.drop 4).take 24 = m24
  tag : b.take 4 = T
  body : (b.drop 28).take N = B
  blen : N ≤ 484 → B.length = N
  big : 480 < N → 480 < B.length
  e : n64 (val (m24.take 8)) = E
  q : n64 (val ((m24.drop 8).take 8)) = Q
  p : n32 ((val ((m24.drop 16).take 4)).setWidth 32) = P
  n : n16 ((val ((m24.drop 20).take 2)).setWidth 16) = (N : Int)
  e0 : 0 ≤ E
  e1 : E ≤ 18446744073709551615
  q0 : 0 ≤ Q
  q1 : Q ≤ 18446744073709551615
  p0 : 0 ≤ P
  p1 : P ≤ 4294967295
  n1 : N ≤ 65535
  e' : n64 (val ((b.drop 4).take 8)) = E
  q' : n64 (val ((b.drop 12).take 8)) = Q
  p' : n64 (val ((b.drop 20).take 4)) = P
  n' : n64 (val ((b.drop 24).take 2)) = (N : Int)
theorem read_of (b : List (BitVec 8)) (hb : b.length = 512) : ∃ l24 T E Q P N B, Read b l24 T E Q P N B := by
  have a0 : ((b.drop 4).take 24).take 8 = (b.drop 4).take 8 := by rw [List.take_take]; rfl
  have a1 : (((b.drop 4).take 24).drop 8).take 8 = (b.drop 12).take 8 := by rw [List.drop_take, List.drop_drop, List.take_take]; rfl
  have a2 : (((b.drop 4).take 24).drop 16).take 4 = (b.drop 20).take 4 := by rw [List.drop_take, List.drop_drop, List.take_take]; rfl
  have a3 : (((b.drop 4).take 24).drop 20).take 2 = (b.drop 24).take 2 := by rw [List.drop_take, List.drop_drop, List.take_take]; rfl
  have v0 := val_lt ((b.drop 4).take 8) 8 (by simp; omega) (by omega)
  have v1 := val_lt ((b.drop 12).take 8) 8 (by simp; omega) (by omega)
  have v2 := val_lt ((b.drop 20).take 4) 4 (by simp; omega) (by omega)
  have v3 := val_lt ((b.drop 24).take 2) 2 (by simp; omega) (by omega)
  refine ⟨_, _, _, _, _, (val ((b.drop 24).take 2)).toNat, _, ⟨rfl, by simp; omega, by simp; omega, rfl, rfl, rfl, fun h => by simp; omega, fun h => by simp; omega, ?_, ?_, ?_, ?_, Int.natCast_nonneg _, by omega, Int.natCast_nonneg _, by omega, Int.natCast_nonneg _, by omega, by omega, n64_val rfl, n64_val rfl, n64_val rfl, n64_val rfl⟩⟩
  · rw [a0]; exact n64_val rfl
  · rw [a1]; exact n64_val rfl
  · rw [a2]; exact n32_val rfl (by simp; omega)
  · rw [a3]; exact n16_val rfl (by simp; omega)
theorem fits_read {b l24 T : List (BitVec 8)} {E Q P : Int} {N : Nat} {B : List (BitVec 8)} (h : Read b l24 T E Q P N B) (h1 : E ≤ 4611686018427387904) (h2 : Q ≤ 4611686018427387904) (h4 : N ≤ 480) : Sec.fits ⟨T, E, Q, P, B⟩ :=
  ⟨by have := h.blen (by omega); simp only; omega, by have := h.e0; simp only; omega, by simp only; omega, by have := h.q0; simp only; omega, by simp only; omega, by have := h.p0; simp only; omega, by have := h.p1; simp only; omega⟩
theorem get_not {b l24 T : List (BitVec 8)} {E Q P : Int} {N : Nat} {B : List (BitVec 8)} (h : Read b l24 T E Q P N B) (hn : Sec.may ⟨T, E, Q, P, B⟩ = false ∨ Sec.bytes ⟨T, E, Q, P, B⟩ ≠ b) : getV b = Sec.zero ∧ getE b = 117 := by
  refine getV_none (getS_no ?_)
  rw [h.sec]
  rintro ⟨h1, h2⟩
  rcases hn with h3 | h3
  · rw [h3] at h1; cases h1
  · exact h3 h2
theorem may_not {b l24 T : List (BitVec 8)} {E Q P : Int} {N : Nat} {B : List (BitVec 8)} (h : Read b l24 T E Q P N B) (hn : ¬ (E ≤ 4611686018427387904 ∧ Q ≤ 4611686018427387904 ∧ P < 8192 ∧ N ≤ 480)) : Sec.may ⟨T, E, Q, P, B⟩ = false := by
  cases hm : Sec.may ⟨T, E, Q, P, B⟩ with
  | false => rfl
  | true =>
    obtain ⟨_, ⟨_, h1⟩, ⟨_, h2⟩, ⟨_, h3⟩, h4⟩ := may_iff.1 hm
    simp only at h1 h2 h3 h4
    refine absurd ⟨h1, h2, by omega, ?_⟩ hn
    have := h.big
    omega
theorem newReader' (ao : Option Addr) (l : List (BitVec 8)) (n cap : Nat) (w : World) (hn : l.length = n) (hl : n ≤ 140737488351232) (hr : Rd w ao l) :
   Calls Tryd.prog 77 #[.slice ao n cap] w fun e w' => ∃ p g, e = .returned (.pointer (some ⟨p, 0, none⟩)) ∧ w.heap.size ≤ p ∧ w.heap.size ≤ g ∧ Rdr w' p g l 0 0 ∧ Below w.heap.size w w' := by
  subst hn
  exact newReader ao l cap w hl hr
theorem secPut' (T : List (BitVec 8)) (E Q P : Int) (B : List (BitVec 8)) (ao : Option Addr) (N cap : Nat) (w : World) (hN : B.length = N) (hf : Sec.fits ⟨T, E, Q, P, B⟩) (hr : Rd w ao B) (ht : Tab w) (hT : 0 < w.heap.size) :
   Calls Tryd.prog 71 #[.agg #[.string (str T), .int .i64 E, .int .i64 Q, .int .i64 P, .slice ao N cap]] w fun e w' => ∃ ar cr, e = .returned (.tuple #[.slice ar (putS ⟨T, E, Q, P, B⟩).length cr, .int .i64 (putE ⟨T, E, Q, P, B⟩)]) ∧ Mine w' w.heap.size 5 ar cr (putS ⟨T, E, Q, P, B⟩) ∧ Below w.heap.size w w' := by
  subst hN
  exact secPut ⟨T, E, Q, P, B⟩ ao cap w hf hr ht hT
set_option maxRecDepth 100000 in
set_option maxHeartbeats 4000000 in
theorem secGet (b : List (BitVec 8)) (ao : Option Addr) (n cap : Nat) (w : World) (hn : b.length = n) (hcap : n ≤ cap) (hr : Rd w ao b) (ht : Tab w) (hT : 0 < w.heap.size) :
   Calls Tryd.prog 76 #[.slice ao n cap] w fun e w' => ∃ ar cr, e = .returned (.tuple #[(getV b).val ar cr, .int .i64 (getE b)]) ∧ Mine w' w.heap.size 5 ar cr (getV b).body ∧ Below w.heap.size w w' := by
  obtain ⟨i0, hi, hz0, hz1, hz2⟩ := info_parts info_u8
  by_cases h512 : n = 512
  · subst h512
    obtain ⟨l24, T, E, Q, P, N, B, hR⟩ := read_of b hn
    have HR := Lib.hid hR
    have HL24 := Lib.hid hR.len24
    have he0 := hR.e0
    have he1 := hR.e1
    have hq0 := hR.q0
    have hq1 := hR.q1
    have hp0 := hR.p0
    have hp1 := hR.p1
    have hn1 := hR.n1
    obtain ⟨blk, off, rfl, hcell⟩ := hr.at (by omega)
    have hr24 := (hr.drop 4).take 24
    rw [hR.l24] at hr24
    have hrT := hr.take 4
    rw [hR.tag] at hrT
    have hrB := (hr.drop 28).take N
    rw [hR.body] at hrB
    have HRB := Lib.hid (fun (w' : World) (hb : Below w.heap.size w w') => hr.on hb)
    have HR24 := Lib.hid (fun (w' : World) (hb : Below w.heap.size w w') => hr24.on hb)
    have HRT := Lib.hid (fun (w' : World) (hb : Below w.heap.size w w') => hrT.on hb)
    have HRBd := Lib.hid (fun (w' : World) (hb : Below w.heap.size w w') => hrB.on hb)
    have HTB := Lib.hid (fun (w' : World) (hb : Below w.heap.size w w') => (⟨ht.below hb hT, Nat.lt_of_lt_of_le hT hb.size⟩ : _ ∧ _))
    have HBl := Lib.hid hn
    clear hr hr24 hrT hrB hcell ht hT hn hR
    go_enter Tryd.func76, Tryd.ntmps76
    go_wp2_with fail
    generalize hU : (w.alloc (.cells #[.string { data := #[] }, .int .i64 0, .int .i64 0, .int .i64 0, .slice none 0 0] 33 (0, 0))) = U1
    have h0 := (Bag.start w).allocAt #[.string { data := #[] }, .int .i64 0, .int .i64 0, .int .i64 0, .slice none 0 0] 33 (w.heap.size) rfl
    rw [hU] at h0
    have HB := Lib.hid h0
    clear h0 hU
    refine (newReader' (some ⟨blk, off + 4, none⟩) l24 24 24 _ HL24.out (by decide) (HR24.out _ HB.out.below)).mono ?_
    rintro e W2 ⟨p, g, rfl, hp, hg, hrd, hb⟩
    have h0 := HB.out.rdr hb hp hg hrd
    clear HB
    have HB := Lib.hid h0
    clear h0
    clear hb hp hg hrd
    go_wp2_with fail
    refine (getYes64 (l := l24) (k := 0) (HB.out.rdrAt 0 rfl) (by rw [HL24.out]; decide) (by rw [HL24.out]; decide)).mono ?_
    rintro e W3 ⟨rfl, hrd, ho⟩
    have h0 := HB.out.rdrTurn 0 rfl ho hrd
    simp only [List.set_cons_zero] at h0
    clear HB
    have HB := Lib.hid h0
    clear h0
    clear ho hrd
    go_wp2_with fail
    refine (getYes64 (l := l24) (k := 8) (HB.out.rdrAt 0 rfl) (by rw [HL24.out]; decide) (by rw [HL24.out]; decide)).mono ?_
    rintro e W4 ⟨rfl, hrd, ho⟩
    have h0 := HB.out.rdrTurn 0 rfl ho hrd
    simp only [List.set_cons_zero] at h0
    clear HB
    have HB := Lib.hid h0
    clear h0
    clear ho hrd
    go_wp2_with fail
    refine (getYes32 (l := l24) (k := 16) (HB.out.rdrAt 0 rfl) (by rw [HL24.out]; decide) (by rw [HL24.out]; decide)).mono ?_
    rintro e W5 ⟨rfl, hrd, ho⟩
    have h0 := HB.out.rdrTurn 0 rfl ho hrd
    simp only [List.set_cons_zero] at h0
    clear HB
    have HB := Lib.hid h0
    clear h0
    clear ho hrd
    go_wp2_with fail
    refine (getYes16 (l := l24) (k := 20) (HB.out.rdrAt 0 rfl) (by rw [HL24.out]; decide) (by rw [HL24.out]; decide)).mono ?_
    rintro e W6 ⟨rfl, hrd, ho⟩
    have h0 := HB.out.rdrTurn 0 rfl ho hrd
    simp only [List.set_cons_zero] at h0
    clear HB
    have HB := Lib.hid h0
    clear h0
    clear ho hrd
    rw [HR.out.e, HR.out.q, HR.out.p, HR.out.n]
    by_cases c1 : E ≤ 4611686018427387904
    · by_cases c2 : Q ≤ 4611686018427387904
      · by_cases c3 : P < 8192
        · by_cases c4 : N ≤ 480
          · have hcv := cvRun W6 (some ⟨blk, off, none⟩) T 4 4 HR.out.tlen (HRT.out _ HB.out.below)
            have HBL := Lib.hid (HR.out.blen (by omega))
            by_cases c0 : N = 0
            · obtain rfl : N = 0 := by omega
              have HNil := Lib.hid (List.length_eq_zero_iff.1 HBL.out)
              go_wp2_with fail
              generalize hU : W6.alloc (.cells #[.string (str T), .int .i64 E, .int .i64 Q, .int .i64 P, .slice none 0 0] 33 (0, 0)) = U7
              have h0 := HB.out.alloc #[.string (str T), .int .i64 E, .int .i64 Q, .int .i64 P, .slice none 0 0] 33
              rw [hU] at h0
              clear HB
              have HB := Lib.hid h0
              clear h0
              clear hU
              refine (secPut' T E Q P B none 0 0 _ HBL.out (fits_read HR.out c1 c2 c4) (by rw [HNil.out]; exact Rd.nil _ _) (HTB.out _ HB.out.below).1 (HTB.out _ HB.out.below).2).mono ?_
              rintro e W8 ⟨ap, cp, rfl, Mx, hb⟩
              have h0 := HB.out.mine hb Mx
              clear HB
              have HB := Lib.hid h0
              clear h0
              clear Mx
              clear hb
              obtain ⟨pl, hpl⟩ : ∃ pl, putS ⟨T, E, Q, P, B⟩ = pl := ⟨_, rfl⟩
              obtain ⟨pe, hpe⟩ : ∃ pe, putE ⟨T, E, Q, P, B⟩ = pe := ⟨_, rfl⟩
              have hx : Bag w W8 _ := HB.out
              rw [hpl] at hx
              clear HB
              have HB := Lib.hid hx
              clear hx
              rw [hpl, hpe]
              cases hmay : Sec.may ⟨T, E, Q, P, B⟩ with
              | false =>
                have hm0 : Sec.may ⟨T, E, Q, P, B⟩ = false := by simpa using hmay
                obtain ⟨hg1, hg2⟩ := get_not HR.out (Or.inl hm0)
                have HG2 := Lib.hid hg2
                have HG1 := Lib.hid hg1
                obtain rfl : pe = 117 := by rw [← hpe]; simp [putE, hm0]
                clear hg1 hg2 hmay hm0 hpl hpe
                obtain ⟨qr_0, qr_1, qr_2, qr_3, qr_4, qr_f⟩ := cells5 (HB.out.box 3 rfl)
                have qr_l := HB.out.boxLt 3 rfl
                go_wp2_with fail
                generalize hU : (((((W8.setCell ⟨w.heap.size, 0, none⟩ (.string { data := #[] })).setCell ⟨w.heap.size, 1, none⟩ (.int .i64 0)).setCell ⟨w.heap.size, 2, none⟩ (.int .i64 0)).setCell ⟨w.heap.size, 3, none⟩ (.int .i64 0)).setCell ⟨w.heap.size, 4, none⟩ (.slice none 0 0)) = U9
                clear qr_0 qr_1 qr_2 qr_3 qr_4 qr_f qr_l
                have h0 := HB.out.store 3 rfl [.string { data := #[] }, .int .i64 0, .int .i64 0, .int .i64 0, .slice none 0 0] rfl
                rw [show Bag.setAll W8 (w.heap.size) 0 [.string { data := #[] }, .int .i64 0, .int .i64 0, .int .i64 0, .slice none 0 0] = U9 from hU] at h0
                simp only [List.set_cons_zero, List.set_cons_succ] at h0
                clear HB
                have HB := Lib.hid h0
                clear h0
                clear hU
                obtain ⟨qr_0, qr_1, qr_2, qr_3, qr_4, qr_f⟩ := cells5 (HB.out.box 3 rfl)
                have qr_l := HB.out.boxLt 3 rfl
                refine bodyPost_ret (v := .tuple #[.agg #[.string { data := #[] }, .int .i64 0, .int .i64 0, .int .i64 0, .slice none 0 0], .int .i64 117]) (by simp [results, Tryd.results76, go_sem, qr_0, qr_1, qr_2, qr_3, qr_4]) rfl ?_
                rw [HG1.out, HG2.out]
                unfold Sec.val Sec.zero
                rw [← str_nil]
                exact ⟨none, 0, rfl, Or.inl ⟨rfl, rfl, rfl⟩, HB.out.below⟩
              | true =>
                have hm1 : Sec.may ⟨T, E, Q, P, B⟩ = true := hmay
                obtain rfl : pe = 0 := by rw [← hpe]; simp [putE, hm1]
                obtain rfl : pl = Sec.bytes ⟨T, E, Q, P, B⟩ := by rw [← hpl]; simp [putS, hm1]
                have hbl := bytes_len hm1
                obtain ⟨ob, hob⟩ : ∃ ob, Sec.bytes ⟨T, E, Q, P, B⟩ = ob := ⟨_, rfl⟩
                have hx : Bag w W8 _ := HB.out
                rw [hob] at hx hbl ⊢
                clear HB
                have HB := Lib.hid hx
                clear hx
                have hcv1 := cvRun W8 ap ob ob.length cp rfl (HB.out.mineRd 0 rfl)
                have hcv2 := cvRun W8 (some ⟨blk, off, none⟩) b 512 cap HBl.out (HRB.out _ HB.out.below)
                have HPl := Lib.hid hpl
                have HPe := Lib.hid hpe
                have HOb := Lib.hid hob
                have HM := Lib.hid hm1
                clear hpl hpe hob hbl hm1 hmay
                by_cases hbb : ob = b
                · obtain ⟨hg1, hg2⟩ := getV_some (getS_yes (by rw [HR.out.sec]; exact HM.out) (by rw [HR.out.sec, HOb.out]; exact hbb))
                  rw [HR.out.sec] at hg1
                  have HG2 := Lib.hid hg2
                  have HG1 := Lib.hid hg1
                  have hbx : (ob == b) = true := by rw [beq_iff_eq]; exact hbb
                  clear hg1 hg2 hbb
                  obtain ⟨qs_0, qs_1, qs_2, qs_3, qs_4, qs_f⟩ := cells5 (HB.out.box 1 rfl)
                  have qs_l := HB.out.boxLt 1 rfl
                  obtain ⟨qr_0, qr_1, qr_2, qr_3, qr_4, qr_f⟩ := cells5 (HB.out.box 3 rfl)
                  have qr_l := HB.out.boxLt 3 rfl
                  have nr_s := HB.out.boxNe 3 1 rfl rfl (by decide)
                  go_wp2_with fail
                  generalize hU : (((((W8.setCell ⟨w.heap.size, 0, none⟩ (.string (str T))).setCell ⟨w.heap.size, 1, none⟩ (.int .i64 E)).setCell ⟨w.heap.size, 2, none⟩ (.int .i64 Q)).setCell ⟨w.heap.size, 3, none⟩ (.int .i64 P)).setCell ⟨w.heap.size, 4, none⟩ (.slice none 0 0)) = U9
                  clear qs_0 qs_1 qs_2 qs_3 qs_4 qs_f qs_l qr_0 qr_1 qr_2 qr_3 qr_4 qr_f qr_l nr_s
                  have h0 := HB.out.store 3 rfl [.string (str T), .int .i64 E, .int .i64 Q, .int .i64 P, .slice none 0 0] rfl
                  rw [show Bag.setAll W8 (w.heap.size) 0 [.string (str T), .int .i64 E, .int .i64 Q, .int .i64 P, .slice none 0 0] = U9 from hU] at h0
                  simp only [List.set_cons_zero, List.set_cons_succ] at h0
                  clear HB
                  have HB := Lib.hid h0
                  clear h0
                  clear hU
                  obtain ⟨qr_0, qr_1, qr_2, qr_3, qr_4, qr_f⟩ := cells5 (HB.out.box 3 rfl)
                  have qr_l := HB.out.boxLt 3 rfl
                  refine bodyPost_ret (v := .tuple #[.agg #[.string (str T), .int .i64 E, .int .i64 Q, .int .i64 P, .slice none 0 0], .int .i64 0]) (by simp [results, Tryd.results76, go_sem, qr_0, qr_1, qr_2, qr_3, qr_4]) rfl ?_
                  rw [HG1.out, HG2.out]
                  refine ⟨none, 0, ?_, ?_, HB.out.below⟩
                  · unfold Sec.val
                    simp only [HBL.out]
                  · exact Or.inl ⟨HNil.out, rfl, rfl⟩
                · obtain ⟨hg1, hg2⟩ := get_not HR.out (Or.inr (by rw [HOb.out]; exact hbb))
                  have HG2 := Lib.hid hg2
                  have HG1 := Lib.hid hg1
                  have hbx : (ob == b) = false := by rw [beq_eq_false_iff_ne]; exact hbb
                  clear hg1 hg2 hbb
                  obtain ⟨qr_0, qr_1, qr_2, qr_3, qr_4, qr_f⟩ := cells5 (HB.out.box 3 rfl)
                  have qr_l := HB.out.boxLt 3 rfl
                  go_wp2_with fail
                  generalize hU : (((((W8.setCell ⟨w.heap.size, 0, none⟩ (.string { data := #[] })).setCell ⟨w.heap.size, 1, none⟩ (.int .i64 0)).setCell ⟨w.heap.size, 2, none⟩ (.int .i64 0)).setCell ⟨w.heap.size, 3, none⟩ (.int .i64 0)).setCell ⟨w.heap.size, 4, none⟩ (.slice none 0 0)) = U9
                  clear qr_0 qr_1 qr_2 qr_3 qr_4 qr_f qr_l
                  have h0 := HB.out.store 3 rfl [.string { data := #[] }, .int .i64 0, .int .i64 0, .int .i64 0, .slice none 0 0] rfl
                  rw [show Bag.setAll W8 (w.heap.size) 0 [.string { data := #[] }, .int .i64 0, .int .i64 0, .int .i64 0, .slice none 0 0] = U9 from hU] at h0
                  simp only [List.set_cons_zero, List.set_cons_succ] at h0
                  clear HB
                  have HB := Lib.hid h0
                  clear h0
                  clear hU
                  obtain ⟨qr_0, qr_1, qr_2, qr_3, qr_4, qr_f⟩ := cells5 (HB.out.box 3 rfl)
                  have qr_l := HB.out.boxLt 3 rfl
                  refine bodyPost_ret (v := .tuple #[.agg #[.string { data := #[] }, .int .i64 0, .int .i64 0, .int .i64 0, .slice none 0 0], .int .i64 117]) (by simp [results, Tryd.results76, go_sem, qr_0, qr_1, qr_2, qr_3, qr_4]) rfl ?_
                  rw [HG1.out, HG2.out]
                  unfold Sec.val Sec.zero
                  rw [← str_nil]
                  exact ⟨none, 0, rfl, Or.inl ⟨rfl, rfl, rfl⟩, HB.out.below⟩
            · have hN0 : (0 : Int) < (N : Int) := by omega
              obtain ⟨Z, hZ⟩ : ∃ Z, List.replicate N 0#8 = Z := ⟨_, rfl⟩
              have hZl : Z.length = N := by rw [← hZ]; exact List.length_replicate
              have HZ := Lib.hid hZ
              have HZl := Lib.hid hZl
              clear hZ hZl
              go_wp2_with (at_make; go_loud (refine wpList_make_zeros rfl _ _ 29 rfl 5 i0 Tryd.underlying29 hi hz0 hz1 hz2 .i64 .i64 N rfl rfl (by omega) Z HZ.out ?_))
              intro W7 hO hb
              have hb1 : Below (W6.alloc (.cells #[.string (str T), .int .i64 E, .int .i64 Q, .int .i64 P, .slice none 0 0] 33 (0, 0))).heap.size (W6.alloc (.cells #[.string (str T), .int .i64 E, .int .i64 Q, .int .i64 P, .slice none 0 0] 33 (0, 0))) W7 := by rw [alloc_size]; exact hb
              have h0 := (HB.out.alloc #[.string (str T), .int .i64 E, .int .i64 Q, .int .i64 P, .slice none 0 0] 33).own hb1 hO (by rw [alloc_size]; exact Nat.le_refl _)
              clear HB
              have HB := Lib.hid h0
              clear h0
              clear hb hb1 hO
              generalize hgb : W6.heap.size + 1 = gb at *
              clear hgb
              obtain ⟨qs_0, qs_1, qs_2, qs_3, qs_4, qs_f⟩ := cells5 (HB.out.box 1 rfl)
              have qs_l := HB.out.boxLt 1 rfl
              have hw1 := wrapI64 (28 + (N : Int)) (by omega) (by omega)
              have hw0 : (0 : Int) ≤ 28 + (N : Int) := by omega
              have hw3 : (28 + (N : Int)).toNat = 28 + N := by omega
              have hw2 : (28 : Int) + (N : Int) ≤ (cap : Int) := by omega
              have hw4 : (28 : Int) ≤ 28 + (N : Int) := by omega
              go_wp2_with fail
              generalize hU : W7.setCell ⟨W6.heap.size, 4, none⟩ (.slice (some ⟨gb, 0, none⟩) N N) = U8
              clear qs_0 qs_1 qs_2 qs_3 qs_4 qs_f qs_l
              have h0 := HB.out.put 1 rfl 4 (.slice (some ⟨gb, 0, none⟩) N N)
              rw [hU, show It.box (W6.heap.size) (Array.setIfInBounds #[.string (str T), .int .i64 E, .int .i64 Q, .int .i64 P, .slice none 0 0] 4 (.slice (some ⟨gb, 0, none⟩) N N)) 33 = It.box (W6.heap.size) #[.string (str T), .int .i64 E, .int .i64 Q, .int .i64 P, .slice (some ⟨gb, 0, none⟩) N N] 33 from rfl] at h0
              simp only [List.set_cons_zero, List.set_cons_succ] at h0
              clear HB
              have HB := Lib.hid h0
              clear h0
              clear hU
              obtain ⟨qs_0, qs_1, qs_2, qs_3, qs_4, qs_f⟩ := cells5 (HB.out.box 1 rfl)
              have qs_l := HB.out.boxLt 1 rfl
              go_still_tail 8, (by kernel_rfl)
              change wpList _ _ _ _ _ U8.drew
              clear qs_0 qs_1 qs_2 qs_3 qs_4 qs_f qs_l
              generalize hU : U8.drew = U9
              have h0 := HB.out.drew
              rw [hU] at h0
              clear HB
              have HB := Lib.hid h0
              clear h0
              clear hU
              refine wpList_copy_at rfl (.tmp 59) (.tmp 65) 29 29 rfl 5 i0 Tryd.underlying29 hi hz1 gb 0 N N (some ⟨gb, 0, none⟩) (some ⟨blk, off + 28, none⟩) N N ?hd2 ?hs2 N 5 Z B (HB.out.mineOwn 0 rfl) (fun _ => rfl) (HRBd.out _ HB.out.below) HBL.out (Nat.le_refl _) (by rw [HZl.out]; omega) ?_
              case hd2 => rfl
              case hs2 => rfl
              intro W10 hO hs hb
              have hsp : splice Z 0 B = B := by simp [splice, HBL.out, HZl.out]
              rw [hsp] at hO
              clear hsp hs hw0 hw1 hw2 hw3 hw4
              have h0 := HB.out.row 0 rfl hb hO
              simp only [List.set_cons_zero] at h0
              clear HB
              have HB := Lib.hid h0
              clear h0
              clear hb hO
              go_simp
              obtain ⟨qs_0, qs_1, qs_2, qs_3, qs_4, qs_f⟩ := cells5 (HB.out.box 1 rfl)
              have qs_l := HB.out.boxLt 1 rfl
              go_wp2_with fail
              clear qs_0 qs_1 qs_2 qs_3 qs_4 qs_f qs_l
              refine (secPut' T E Q P B (some ⟨gb, 0, none⟩) N N _ HBL.out (fits_read HR.out c1 c2 c4) (HB.out.mineRd 0 rfl) (HTB.out _ HB.out.below).1 (HTB.out _ HB.out.below).2).mono ?_
              rintro e W11 ⟨ap, cp, rfl, Mx, hb⟩
              have h0 := HB.out.mine hb Mx
              clear HB
              have HB := Lib.hid h0
              clear h0
              clear Mx
              clear hb
              obtain ⟨pl, hpl⟩ : ∃ pl, putS ⟨T, E, Q, P, B⟩ = pl := ⟨_, rfl⟩
              obtain ⟨pe, hpe⟩ : ∃ pe, putE ⟨T, E, Q, P, B⟩ = pe := ⟨_, rfl⟩
              have hx : Bag w W11 _ := HB.out
              rw [hpl] at hx
              clear HB
              have HB := Lib.hid hx
              clear hx
              rw [hpl, hpe]
              cases hmay : Sec.may ⟨T, E, Q, P, B⟩ with
              | false =>
                have hm0 : Sec.may ⟨T, E, Q, P, B⟩ = false := by simpa using hmay
                obtain ⟨hg1, hg2⟩ := get_not HR.out (Or.inl hm0)
                have HG2 := Lib.hid hg2
                have HG1 := Lib.hid hg1
                obtain rfl : pe = 117 := by rw [← hpe]; simp [putE, hm0]
                clear hg1 hg2 hmay hm0 hpl hpe
                obtain ⟨qr_0, qr_1, qr_2, qr_3, qr_4, qr_f⟩ := cells5 (HB.out.box 4 rfl)
                have qr_l := HB.out.boxLt 4 rfl
                go_wp2_with fail
                generalize hU : (((((W11.setCell ⟨w.heap.size, 0, none⟩ (.string { data := #[] })).setCell ⟨w.heap.size, 1, none⟩ (.int .i64 0)).setCell ⟨w.heap.size, 2, none⟩ (.int .i64 0)).setCell ⟨w.heap.size, 3, none⟩ (.int .i64 0)).setCell ⟨w.heap.size, 4, none⟩ (.slice none 0 0)) = U12
                clear qr_0 qr_1 qr_2 qr_3 qr_4 qr_f qr_l
                have h0 := HB.out.store 4 rfl [.string { data := #[] }, .int .i64 0, .int .i64 0, .int .i64 0, .slice none 0 0] rfl
                rw [show Bag.setAll W11 (w.heap.size) 0 [.string { data := #[] }, .int .i64 0, .int .i64 0, .int .i64 0, .slice none 0 0] = U12 from hU] at h0
                simp only [List.set_cons_zero, List.set_cons_succ] at h0
                clear HB
                have HB := Lib.hid h0
                clear h0
                clear hU
                obtain ⟨qr_0, qr_1, qr_2, qr_3, qr_4, qr_f⟩ := cells5 (HB.out.box 4 rfl)
                have qr_l := HB.out.boxLt 4 rfl
                refine bodyPost_ret (v := .tuple #[.agg #[.string { data := #[] }, .int .i64 0, .int .i64 0, .int .i64 0, .slice none 0 0], .int .i64 117]) (by simp [results, Tryd.results76, go_sem, qr_0, qr_1, qr_2, qr_3, qr_4]) rfl ?_
                rw [HG1.out, HG2.out]
                unfold Sec.val Sec.zero
                rw [← str_nil]
                exact ⟨none, 0, rfl, Or.inl ⟨rfl, rfl, rfl⟩, HB.out.below⟩
              | true =>
                have hm1 : Sec.may ⟨T, E, Q, P, B⟩ = true := hmay
                obtain rfl : pe = 0 := by rw [← hpe]; simp [putE, hm1]
                obtain rfl : pl = Sec.bytes ⟨T, E, Q, P, B⟩ := by rw [← hpl]; simp [putS, hm1]
                have hbl := bytes_len hm1
                obtain ⟨ob, hob⟩ : ∃ ob, Sec.bytes ⟨T, E, Q, P, B⟩ = ob := ⟨_, rfl⟩
                have hx : Bag w W11 _ := HB.out
                rw [hob] at hx hbl ⊢
                clear HB
                have HB := Lib.hid hx
                clear hx
                have hcv1 := cvRun W11 ap ob ob.length cp rfl (HB.out.mineRd 0 rfl)
                have hcv2 := cvRun W11 (some ⟨blk, off, none⟩) b 512 cap HBl.out (HRB.out _ HB.out.below)
                have HPl := Lib.hid hpl
                have HPe := Lib.hid hpe
                have HOb := Lib.hid hob
                have HM := Lib.hid hm1
                clear hpl hpe hob hbl hm1 hmay
                by_cases hbb : ob = b
                · obtain ⟨hg1, hg2⟩ := getV_some (getS_yes (by rw [HR.out.sec]; exact HM.out) (by rw [HR.out.sec, HOb.out]; exact hbb))
                  rw [HR.out.sec] at hg1
                  have HG2 := Lib.hid hg2
                  have HG1 := Lib.hid hg1
                  have hbx : (ob == b) = true := by rw [beq_iff_eq]; exact hbb
                  clear hg1 hg2 hbb
                  obtain ⟨qs_0, qs_1, qs_2, qs_3, qs_4, qs_f⟩ := cells5 (HB.out.box 2 rfl)
                  have qs_l := HB.out.boxLt 2 rfl
                  obtain ⟨qr_0, qr_1, qr_2, qr_3, qr_4, qr_f⟩ := cells5 (HB.out.box 4 rfl)
                  have qr_l := HB.out.boxLt 4 rfl
                  have nr_s := HB.out.boxNe 4 2 rfl rfl (by decide)
                  go_wp2_with fail
                  generalize hU : (((((W11.setCell ⟨w.heap.size, 0, none⟩ (.string (str T))).setCell ⟨w.heap.size, 1, none⟩ (.int .i64 E)).setCell ⟨w.heap.size, 2, none⟩ (.int .i64 Q)).setCell ⟨w.heap.size, 3, none⟩ (.int .i64 P)).setCell ⟨w.heap.size, 4, none⟩ (.slice (some ⟨gb, 0, none⟩) N N)) = U12
                  clear qs_0 qs_1 qs_2 qs_3 qs_4 qs_f qs_l qr_0 qr_1 qr_2 qr_3 qr_4 qr_f qr_l nr_s
                  have h0 := HB.out.store 4 rfl [.string (str T), .int .i64 E, .int .i64 Q, .int .i64 P, .slice (some ⟨gb, 0, none⟩) N N] rfl
                  rw [show Bag.setAll W11 (w.heap.size) 0 [.string (str T), .int .i64 E, .int .i64 Q, .int .i64 P, .slice (some ⟨gb, 0, none⟩) N N] = U12 from hU] at h0
                  simp only [List.set_cons_zero, List.set_cons_succ] at h0
                  clear HB
                  have HB := Lib.hid h0
                  clear h0
                  clear hU
                  obtain ⟨qr_0, qr_1, qr_2, qr_3, qr_4, qr_f⟩ := cells5 (HB.out.box 4 rfl)
                  have qr_l := HB.out.boxLt 4 rfl
                  refine bodyPost_ret (v := .tuple #[.agg #[.string (str T), .int .i64 E, .int .i64 Q, .int .i64 P, .slice (some ⟨gb, 0, none⟩) N N], .int .i64 0]) (by simp [results, Tryd.results76, go_sem, qr_0, qr_1, qr_2, qr_3, qr_4]) rfl ?_
                  rw [HG1.out, HG2.out]
                  refine ⟨(some ⟨gb, 0, none⟩), N, ?_, ?_, HB.out.below⟩
                  · unfold Sec.val
                    simp only [HBL.out]
                  · exact HB.out.mineMine 1 rfl
                · obtain ⟨hg1, hg2⟩ := get_not HR.out (Or.inr (by rw [HOb.out]; exact hbb))
                  have HG2 := Lib.hid hg2
                  have HG1 := Lib.hid hg1
                  have hbx : (ob == b) = false := by rw [beq_eq_false_iff_ne]; exact hbb
                  clear hg1 hg2 hbb
                  obtain ⟨qr_0, qr_1, qr_2, qr_3, qr_4, qr_f⟩ := cells5 (HB.out.box 4 rfl)
                  have qr_l := HB.out.boxLt 4 rfl
                  go_wp2_with fail
                  generalize hU : (((((W11.setCell ⟨w.heap.size, 0, none⟩ (.string { data := #[] })).setCell ⟨w.heap.size, 1, none⟩ (.int .i64 0)).setCell ⟨w.heap.size, 2, none⟩ (.int .i64 0)).setCell ⟨w.heap.size, 3, none⟩ (.int .i64 0)).setCell ⟨w.heap.size, 4, none⟩ (.slice none 0 0)) = U12
                  clear qr_0 qr_1 qr_2 qr_3 qr_4 qr_f qr_l
                  have h0 := HB.out.store 4 rfl [.string { data := #[] }, .int .i64 0, .int .i64 0, .int .i64 0, .slice none 0 0] rfl
                  rw [show Bag.setAll W11 (w.heap.size) 0 [.string { data := #[] }, .int .i64 0, .int .i64 0, .int .i64 0, .slice none 0 0] = U12 from hU] at h0
                  simp only [List.set_cons_zero, List.set_cons_succ] at h0
                  clear HB
                  have HB := Lib.hid h0
                  clear h0
                  clear hU
                  obtain ⟨qr_0, qr_1, qr_2, qr_3, qr_4, qr_f⟩ := cells5 (HB.out.box 4 rfl)
                  have qr_l := HB.out.boxLt 4 rfl
                  refine bodyPost_ret (v := .tuple #[.agg #[.string { data := #[] }, .int .i64 0, .int .i64 0, .int .i64 0, .slice none 0 0], .int .i64 117]) (by simp [results, Tryd.results76, go_sem, qr_0, qr_1, qr_2, qr_3, qr_4]) rfl ?_
                  rw [HG1.out, HG2.out]
                  unfold Sec.val Sec.zero
                  rw [← str_nil]
                  exact ⟨none, 0, rfl, Or.inl ⟨rfl, rfl, rfl⟩, HB.out.below⟩
          · obtain ⟨hg1, hg2⟩ := get_not HR.out (Or.inl (may_not HR.out (by omega)))
            have HG2 := Lib.hid hg2
            have HG1 := Lib.hid hg1
            clear hg1 hg2
            have c4x : ¬ (N : Int) ≤ 480 := by omega
            obtain ⟨qr_0, qr_1, qr_2, qr_3, qr_4, qr_f⟩ := cells5 (HB.out.box 1 rfl)
            have qr_l := HB.out.boxLt 1 rfl
            go_wp2_with fail
            generalize hU : (((((W6.setCell ⟨w.heap.size, 0, none⟩ (.string { data := #[] })).setCell ⟨w.heap.size, 1, none⟩ (.int .i64 0)).setCell ⟨w.heap.size, 2, none⟩ (.int .i64 0)).setCell ⟨w.heap.size, 3, none⟩ (.int .i64 0)).setCell ⟨w.heap.size, 4, none⟩ (.slice none 0 0)) = U7
            clear qr_0 qr_1 qr_2 qr_3 qr_4 qr_f qr_l
            have h0 := HB.out.store 1 rfl [.string { data := #[] }, .int .i64 0, .int .i64 0, .int .i64 0, .slice none 0 0] rfl
            rw [show Bag.setAll W6 (w.heap.size) 0 [.string { data := #[] }, .int .i64 0, .int .i64 0, .int .i64 0, .slice none 0 0] = U7 from hU] at h0
            simp only [List.set_cons_zero, List.set_cons_succ] at h0
            clear HB
            have HB := Lib.hid h0
            clear h0
            clear hU
            obtain ⟨qr_0, qr_1, qr_2, qr_3, qr_4, qr_f⟩ := cells5 (HB.out.box 1 rfl)
            have qr_l := HB.out.boxLt 1 rfl
            refine bodyPost_ret (v := .tuple #[.agg #[.string { data := #[] }, .int .i64 0, .int .i64 0, .int .i64 0, .slice none 0 0], .int .i64 117]) (by simp [results, Tryd.results76, go_sem, qr_0, qr_1, qr_2, qr_3, qr_4]) rfl ?_
            rw [HG1.out, HG2.out]
            unfold Sec.val Sec.zero
            rw [← str_nil]
            exact ⟨none, 0, rfl, Or.inl ⟨rfl, rfl, rfl⟩, HB.out.below⟩
        · obtain ⟨hg1, hg2⟩ := get_not HR.out (Or.inl (may_not HR.out (by omega)))
          have HG2 := Lib.hid hg2
          have HG1 := Lib.hid hg1
          clear hg1 hg2
          obtain ⟨qr_0, qr_1, qr_2, qr_3, qr_4, qr_f⟩ := cells5 (HB.out.box 1 rfl)
          have qr_l := HB.out.boxLt 1 rfl
          go_wp2_with fail
          generalize hU : (((((W6.setCell ⟨w.heap.size, 0, none⟩ (.string { data := #[] })).setCell ⟨w.heap.size, 1, none⟩ (.int .i64 0)).setCell ⟨w.heap.size, 2, none⟩ (.int .i64 0)).setCell ⟨w.heap.size, 3, none⟩ (.int .i64 0)).setCell ⟨w.heap.size, 4, none⟩ (.slice none 0 0)) = U7
          clear qr_0 qr_1 qr_2 qr_3 qr_4 qr_f qr_l
          have h0 := HB.out.store 1 rfl [.string { data := #[] }, .int .i64 0, .int .i64 0, .int .i64 0, .slice none 0 0] rfl
          rw [show Bag.setAll W6 (w.heap.size) 0 [.string { data := #[] }, .int .i64 0, .int .i64 0, .int .i64 0, .slice none 0 0] = U7 from hU] at h0
          simp only [List.set_cons_zero, List.set_cons_succ] at h0
          clear HB
          have HB := Lib.hid h0
          clear h0
          clear hU
          obtain ⟨qr_0, qr_1, qr_2, qr_3, qr_4, qr_f⟩ := cells5 (HB.out.box 1 rfl)
          have qr_l := HB.out.boxLt 1 rfl
          refine bodyPost_ret (v := .tuple #[.agg #[.string { data := #[] }, .int .i64 0, .int .i64 0, .int .i64 0, .slice none 0 0], .int .i64 117]) (by simp [results, Tryd.results76, go_sem, qr_0, qr_1, qr_2, qr_3, qr_4]) rfl ?_
          rw [HG1.out, HG2.out]
          unfold Sec.val Sec.zero
          rw [← str_nil]
          exact ⟨none, 0, rfl, Or.inl ⟨rfl, rfl, rfl⟩, HB.out.below⟩
      · obtain ⟨hg1, hg2⟩ := get_not HR.out (Or.inl (may_not HR.out (by omega)))
        have HG2 := Lib.hid hg2
        have HG1 := Lib.hid hg1
        clear hg1 hg2
        obtain ⟨qr_0, qr_1, qr_2, qr_3, qr_4, qr_f⟩ := cells5 (HB.out.box 1 rfl)
        have qr_l := HB.out.boxLt 1 rfl
        go_wp2_with fail
        generalize hU : (((((W6.setCell ⟨w.heap.size, 0, none⟩ (.string { data := #[] })).setCell ⟨w.heap.size, 1, none⟩ (.int .i64 0)).setCell ⟨w.heap.size, 2, none⟩ (.int .i64 0)).setCell ⟨w.heap.size, 3, none⟩ (.int .i64 0)).setCell ⟨w.heap.size, 4, none⟩ (.slice none 0 0)) = U7
        clear qr_0 qr_1 qr_2 qr_3 qr_4 qr_f qr_l
        have h0 := HB.out.store 1 rfl [.string { data := #[] }, .int .i64 0, .int .i64 0, .int .i64 0, .slice none 0 0] rfl
        rw [show Bag.setAll W6 (w.heap.size) 0 [.string { data := #[] }, .int .i64 0, .int .i64 0, .int .i64 0, .slice none 0 0] = U7 from hU] at h0
        simp only [List.set_cons_zero, List.set_cons_succ] at h0
        clear HB
        have HB := Lib.hid h0
        clear h0
        clear hU
        obtain ⟨qr_0, qr_1, qr_2, qr_3, qr_4, qr_f⟩ := cells5 (HB.out.box 1 rfl)
        have qr_l := HB.out.boxLt 1 rfl
        refine bodyPost_ret (v := .tuple #[.agg #[.string { data := #[] }, .int .i64 0, .int .i64 0, .int .i64 0, .slice none 0 0], .int .i64 117]) (by simp [results, Tryd.results76, go_sem, qr_0, qr_1, qr_2, qr_3, qr_4]) rfl ?_
        rw [HG1.out, HG2.out]
        unfold Sec.val Sec.zero
        rw [← str_nil]
        exact ⟨none, 0, rfl, Or.inl ⟨rfl, rfl, rfl⟩, HB.out.below⟩
    · obtain ⟨hg1, hg2⟩ := get_not HR.out (Or.inl (may_not HR.out (by omega)))
      have HG2 := Lib.hid hg2
      have HG1 := Lib.hid hg1
      clear hg1 hg2
      obtain ⟨qr_0, qr_1, qr_2, qr_3, qr_4, qr_f⟩ := cells5 (HB.out.box 1 rfl)
      have qr_l := HB.out.boxLt 1 rfl
      go_wp2_with fail
      generalize hU : (((((W6.setCell ⟨w.heap.size, 0, none⟩ (.string { data := #[] })).setCell ⟨w.heap.size, 1, none⟩ (.int .i64 0)).setCell ⟨w.heap.size, 2, none⟩ (.int .i64 0)).setCell ⟨w.heap.size, 3, none⟩ (.int .i64 0)).setCell ⟨w.heap.size, 4, none⟩ (.slice none 0 0)) = U7
      clear qr_0 qr_1 qr_2 qr_3 qr_4 qr_f qr_l
      have h0 := HB.out.store 1 rfl [.string { data := #[] }, .int .i64 0, .int .i64 0, .int .i64 0, .slice none 0 0] rfl
      rw [show Bag.setAll W6 (w.heap.size) 0 [.string { data := #[] }, .int .i64 0, .int .i64 0, .int .i64 0, .slice none 0 0] = U7 from hU] at h0
      simp only [List.set_cons_zero, List.set_cons_succ] at h0
      clear HB
      have HB := Lib.hid h0
      clear h0
      clear hU
      obtain ⟨qr_0, qr_1, qr_2, qr_3, qr_4, qr_f⟩ := cells5 (HB.out.box 1 rfl)
      have qr_l := HB.out.boxLt 1 rfl
      refine bodyPost_ret (v := .tuple #[.agg #[.string { data := #[] }, .int .i64 0, .int .i64 0, .int .i64 0, .slice none 0 0], .int .i64 117]) (by simp [results, Tryd.results76, go_sem, qr_0, qr_1, qr_2, qr_3, qr_4]) rfl ?_
      rw [HG1.out, HG2.out]
      unfold Sec.val Sec.zero
      rw [← str_nil]
      exact ⟨none, 0, rfl, Or.inl ⟨rfl, rfl, rfl⟩, HB.out.below⟩
  · obtain ⟨e1, e2⟩ := getV_none (getS_len (by rw [hn]; exact h512))
    have HG2 := Lib.hid e2
    have HG1 := Lib.hid e1
    clear e1 e2 hr ht hn
    go_enter Tryd.func76, Tryd.ntmps76
    go_wp2_with fail
    generalize hU : (w.alloc (.cells #[.string { data := #[] }, .int .i64 0, .int .i64 0, .int .i64 0, .slice none 0 0] 33 (0, 0))) = U1
    have h0 := (Bag.start w).allocAt #[.string { data := #[] }, .int .i64 0, .int .i64 0, .int .i64 0, .slice none 0 0] 33 (w.heap.size) rfl
    rw [hU] at h0
    have HB := Lib.hid h0
    clear h0 hU
    obtain ⟨qr_0, qr_1, qr_2, qr_3, qr_4, qr_f⟩ := cells5 (HB.out.box 0 rfl)
    have qr_l := HB.out.boxLt 0 rfl
    refine bodyPost_ret (v := .tuple #[.agg #[.string { data := #[] }, .int .i64 0, .int .i64 0, .int .i64 0, .slice none 0 0], .int .i64 117]) (by simp [results, Tryd.results76, go_sem, qr_0, qr_1, qr_2, qr_3, qr_4]) rfl ?_
    rw [HG1.out, HG2.out]
    unfold Sec.val Sec.zero
    rw [← str_nil]
    exact ⟨none, 0, rfl, Or.inl ⟨rfl, rfl, rfl⟩, HB.out.below⟩
theorem Mine.nilCap {w : World} {B : Nat} {e : TypeId} {ao : Option Addr} {cap : Nat} {l : List (BitVec 8)} (h : Mine w B e ao cap l) : ao = none → cap = 0 := by
  rcases h with ⟨_, _, h⟩ | ⟨g, rfl, _⟩
  · intro _; exact h
  · intro h; cases h
theorem Bag.swap {w W : World} {a b : It} {l : List It} (h : Bag w W (a :: b :: l)) : Bag w W (b :: a :: l) := by
  refine h.sub (fun i => if i = 0 then 1 else if i = 1 then 0 else i) ?_ ?_
  · rintro (_ | _ | i) x hx
    · simpa using hx
    · simpa using hx
    · simpa using hx
  · intro i j _ _ hij
    split at hij <;> split at hij <;> (try split at hij) <;> (try split at hij) <;> omega
/-- What Right answers. -/
def rightO (b tag : List (BitVec 8)) (ep sq pl : Int) : Bool := (getS b).isSome && ((getV b).tag == tag && ((getV b).epoch == ep && ((getV b).seq == sq && (getV b).place == pl)))
def rightB (b tag : List (BitVec 8)) (ep sq pl : Int) : List (BitVec 8) := if rightO b tag ep sq pl then (getV b).body else []
theorem right_no {b tag : List (BitVec 8)} {ep sq pl : Int} (h : rightO b tag ep sq pl = false) : rightB b tag ep sq pl = [] := by simp [rightB, h]
theorem right_yes {b tag : List (BitVec 8)} {ep sq pl : Int} (h : rightO b tag ep sq pl = true) : rightB b tag ep sq pl = (getV b).body := by simp [rightB, h]
theorem getE_cases (b : List (BitVec 8)) : ((getS b).isSome = true ∧ getE b = 0) ∨ ((getS b).isSome = false ∧ getE b = 117) := by
  unfold getE
  cases (getS b).isSome
  · exact Or.inr ⟨rfl, by simp⟩
  · exact Or.inl ⟨rfl, by simp⟩
theorem getV_tag {b : List (BitVec 8)} (h : (getS b).isSome = true) : (getV b).tag = b.take 4 := by
  unfold getS at h
  split at h
  · rename_i h1
    unfold getV getS
    rw [if_pos h1]
    rfl
  · cases h
set_option maxHeartbeats 4000000 in
theorem secRight (b : List (BitVec 8)) (ao : Option Addr) (n cap : Nat) (tag : List (BitVec 8)) (ep sq pl : Int) (w : World) (hn : b.length = n) (hcap : n ≤ cap) (hr : Rd w ao b) (ht : Tab w) (hT : 0 < w.heap.size) :
   Calls Tryd.prog 67 #[.slice ao n cap, .string (str tag), .int .i64 ep, .int .i64 sq, .int .i64 pl] w fun e w' => ∃ ar cr, e = .returned (.tuple #[.slice ar (rightB b tag ep sq pl).length cr, .bool (rightO b tag ep sq pl)]) ∧ Mine w' w.heap.size 5 ar cr (rightB b tag ep sq pl) ∧ Below w.heap.size w w' := by
  have HG := fun (W : World) (hb : Below w.heap.size w W) => secGet b ao n cap W hn hcap (hr.on hb) (ht.below hb hT) (Nat.lt_of_lt_of_le hT hb.size)
  obtain ⟨V, hV⟩ : ∃ V, getV b = V := ⟨_, rfl⟩
  obtain ⟨vt, ve, vs, vp, vb⟩ := V
  rw [hV] at HG
  unfold Sec.val at HG
  simp only at HG
  have HV := Lib.hid hV
  clear hV
  go_enter Tryd.func67, Tryd.ntmps67
  go_wp2_with fail
  refine (HG _ (Below.refl _ _)).mono ?_
  rintro e W0 ⟨ar, cr, rfl, Mx, hb⟩
  have HB := Lib.hid ((Bag.start w).mine hb Mx)
  clear Mx hb
  rcases getE_cases b with ⟨he1, he2⟩ | ⟨he1, he2⟩
  · rw [he2]
    have HE := Lib.hid he1
    clear he1 he2 HG
    by_cases d1 : vt = tag
    · subst d1
      by_cases d2 : ve = ep
      · subst d2
        by_cases d3 : vs = sq
        · subst d3
          by_cases d4 : vp = pl
          · subst d4
            have hz : rightO b vt ve vs vp = true := by simp [rightO, HE.out, HV.out]
            have HR0 := Lib.hid hz
            have HR1 := Lib.hid (right_yes hz)
            clear hz
            go_wp2_with fail
            generalize hU : W0.alloc (.cells #[.string (str vt), .int .i64 ve, .int .i64 vs, .int .i64 vp, .slice ar vb.length cr] 33 (0, 0)) = U1
            have h0 := HB.out.alloc #[.string (str vt), .int .i64 ve, .int .i64 vs, .int .i64 vp, .slice ar vb.length cr] 33
            rw [hU] at h0
            clear HB
            have HB := Lib.hid h0
            clear h0
            clear hU
            go_ret2
            rw [HR0.out, HR1.out, HV.out]
            exact ⟨ar, cr, rfl, HB.out.mineMine 1 rfl, HB.out.below⟩
          · have hz : rightO b vt ve vs pl = false := by simp [rightO, HE.out, HV.out, d4]
            have HR0 := Lib.hid hz
            have HR1 := Lib.hid (right_no hz)
            have d4x : (vp != pl) = true := by simp [d4]
            clear hz d4
            go_wp2_with fail
            generalize hU : W0.alloc (.cells #[.string (str vt), .int .i64 ve, .int .i64 vs, .int .i64 vp, .slice ar vb.length cr] 33 (0, 0)) = U1
            have h0 := HB.out.alloc #[.string (str vt), .int .i64 ve, .int .i64 vs, .int .i64 vp, .slice ar vb.length cr] 33
            rw [hU] at h0
            clear HB
            have HB := Lib.hid h0
            clear h0
            clear hU
            go_ret2
            rw [HR0.out, HR1.out]
            exact ⟨none, 0, rfl, Or.inl ⟨rfl, rfl, rfl⟩, HB.out.below⟩
        · have hz : rightO b vt ve sq pl = false := by simp [rightO, HE.out, HV.out, d3]
          have HR0 := Lib.hid hz
          have HR1 := Lib.hid (right_no hz)
          have d3x : (vs != sq) = true := by simp [d3]
          clear hz d3
          go_wp2_with fail
          generalize hU : W0.alloc (.cells #[.string (str vt), .int .i64 ve, .int .i64 vs, .int .i64 vp, .slice ar vb.length cr] 33 (0, 0)) = U1
          have h0 := HB.out.alloc #[.string (str vt), .int .i64 ve, .int .i64 vs, .int .i64 vp, .slice ar vb.length cr] 33
          rw [hU] at h0
          clear HB
          have HB := Lib.hid h0
          clear h0
          clear hU
          go_ret2
          rw [HR0.out, HR1.out]
          exact ⟨none, 0, rfl, Or.inl ⟨rfl, rfl, rfl⟩, HB.out.below⟩
      · have hz : rightO b vt ep sq pl = false := by simp [rightO, HE.out, HV.out, d2]
        have HR0 := Lib.hid hz
        have HR1 := Lib.hid (right_no hz)
        have d2x : (ve != ep) = true := by simp [d2]
        clear hz d2
        go_wp2_with fail
        generalize hU : W0.alloc (.cells #[.string (str vt), .int .i64 ve, .int .i64 vs, .int .i64 vp, .slice ar vb.length cr] 33 (0, 0)) = U1
        have h0 := HB.out.alloc #[.string (str vt), .int .i64 ve, .int .i64 vs, .int .i64 vp, .slice ar vb.length cr] 33
        rw [hU] at h0
        clear HB
        have HB := Lib.hid h0
        clear h0
        clear hU
        go_ret2
        rw [HR0.out, HR1.out]
        exact ⟨none, 0, rfl, Or.inl ⟨rfl, rfl, rfl⟩, HB.out.below⟩
    · have hz : rightO b tag ep sq pl = false := by simp [rightO, HE.out, HV.out, d1]
      have HR0 := Lib.hid hz
      have HR1 := Lib.hid (right_no hz)
      have d1x : (vt == tag) = false := by rw [beq_eq_false_iff_ne]; exact d1
      clear hz d1
      go_wp2_with fail
      generalize hU : W0.alloc (.cells #[.string (str vt), .int .i64 ve, .int .i64 vs, .int .i64 vp, .slice ar vb.length cr] 33 (0, 0)) = U1
      have h0 := HB.out.alloc #[.string (str vt), .int .i64 ve, .int .i64 vs, .int .i64 vp, .slice ar vb.length cr] 33
      rw [hU] at h0
      clear HB
      have HB := Lib.hid h0
      clear h0
      clear hU
      go_ret2
      rw [HR0.out, HR1.out]
      exact ⟨none, 0, rfl, Or.inl ⟨rfl, rfl, rfl⟩, HB.out.below⟩
  · rw [he2]
    have hz : rightO b tag ep sq pl = false := by simp [rightO, he1]
    have HR0 := Lib.hid hz
    have HR1 := Lib.hid (right_no hz)
    clear hz he1 he2 HG
    go_wp2_with fail
    generalize hU : W0.alloc (.cells #[.string (str vt), .int .i64 ve, .int .i64 vs, .int .i64 vp, .slice ar vb.length cr] 33 (0, 0)) = U1
    have h0 := HB.out.alloc #[.string (str vt), .int .i64 ve, .int .i64 vs, .int .i64 vp, .slice ar vb.length cr] 33
    rw [hU] at h0
    clear HB
    have HB := Lib.hid h0
    clear h0
    clear hU
    go_ret2
    rw [HR0.out, HR1.out]
    exact ⟨none, 0, rfl, Or.inl ⟨rfl, rfl, rfl⟩, HB.out.below⟩
theorem drop_app {α : Type} (a b : List α) (n k : Nat) (h : a.length = n) : (a ++ b).drop (n + k) = b.drop k := by
  rw [List.drop_append, List.drop_of_length_le (by omega), List.nil_append]
  congr 1; omega
theorem val_w64 (x : Int) (h0 : 0 ≤ x) (h1 : x ≤ 4611686018427387904) (n : Nat) (hn : n ≤ 8) (hx : x.toNat < 2 ^ (8 * n)) : ((val (be (w64 x) n)).toNat : Int) = x := by
  rw [val_be, BitVec.toNat_and, BitVec.toNat_ofNat]
  have hp : 2 ^ (8 * n) ≤ 2 ^ 64 := Nat.pow_le_pow_right (by decide) (by omega)
  have hp0 : 0 < 2 ^ (8 * n) := Nat.pow_pos (by decide)
  rw [Nat.mod_eq_of_lt (by omega), Nat.and_two_pow_sub_one_eq_mod]
  have : (w64 x).toNat = x.toNat := by simp only [w64, BitVec.toNat_ofNat]; omega
  rw [this, Nat.mod_eq_of_lt hx]
  omega
theorem readS_bytes {S : Sec} (h : S.may = true) : readS S.bytes = S := by
  obtain ⟨htag, ⟨hE0, hE1⟩, ⟨hS0, hS1⟩, ⟨hP0, hP1⟩, hL⟩ := may_iff.1 h
  have htl := tag_len htag
  obtain ⟨T, E, Q, P, B⟩ := S
  simp only at htl hE0 hE1 hS0 hS1 hP0 hP1 hL
  have e : Sec.bytes ⟨T, E, Q, P, B⟩ = T ++ (be (w64 E) 8 ++ (be (w64 Q) 8 ++ (be (w64 P) 4 ++ (be (BitVec.ofNat 64 B.length) 2 ++ ([0#8, 0#8] ++ (B ++ (List.replicate (480 - B.length) 0#8 ++ be ((Crc.sum (Sec.pre ⟨T, E, Q, P, B⟩)).setWidth 64) 4))))))) := by
    simp [Sec.bytes, sealed, Sec.pre, Sec.head, List.append_assoc]
  generalize be ((Crc.sum (Sec.pre ⟨T, E, Q, P, B⟩)).setWidth 64) 4 = s at e
  have bl : ∀ x n, (be x n).length = n := be_length
  have d4 : (Sec.bytes ⟨T, E, Q, P, B⟩).drop 4 = be (w64 E) 8 ++ (be (w64 Q) 8 ++ (be (w64 P) 4 ++ (be (BitVec.ofNat 64 B.length) 2 ++ ([0#8, 0#8] ++ (B ++ (List.replicate (480 - B.length) 0#8 ++ s)))))) := by
    rw [e]; exact drop_app _ _ 4 0 htl
  have d12 : (Sec.bytes ⟨T, E, Q, P, B⟩).drop 12 = be (w64 Q) 8 ++ (be (w64 P) 4 ++ (be (BitVec.ofNat 64 B.length) 2 ++ ([0#8, 0#8] ++ (B ++ (List.replicate (480 - B.length) 0#8 ++ s))))) := by
    rw [show 12 = 4 + 8 from rfl, ← List.drop_drop, d4]; exact drop_app _ _ 8 0 (bl _ _)
  have d20 : (Sec.bytes ⟨T, E, Q, P, B⟩).drop 20 = be (w64 P) 4 ++ (be (BitVec.ofNat 64 B.length) 2 ++ ([0#8, 0#8] ++ (B ++ (List.replicate (480 - B.length) 0#8 ++ s)))) := by
    rw [show 20 = 12 + 8 from rfl, ← List.drop_drop, d12]; exact drop_app _ _ 8 0 (bl _ _)
  have d24 : (Sec.bytes ⟨T, E, Q, P, B⟩).drop 24 = be (BitVec.ofNat 64 B.length) 2 ++ ([0#8, 0#8] ++ (B ++ (List.replicate (480 - B.length) 0#8 ++ s))) := by
    rw [show 24 = 20 + 4 from rfl, ← List.drop_drop, d20]; exact drop_app _ _ 4 0 (bl _ _)
  have d28 : (Sec.bytes ⟨T, E, Q, P, B⟩).drop 28 = B ++ (List.replicate (480 - B.length) 0#8 ++ s) := by
    rw [show 28 = (24 + 2) + 2 from rfl, ← List.drop_drop, ← List.drop_drop, d24]
    have := drop_app (be (BitVec.ofNat 64 B.length) 2) ([0#8, 0#8] ++ (B ++ (List.replicate (480 - B.length) 0#8 ++ s))) 2 0 (bl _ _)
    rw [show (2 : Nat) = 2 + 0 from rfl, this]
    rfl
  have t0 : (Sec.bytes ⟨T, E, Q, P, B⟩).take 4 = T := by rw [e]; exact List.take_left' htl
  have vE := val_w64 E (by omega) hE1 8 (by decide) (by omega)
  have vQ := val_w64 Q (by omega) hS1 8 (by decide) (by omega)
  have vP := val_w64 P (by omega) (by omega) 4 (by decide) (by omega)
  have vN : (val (be (BitVec.ofNat 64 B.length) 2)).toNat = B.length := by
    rw [val_be, BitVec.toNat_and, BitVec.toNat_ofNat, BitVec.toNat_ofNat]
    rw [show (2 ^ (8 * 2) - 1) % 2 ^ 64 = 2 ^ 16 - 1 by decide, Nat.and_two_pow_sub_one_eq_mod]
    omega
  unfold readS
  rw [t0, d4, d12, d20, d24, d28, List.take_left' (bl _ _), List.take_left' (bl _ _), List.take_left' (bl _ _), List.take_left' (bl _ _), vE, vQ, vP, vN, List.take_left' rfl]
theorem getS_bytes {S : Sec} (h : S.may = true) : getS S.bytes = some S := by
  have := getS_yes (b := S.bytes) (by rw [readS_bytes h]; exact h) (by rw [readS_bytes h])
  rw [this, readS_bytes h]
theorem getS_spec {b : List (BitVec 8)} {S : Sec} (h : getS b = some S) : S.may = true ∧ S.bytes = b := by
  unfold getS at h
  split at h
  · rename_i h1
    cases h
    exact h1
  · cases h
/-- Bytes of one length that are not a sector's any more: the first 508 turned so that the sum is another one. -/
theorem getS_sum {S : Sec} (_h : S.may = true) {P : List (BitVec 8)} {q : List (BitVec 8)} (hP : P.length = 508) (hq : q = be ((Crc.sum S.pre).setWidth 64) 4) (hne : Crc.sum P ≠ Crc.sum S.pre) : getS (P ++ q) = none := by
  cases hg : getS (P ++ q) with
  | none => rfl
  | some S' =>
    obtain ⟨h1, h2⟩ := getS_spec hg
    obtain ⟨h3, h4⟩ := List.append_inj (show S'.pre ++ be ((Crc.sum S'.pre).setWidth 64) 4 = P ++ q from h2) (by rw [pre_len h1, hP])
    rw [h3, hq] at h4
    have h5 := be_inj (by decide) (by rw [BitVec.toNat_setWidth]; have := (Crc.sum P).isLt; omega) (by rw [BitVec.toNat_setWidth]; have := (Crc.sum S.pre).isLt; omega) h4
    refine absurd ?_ hne
    have h6 := congrArg (BitVec.setWidth 32) h5
    simpa using h6
theorem getS_tail {S : Sec} (h : S.may = true) {q : List (BitVec 8)} (hq : q ≠ be ((Crc.sum S.pre).setWidth 64) 4) : getS (S.pre ++ q) = none := by
  cases hg : getS (S.pre ++ q) with
  | none => rfl
  | some S' =>
    obtain ⟨h1, h2⟩ := getS_spec hg
    obtain ⟨h3, h4⟩ := List.append_inj (show S'.pre ++ be ((Crc.sum S'.pre).setWidth 64) 4 = S.pre ++ q from h2) (by rw [pre_len h1, pre_len h])
    rw [h3] at h4
    exact absurd h4.symm hq
/-- One byte xored. -/
theorem rg_byte (x : BitVec 8) : ∀ (l : List (BitVec 8)) (i : Nat) (r : BitVec 32), i < l.length → Crc.rg r (l.set i (l.getD i 0#8 ^^^ x)) = Crc.rg r l ^^^ Crc.it (8 * (l.length - i)) (x.setWidth 32) := by
  intro l
  induction l with
  | nil => intro i r h; simp at h
  | cons c l ih =>
    intro i r h
    cases i with
    | zero =>
      have e2 : Crc.tk r (c ^^^ x) = Crc.it 8 (x.setWidth 32) ^^^ Crc.tk r c := by
        unfold Crc.tk
        rw [← Crc.it_xor]
        congr 1
        rw [BitVec.setWidth_xor]; ac_rfl
      simp only [List.set_cons_zero, List.getD_cons_zero]
      rw [Crc.rg_cons, Crc.rg_cons, e2, Crc.rg_xor, ← Crc.it_add, BitVec.xor_comm]
      congr 2
      simp; omega
    | succ i =>
      simp only [List.set_cons_succ, List.getD_cons_succ]
      rw [Crc.rg_cons, Crc.rg_cons, ih i _ (by simpa using h)]
      congr 2
      simp
theorem sum_byte (l : List (BitVec 8)) (i : Nat) (x : BitVec 8) (hi : i < l.length) (hx : x ≠ 0#8) : Crc.sum (l.set i (l.getD i 0#8 ^^^ x)) ≠ Crc.sum l := by
  intro h
  rw [Crc.sum_rg, Crc.sum_rg l, rg_byte x l i _ hi] at h
  have h1 : Crc.it (8 * (l.length - i)) (x.setWidth 32) = 0#32 := by
    have := congrArg (fun y => y ^^^ 4294967295#32 ^^^ Crc.rg (~~~ 0#32) l) h
    simp only [BitVec.xor_assoc] at this
    generalize Crc.it (8 * (l.length - i)) (x.setWidth 32) = z at this
    generalize Crc.rg (~~~ 0#32) l = r at this
    have h2 : r ^^^ (z ^^^ (4294967295#32 ^^^ (4294967295#32 ^^^ r))) = z := by
      rw [← BitVec.xor_assoc 4294967295#32 4294967295#32 r, BitVec.xor_self, BitVec.zero_xor, BitVec.xor_comm z r, ← BitVec.xor_assoc, BitVec.xor_self, BitVec.zero_xor]
    have h3 : r ^^^ (4294967295#32 ^^^ (4294967295#32 ^^^ r)) = 0#32 := by
      rw [← BitVec.xor_assoc 4294967295#32 4294967295#32 r, BitVec.xor_self, BitVec.zero_xor, BitVec.xor_self]
    rw [h2, h3] at this
    exact this
  rw [← Crc.it_zero (8 * (l.length - i))] at h1
  have h2 := Crc.it_inj _ h1
  refine hx ?_
  have h3 := congrArg (BitVec.setWidth 8) h2
  simpa using h3
set_option maxRecDepth 100000 in
theorem getS_turned {S : Sec} (h : S.may = true) (i : Nat) (x : BitVec 8) (hi : i < 512) (hx : x ≠ 0#8) : getS (S.bytes.set i (S.bytes.getD i 0#8 ^^^ x)) = none := by
  have hpl := pre_len h
  have hb : S.bytes = S.pre ++ be ((Crc.sum S.pre).setWidth 64) 4 := rfl
  have hxx : ∀ y : BitVec 8, y ^^^ x ≠ y := by
    intro y e
    apply hx
    have := congrArg (fun z => y ^^^ z) e
    simpa [← BitVec.xor_assoc] using this
  rcases Nat.lt_or_ge i 508 with h1 | h1
  · have e : S.bytes.set i (S.bytes.getD i 0#8 ^^^ x) = S.pre.set i (S.pre.getD i 0#8 ^^^ x) ++ be ((Crc.sum S.pre).setWidth 64) 4 := by
      rw [hb, List.set_append_left _ _ (by omega)]
      congr 3
      simp [List.getD, List.getElem?_append_left (show i < S.pre.length by omega)]
    rw [e]
    exact getS_sum h (by simp [hpl]) rfl (sum_byte _ _ _ (by omega) hx)
  · have e : S.bytes.set i (S.bytes.getD i 0#8 ^^^ x) = S.pre ++ (be ((Crc.sum S.pre).setWidth 64) 4).set (i - 508) ((be ((Crc.sum S.pre).setWidth 64) 4).getD (i - 508) 0#8 ^^^ x) := by
      rw [hb, List.set_append_right _ _ (by omega), hpl]
      congr 3
      simp [List.getD, List.getElem?_append_right (show S.pre.length ≤ i by omega), hpl]
    rw [e]
    refine getS_tail h fun e2 => ?_
    have hl : i - 508 < (be ((Crc.sum S.pre).setWidth 64) 4).length := by rw [be_length]; omega
    have := congrArg (fun l => l.getD (i - 508) 0#8) e2
    simp only [List.getD, List.getElem?_set_self hl, Option.getD_some] at this
    exact hxx _ this
/-- Bits turned among the first 508 bytes, within 32 places. -/
theorem turn_app (l m : List (BitVec 8)) (k : Nat) (h : k < 8 * l.length) : Crc.turn (l ++ m) k = Crc.turn l k ++ m := by
  unfold Crc.turn
  rw [List.set_append_left _ _ (by omega)]
  congr 3
  simp [List.getD, List.getElem?_append_left (show k / 8 < l.length by omega)]
theorem turns_app (ks : List Nat) (m : List (BitVec 8)) : ∀ l : List (BitVec 8), (∀ k ∈ ks, k < 8 * l.length) → Crc.turns (l ++ m) ks = Crc.turns l ks ++ m := by
  induction ks with
  | nil => intro l _; rfl
  | cons k ks ih =>
    intro l h
    show Crc.turns (Crc.turn (l ++ m) k) ks = Crc.turns (Crc.turn l k) ks ++ m
    rw [turn_app l m k (h k (by simp)), ih _ (fun j hj => by rw [Crc.turn_length]; exact h j (by simp [hj]))]
set_option maxRecDepth 100000 in
theorem getS_burst {S : Sec} (h : S.may = true) (b : Nat) (p : BitVec 32) (hb : b < 4064) (hne : Crc.bks b p 4064 32 ≠ []) : getS (Crc.turns S.bytes (Crc.bks b p 4064 32)) = none := by
  have hpl := pre_len h
  have h8 : 8 * S.pre.length = 4064 := by omega
  have hlt : ∀ k ∈ Crc.bks b p 4064 32, k < 8 * S.pre.length := by rw [h8]; exact Crc.bks_lt b p 4064 32
  have e : Crc.turns S.bytes (Crc.bks b p 4064 32) = Crc.turns S.pre (Crc.bks b p 4064 32) ++ be ((Crc.sum S.pre).setWidth 64) 4 := turns_app _ _ _ hlt
  rw [e]
  refine getS_sum h (by rw [Crc.turns_length, hpl]) rfl ?_
  have hs := Crc.sum_burst S.pre b p (by omega)
  rw [h8] at hs
  have hem : (Crc.bks b p 4064 32).isEmpty = false := by
    cases hk : Crc.bks b p 4064 32 with
    | nil => exact absurd hk hne
    | cons _ _ => rfl
  rw [hem] at hs
  intro e2
  rw [e2] at hs
  simp at hs
theorem getVE {S : Sec} (h : S.may = true) : getV S.bytes = S ∧ getE S.bytes = 0 := getV_some (getS_bytes h)
theorem rightO_bytes {S : Sec} (h : S.may = true) (tag : List (BitVec 8)) (ep sq pl : Int) : rightO S.bytes tag ep sq pl = (S.tag == tag && (S.epoch == ep && (S.seq == sq && S.place == pl))) := by
  simp [rightO, getS_bytes h, (getVE h).1]
theorem rightO_none {b : List (BitVec 8)} (h : getS b = none) (tag : List (BitVec 8)) (ep sq pl : Int) : rightO b tag ep sq pl = false := by simp [rightO, h]
theorem putS_yes {S : Sec} (h : S.may = true) : putS S = S.bytes ∧ putE S = 0 := by simp [putS, putE, h]
theorem putS_no {S : Sec} (h : S.may = false) : putS S = [] ∧ putE S = 117 := by simp [putS, putE, h]
theorem getV_len (b : List (BitVec 8)) (_hb : b.length ≤ 65536) : (getV b).body.length ≤ 281474976710656 := by
  unfold getV
  cases hg : getS b with
  | none => simp [Sec.zero]
  | some S =>
    have := (may_iff.1 (getS_spec hg).1).2.2.2.2
    simp; omega
/-- Whatever sign a place has: it is brought among the bits. -/
theorem place (x : Int) (M : Nat) (hM : 0 < M) : -(M : Int) < x.tmod M ∧ x.tmod M < (M : Int) ∧ ∃ i : Nat, i < M ∧ (x.tmod (M : Int) + (M : Int)) % (M : Int) = (i : Int) := by
  have h1 : -(M : Int) < x.tmod M := by have := Int.lt_tmod_of_pos x (b := (M : Int)) (by omega); omega
  have h2 : x.tmod M < (M : Int) := Int.tmod_lt_of_pos x (by omega)
  refine ⟨h1, h2, ?_⟩
  have h3 := Int.emod_nonneg (x.tmod (M : Int) + (M : Int)) (b := (M : Int)) (by omega)
  have h4 := Int.emod_lt_of_pos (x.tmod (M : Int) + (M : Int)) (b := (M : Int)) (by omega)
  exact ⟨_, by omega, (Int.toNat_of_nonneg h3).symm⟩
theorem putYes (S : Sec) (ao : Option Addr) (cap : Nat) (w : World) (hm : S.may = true) (hf : S.fits) (hr : Rd w ao S.body) (ht : Tab w) (hT : 0 < w.heap.size) :
   Calls Tryd.prog 71 #[S.val ao cap] w fun e w' => ∃ g c, e = .returned (.tuple #[.slice (some ⟨g, 0, none⟩) 512 c, .int .i64 0]) ∧ w.heap.size ≤ g ∧ 512 ≤ c ∧ Own w' g c 5 S.bytes ∧ Below w.heap.size w w' := by
  refine (secPut S ao cap w hf hr ht hT).mono ?_
  rintro e w' ⟨ar, cr, rfl, hmi, hb⟩
  rw [(putS_yes hm).1] at hmi
  rw [(putS_yes hm).1, (putS_yes hm).2, bytes_len hm]
  have hle := hmi.le
  rw [bytes_len hm] at hle
  rcases hmi with ⟨h, _⟩ | ⟨g, rfl, hg, ho⟩
  · exact absurd (congrArg List.length h) (by rw [bytes_len hm]; decide)
  · exact ⟨g, cr, rfl, hg, hle, ho, hb⟩
theorem bytes_iff {S T : Sec} (hS : S.may = true) (hT : T.may = true) : (S.bytes == T.bytes) = alikeS S T := by
  rw [Bool.eq_iff_iff, beq_iff_eq, alikeS_iff]
  exact ⟨sec_inj hS hT, fun h => by rw [h]⟩
end Go.Proofs.YthaiibfnjgfgjaaDoor
