/- The reference's Put. -/
import Derived.Test.YtinfhlepjmollaaDoorSecRef
import Derived.Test.YtinfhlepjmollaaDoorSecPut
import Derived.Test.YtinfhlepjmollaaDoorSecMayR
namespace Go.Proofs.YtinfhlepjmollaaDoor
open Go.RowKit
theorem owns_form {w : World} {B e size n : Nat} {v : Value} {xs : List Value} (h : w.ownsRow B e size v n xs) : ∃ ao cap, v = .slice ao n cap ∧ n ≤ cap := by
  rcases h.2 with ⟨rfl, rfl⟩ | ⟨g, cap, cur, rfl, _, _, hc, _⟩
  · exact ⟨none, 0, rfl, Nat.le_refl _⟩
  · exact ⟨_, cap, rfl, hc⟩
def vlen : Value → Nat
  | .slice _ n _ => n
  | _ => 0
theorem owns_mine' {w : World} {B e : Nat} {v : Value} {n : Nat} {l : List (BitVec 8)} (h : w.ownsRow B e 1 v n (bts l)) (hn : l.length = n) : ∃ ao cap, v = .slice ao n cap ∧ Mine w B e ao cap l := by
  subst hn
  exact owns_mine h
theorem refSum' (ao : Option Addr) (l : List (BitVec 8)) (n cap : Nat) (w : World) (hn : l.length = n) (hl : n ≤ 140737488351232) (hr : Rd w ao l) :
   Calls Tryd.prog 33 #[.slice ao n cap] w fun e w' => e = .returned (.int .u32 (n32 (Crc.sum l))) ∧ w = w' := by
  subst hn
  exact refSum ao l cap w hl hr
set_option maxRecDepth 100000 in
set_option maxHeartbeats 1000000 in
theorem refPut (S : Sec) (ao : Option Addr) (cap : Nat) (w : World) (hf : S.fits) (hr : Rd w ao S.body) (hc : ao = none → cap = 0) :
   Calls Tryd.prog 14 #[S.val ao cap] w fun e w' => ∃ ar cr, e = .returned (.tuple #[.slice ar (putS S).length cr, .int .i64 (putE S)]) ∧ Mine w' w.heap.size 5 ar cr (putS S) ∧ Below w.heap.size w w' := by
  obtain ⟨i0, hi, hz0, hz1, hz2⟩ := info_parts info_u8
  have HM := fun (W : World) => refMay S ao cap W hf
  obtain ⟨tag, epoch, seq, place, body⟩ := S
  have hmi := may_iff (S := ⟨tag, epoch, seq, place, body⟩)
  obtain ⟨hl, he0, he1, hs0, hs1, hp0, hp1⟩ := hf
  unfold Sec.val at HM ⊢
  simp only at hl he0 he1 hs0 hs1 hp0 hp1 hr hmi HM ⊢
  obtain ⟨b, hb⟩ : ∃ b, Sec.may ⟨tag, epoch, seq, place, body⟩ = b := ⟨_, rfl⟩
  rw [hb] at HM
  cases b with
  | false =>
    have e1 : putS ⟨tag, epoch, seq, place, body⟩ = [] := by simp [putS, hb]
    have e2 : putE ⟨tag, epoch, seq, place, body⟩ = 117 := by simp [putE, hb]
    rw [e1, e2]
    clear hmi hb e1 e2
    go_enter Tryd.func14, Tryd.ntmps14
    go_wp2_with fail
    refine (HM _).mono ?_
    rintro e w1 ⟨rfl, hb1⟩
    go_wp2_with fail
    go_ret2
    exact ⟨none, 0, rfl, Or.inl ⟨rfl, rfl, rfl⟩, ((Below.refl _ w).alloc (Nat.le_refl _) _).trans (hb1.mono (by simp))⟩
  | true =>
    obtain ⟨htag, ⟨hE0, hE1⟩, ⟨hS0, hS1⟩, ⟨hP0, hP1⟩, hL⟩ := hmi.1 hb
    have HTL := Lib.hid (tag_len htag)
    have e1 : putS ⟨tag, epoch, seq, place, body⟩ = Sec.bytes ⟨tag, epoch, seq, place, body⟩ := by simp [putS, hb]
    have e2 : putE ⟨tag, epoch, seq, place, body⟩ = 0 := by simp [putE, hb]
    have hbl := bytes_len hb
    have hpl := pre_len hb
    have hhl := head_len hb
    have hby : Sec.bytes ⟨tag, epoch, seq, place, body⟩ = Sec.pre ⟨tag, epoch, seq, place, body⟩ ++ be ((Crc.sum (Sec.pre ⟨tag, epoch, seq, place, body⟩)).setWidth 64) 4 := rfl
    have hpe : Sec.pre ⟨tag, epoch, seq, place, body⟩ = Sec.head ⟨tag, epoch, seq, place, body⟩ ++ (body ++ List.replicate (480 - body.length) 0#8) := rfl
    have hhe : Sec.head ⟨tag, epoch, seq, place, body⟩ = (((((tag ++ be (w64 epoch) 8) ++ be (w64 seq) 8) ++ be (w64 place) 4) ++ be (BitVec.ofNat 64 body.length) 2) ++ [0#8, 0#8]) := by simp [Sec.head, List.append_assoc]
    rw [e1, e2, hby]
    obtain ⟨P, hP⟩ : ∃ P, Sec.pre ⟨tag, epoch, seq, place, body⟩ = P := ⟨_, rfl⟩
    obtain ⟨Hd, hHd⟩ : ∃ P, Sec.head ⟨tag, epoch, seq, place, body⟩ = P := ⟨_, rfl⟩
    rw [hP] at hpl hpe hby ⊢
    rw [hHd] at hpe hhl hhe
    have HPl := Lib.hid hpl
    have HPe := Lib.hid hpe
    have HHl := Lib.hid hhl
    have HHe := Lib.hid hhe
    have hE := Lib.hid (n64_w64 epoch (by omega) hE1)
    have hS := Lib.hid (n64_w64 seq (by omega) hS1)
    have hPl := Lib.hid (n64_w64 place (by omega) (by omega))
    have hLn : Hid ((body.length : Int) = n64 (BitVec.ofNat 64 body.length)) := Lib.hid (by unfold n64; simp; omega)
    have hmk : ∀ u, (Instr.makeSlice 22 (.int .i64 0) (.int .i64 512)).run Tryd.prog u = .ok (.slice (some ⟨u.heap.size, 0, none⟩) 0 512) (u.alloc (.cells (madeCells #[.int .u8 0] 512) 5)) := run_make_room 512 (by decide)
    clear hmi e1 e2 hbl hpl hhl hby hpe hhe hP hHd hb
    go_enter Tryd.func14, Tryd.ntmps14
    go_wp2_with fail
    refine (HM _).mono ?_
    rintro e w1 ⟨rfl, hb1⟩
    have HB := Lib.hid ((Bag.start w).alloc #[.string (str tag), .int .i64 epoch, .int .i64 seq, .int .i64 place, .slice ao body.length cap] 24 |>.call hb1)
    clear hb1
    have hrb := hr.on HB.out.below
    have HR := Lib.hid (fun (w' : World) (h : Below w1.heap.size w1 w') => hrb.on h)
    have HX := Lib.hid (fun (w' : World) (h : Below w1.heap.size w1 w') => (⟨cells5 ((HB.out.call h).box 0 rfl), (HB.out.call h).boxLt 0 rfl⟩ : _ ∧ _))
    clear hrb hr
    obtain ⟨⟨q0, q1, q2, q3, q4, qf⟩, ql⟩ := HX.out w1 (Below.refl _ _)
    go_wp2_with (at_builtin; refine wpList_append_str rfl (.tmp 9) (.tmp 11) 22 9 rfl w1.heap.size 5 i0 Tryd.underlying22 Tryd.underlying9 hi hz0 hz1 hz2 _ 0 [] tag rfl (owns_room w1 _ _ 512 (by simp [size_madeCells]) (by decide)) rfl (by rw [HTL.out]; omega) w1.heap.size ((Below.refl _ w1).alloc (Nat.le_refl _) _) (Nat.le_refl _) (by simp) ?_)
    intro v2 w2 ho2 hb2
    have ho2' : w2.ownsRow w1.heap.size 5 1 v2 tag.length (bts tag) := by simpa only [Nat.zero_add, List.nil_append] using ho2
    clear ho2
    clear q0 q1 q2 q3 q4 qf ql
    obtain ⟨⟨q0, q1, q2, q3, q4, qf⟩, ql⟩ := HX.out w2 hb2
    go_wp2_with fail
    have h := refNumber v2 (tag) (tag.length) 8 w1.heap.size (w64 epoch) w1 w2 ho2' hb2 hb2.size (by rw [HTL.out]; decide) (by decide)
    rw [← hE.out] at h
    refine h.mono ?_
    clear h ho2' hb2
    rintro e w3 ⟨v3, rfl, ho3, hb3, _⟩
    clear q0 q1 q2 q3 q4 qf ql
    obtain ⟨⟨q0, q1, q2, q3, q4, qf⟩, ql⟩ := HX.out w3 hb3
    go_wp2_with fail
    have h := refNumber v3 (tag ++ be (w64 epoch) 8) (tag.length + 8) 8 w1.heap.size (w64 seq) w1 w3 ho3 hb3 hb3.size (by rw [HTL.out]; decide) (by decide)
    rw [← hS.out] at h
    refine h.mono ?_
    clear h ho3 hb3
    rintro e w4 ⟨v4, rfl, ho4, hb4, _⟩
    clear q0 q1 q2 q3 q4 qf ql
    obtain ⟨⟨q0, q1, q2, q3, q4, qf⟩, ql⟩ := HX.out w4 hb4
    go_wp2_with fail
    have h := refNumber v4 ((tag ++ be (w64 epoch) 8) ++ be (w64 seq) 8) (tag.length + 8 + 8) 4 w1.heap.size (w64 place) w1 w4 ho4 hb4 hb4.size (by rw [HTL.out]; decide) (by decide)
    rw [← hPl.out] at h
    refine h.mono ?_
    clear h ho4 hb4
    rintro e w5 ⟨v5, rfl, ho5, hb5, _⟩
    clear q0 q1 q2 q3 q4 qf ql
    obtain ⟨⟨q0, q1, q2, q3, q4, qf⟩, ql⟩ := HX.out w5 hb5
    go_wp2_with fail
    have h := refNumber v5 (((tag ++ be (w64 epoch) 8) ++ be (w64 seq) 8) ++ be (w64 place) 4) (tag.length + 8 + 8 + 4) 2 w1.heap.size (BitVec.ofNat 64 body.length) w1 w5 ho5 hb5 hb5.size (by rw [HTL.out]; decide) (by decide)
    rw [← hLn.out] at h
    refine h.mono ?_
    clear h ho5 hb5
    rintro e w6 ⟨v6, rfl, ho6, hb6, _⟩
    clear q0 q1 q2 q3 q4 qf ql
    obtain ⟨⟨q0, q1, q2, q3, q4, qf⟩, ql⟩ := HX.out w6 hb6
    go_wp2_with (at_builtin; refine wpList_append_bytes rfl _ _ 22 rfl w1.heap.size 5 i0 Tryd.underlying22 hi hz0 hz1 hz2 _ (tag.length + 8 + 8 + 4 + 2) ((((tag ++ be (w64 epoch) 8) ++ be (w64 seq) 8) ++ be (w64 place) 4) ++ be (BitVec.ofNat 64 body.length) 2) rfl (ho6.alloc _) (some ⟨w6.heap.size, 0, none⟩) 2 2 [0#8, 0#8] rfl rfl (Rd_new w6 _ _ _ _ (by simp [bts, n8])) (fun h => by cases h) (by rw [HTL.out]; decide) w1.heap.size (hb6.alloc hb6.size _) (Nat.le_refl _) (by have := hb6.size; simp; omega) ?_)
    intro v7 w7 ho7 hb7
    clear ho6 hb6
    have ho8 : w7.ownsRow w1.heap.size 5 1 v7 28 (bts Hd) := by
      rw [HHe.out]
      have h := ho7
      rw [show tag.length + 8 + 8 + 4 + 2 + 2 = 28 by rw [HTL.out]] at h
      simpa only [List.append_assoc] using h
    clear ho7 q0 q1 q2 q3 q4 qf ql
    obtain ⟨⟨q0, q1, q2, q3, q4, qf⟩, ql⟩ := HX.out w7 hb7
    go_wp2_with (at_builtin; refine wpList_append_bytes rfl _ _ 22 rfl w1.heap.size 5 i0 Tryd.underlying22 hi hz0 hz1 hz2 _ 28 Hd rfl ho8 ao body.length cap body rfl rfl (HR.out w7 hb7) hc (by omega) w1.heap.size hb7 (Nat.le_refl _) hb7.size ?_)
    intro v8 w8 ho9 hb8
    clear ho8 hb7 q0 q1 q2 q3 q4 qf ql hmk
    go_wp2_with fail
    go_loopw [4] (fun v wr => ∃ n, 28 + body.length ≤ n ∧ n ≤ 508 ∧ wr.ownsRow w1.heap.size 5 1 v n (bts ((Hd ++ body) ++ List.replicate (n - (28 + body.length)) 0#8)) ∧ Below w1.heap.size w1 wr) (fun v _ => 508 - vlen v)
    case atStart => exact ⟨28 + body.length, Nat.le_refl _, by omega, by simpa using ho9, hb8⟩
    case round =>
      obtain ⟨n, hn1, hn2, hown, hnx⟩ := hrel
      have hll : ((Hd ++ body) ++ List.replicate (n - (28 + body.length)) 0#8).length = n := by
        rw [List.length_append, List.length_append, List.length_replicate, HHl.out]; omega
      obtain ⟨ar, cr, rfl, hmine⟩ := owns_mine' hown hll
      by_cases hlt : n < 508
      · obtain ⟨l1, hl1⟩ : ∃ l1, (Hd ++ body) ++ List.replicate (n - (28 + body.length)) 0#8 = l1 := ⟨_, rfl⟩
        have hl2 : (Hd ++ body) ++ List.replicate (n + 1 - (28 + body.length)) 0#8 = l1 ++ [0#8] := by
          rw [← hl1, show n + 1 - (28 + body.length) = (n - (28 + body.length)) + 1 by omega, List.replicate_succ']
          simp only [List.append_assoc]
        rw [hl1] at hown
        have HL2 := Lib.hid hl2
        clear hl1 hl2 hll hmine
        go_wp2_with (at_builtin; refine wpList_append_bytes rfl _ _ 22 rfl w1.heap.size 5 i0 Tryd.underlying22 hi hz0 hz1 hz2 _ n l1 rfl (hown.alloc _) (some ⟨wr.heap.size, 0, none⟩) 1 1 [0#8] rfl rfl (Rd_new wr _ _ _ _ (by simp [bts, n8])) (fun h => by cases h) (by omega) w1.heap.size (hnx.alloc hnx.size _) (Nat.le_refl _) (by have := hnx.size; simp; omega) ?_)
        intro v9 w9 ho10 hb9
        clear hown hnx
        go_wp2_with fail
        go_roundw
        case rel => exact ⟨n + 1, by omega, by omega, by rw [HL2.out]; exact ho10, hb9⟩
        case measure =>
          obtain ⟨a9, c9, rfl, _⟩ := owns_form ho10
          simp only [vlen]; omega
      · obtain rfl : n = 508 := by omega
        have hl1 : (Hd ++ body) ++ List.replicate (508 - (28 + body.length)) 0#8 = P := by
          rw [HPe.out, List.append_assoc, show 508 - (28 + body.length) = 480 - body.length by omega]
        rw [hl1] at hown hmine
        have HO := Lib.hid hown
        have HMi := Lib.hid hmine
        clear hown hmine hl1 hll
        go_wp2_with fail
        refine (refSum' ar P 508 cr wr HPl.out (by decide) HMi.out.rd).mono ?_
        rintro e w' ⟨rfl, hw⟩
        obtain rfl := hw
        go_wp2_with fail
        refine (refNumber (.slice ar 508 cr) P 508 4 w1.heap.size _ w1 wr HO.out hnx hnx.size (by decide) (by decide)).mono ?_
        rintro e w9 ⟨v9, rfl, ho10, hb9, _⟩
        have hp4 : (P ++ be ((Crc.sum P).setWidth 64) 4).length = 512 := by rw [List.length_append, HPl.out, be_length]
        obtain ⟨a9, c9, rfl, hm9⟩ := owns_mine' ho10 hp4
        have HM9 := Lib.hid hm9
        clear ho10 hm9
        go_wp2_with fail
        go_ret2
        refine ⟨a9, c9, by rw [hp4]; rfl, HM9.out.from HB.out.size, ?_⟩
        exact HB.out.below.trans (hb9.mono HB.out.size)
end Go.Proofs.YtinfhlepjmollaaDoor
