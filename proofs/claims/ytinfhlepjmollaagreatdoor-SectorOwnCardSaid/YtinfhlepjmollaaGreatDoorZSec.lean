/- The sector's contracts, without what this seat lacks. -/
import Derived.Test.YtinfhlepjmollaaGreatDoorSecCopy
import Derived.Test.YtinfhlepjmollaaGreatDoorSBits
import Derived.Test.YtinfhlepjmollaaGreatDoorCrcMaps
import Derived.Test.YtinfhlepjmollaaGreatDoorCut
import Derived.Test.YtinfhlepjmollaaGreatDoorSecPut
import Derived.Test.YtinfhlepjmollaaGreatDoorSecMayR
import Derived.Test.YtinfhlepjmollaaGreatDoorBagKey
import Derived.Lib.SlBytesConst
import Derived.Deep.RegionHeld3
namespace Go.Proofs.YtinfhlepjmollaaGreatDoor
open Go.RowKit
set_option maxRecDepth 20000
theorem refNumber (v : Value) (l : List (BitVec 8)) (k n B : Nat) (x : BitVec 64) (w0 w : World) (hown : w.ownsRow B 5 1 v k (bts l)) (hb : Below B w0 w) (hB : B ≤ w.heap.size) (hl : k ≤ 140737488351232) (hn : n ≤ 8) :
   Calls Tryz.prog 17 #[v, .int .u64 (n64 x), .int .i64 n] w fun e w' => ∃ v', e = .returned v' ∧ w'.ownsRow B 5 1 v' (k + n) (bts (l ++ be x n)) ∧ Below B w0 w' ∧ w.heap.size ≤ w'.heap.size := by
  obtain ⟨i0, hi, hz0, hz1, hz2⟩ := info_parts info_u8
  go_enter Tryz.func17, Tryz.ntmps17
  go_wp2_with fail
  go_loopw [0, 7] (fun v i wr => ∃ (m : Nat) (P : List (BitVec 8)), m ≤ n ∧ P ++ be x m = be x n ∧ i = .int .i64 ((m : Int) - 1) ∧ wr.ownsRow B 5 1 v (k + (n - m)) (bts (l ++ P)) ∧ Below B w0 wr ∧ w.heap.size ≤ wr.heap.size) (fun _ i _ => (intOf i + 1).toNat)
  case atStart => exact ⟨n, [], Nat.le_refl _, rfl, rfl, by simpa using hown, hb, Nat.le_refl _⟩
  case round =>
    obtain ⟨m, P, hm, hP, rfl, hown, hnx, hsz⟩ := hrel
    cases m with
    | zero =>
      have HP := Lib.hid hP
      clear hP
      go_wp2
      go_ret
      refine ⟨_, rfl, ?_, hnx, hsz⟩
      have := HP.out
      simp only [be, List.append_nil] at this
      rw [← this]
      simpa using hown
    | succ m =>
      rw [show (((m + 1 : Nat) : Int)) - 1 = (m : Int) by omega]
      have HP : Hid ((P ++ [(x >>> (8 * m)).setWidth 8]) ++ be x m = be x n) := by show _ = _; rw [← hP]; simp [be]
      have hBr : B ≤ wr.heap.size := by omega
      clear hP
      go_wp2_with (at_builtin; refine wpList_append_bytes rfl _ _ 44 rfl B 5 i0 Tryz.underlying44 hi hz0 hz1 hz2 _ _ (l ++ P) rfl (hown.alloc _) (some ⟨wr.heap.size, 0, none⟩) 1 1 [(x >>> (8 * m)).setWidth 8] rfl rfl (Rd_new wr _ _ _ _ rfl) (fun h => by cases h) (by omega) B (Below.refl B _) (Nat.le_refl _) (by simp; omega) ?_)
      intro v' w2 hown' hb2'
      have hb2 := (hnx.alloc hBr _).trans hb2'
      have hs2 : wr.heap.size + 1 ≤ w2.heap.size := by have := hb2'.size; simpa only [alloc_size] using this
      clear hb2'
      go_wp2_with fail
      go_roundw
      case rel => exact ⟨m, _, by omega, HP.out, by go_num, by rw [show k + (n - m) = k + (n - (m + 1)) + 1 by omega]; exact hown', hb2, by omega⟩
      case measure => simp [intOf]
theorem stp_low (r : BitVec 32) : (n32 (r &&& 1#32) == 1) = r.getLsbD 0 := by
  rw [show (1 : Int) = n32 1#32 from by unfold n32; rfl, n32_beq, Bool.eq_iff_iff, beq_iff_eq]
  constructor
  · intro h
    have := congrArg (fun x => x.getLsbD 0) h
    simpa using this
  · intro h
    ext i hi
    rcases Nat.eq_zero_or_pos i with rfl | h1
    · simpa using h
    · simp; intro; omega
theorem poly_x (a : BitVec 32) : bits .xor .u32 (n32 a) 2197175160 = n32 (a ^^^ Crc.poly) := by
  rw [show (2197175160 : Int) = n32 Crc.poly from by unfold n32; rfl, xor32]
set_option maxHeartbeats 1000000 in
theorem refSum (ao : Option Addr) (l : List (BitVec 8)) (cap : Nat) (w : World) (hl : l.length ≤ 140737488351232) (hr : Rd w ao l) :
   Calls Tryz.prog 18 #[.slice ao l.length cap] w fun e w' => e = .returned (.int .u32 (n32 (Crc.sum l))) ∧ w = w' := by
  have hini : (4294967295 : Int) = n32 (~~~ 0#32) := by unfold n32; rfl
  by_cases hl0 : 0 < l.length
  · obtain ⟨b, o, rfl, hb⟩ := hr.at hl0
    clear hr
    go_enter Tryz.func18, Tryz.ntmps18
    go_wp2
    go_loop [3, 4] (fun r i => ∃ k : Nat, k ≤ l.length ∧ i = .int .i64 k ∧ r = .int .u32 (n32 (Crc.rg (~~~ 0#32) (l.take k)))) (fun _ i => l.length - (intOf i).toNat)
    case atStart => exact ⟨0, Nat.zero_le _, rfl, by simp [Crc.rg, hini]⟩
    case round =>
      obtain ⟨k, hk, rfl, rfl⟩ := hrel
      by_cases hlt : k < l.length
      · have hc := hb k hlt
        have hS := Crc.rg_snoc (~~~ 0#32) l k hlt
        obtain ⟨x, hx⟩ : ∃ x, l.getD k 0#8 = x := ⟨_, rfl⟩
        rw [hx] at hc hS
        have HS := Lib.hid hS
        clear hb hx hS hini
        go_wp2
        go_loop [3, 5] (fun r i => ∃ j : Nat, j ≤ 8 ∧ i = .int .i64 j ∧ r = .int .u32 (n32 (Crc.it j (Crc.rg (~~~ 0#32) (l.take k) ^^^ x.setWidth 32)))) (fun _ i => 8 - (intOf i).toNat)
        case atStart => exact ⟨0, Nat.zero_le _, rfl, by simp [Crc.it]⟩
        case round =>
          obtain ⟨j, hj, rfl, rfl⟩ := hrel
          by_cases hlt2 : j < 8
          · have hit := Crc.it_succ' j (Crc.rg (~~~ 0#32) (l.take k) ^^^ x.setWidth 32)
            generalize Crc.it j (Crc.rg (~~~ 0#32) (l.take k) ^^^ x.setWidth 32) = r at hit ⊢
            have HI := Lib.hid hit
            have h1 := stp_low r
            have h2 := poly_x (r >>> 1)
            clear hit
            cases hb0 : r.getLsbD 0
            · have HT := Lib.hid (Crc.stp_even r hb0)
              rw [hb0] at h1
              clear hb0
              go_wp2
              go_round
              case rel => exact ⟨j + 1, by omega, by go_num, by rw [HI.out, HT.out]⟩
              case measure => simp [intOf]; omega
            · have HT := Lib.hid (show Crc.stp r = (r >>> 1) ^^^ Crc.poly from by unfold Crc.stp; rw [hb0]; rfl)
              rw [hb0] at h1
              clear hb0
              go_wp2
              go_round
              case rel => exact ⟨j + 1, by omega, by go_num, by rw [HI.out, HT.out]⟩
              case measure => simp [intOf]; omega
          · obtain rfl : j = 8 := by omega
            go_wp2
            go_round
            case rel => exact ⟨k + 1, by omega, by go_num, by rw [HS.out]; rfl⟩
            case measure => simp [intOf]; omega
      · clear hb hini
        go_wp2
        go_ret
        exact ⟨by rw [Crc.rg_all _ _ _ (by omega)]; rfl, rfl⟩
  · obtain rfl : l = [] := List.length_eq_zero_iff.1 (by omega)
    clear hr
    go_enter Tryz.func18, Tryz.ntmps18
    go_wp2
    go_loop [3, 4] (fun r i => i = .int .i64 0 ∧ r = .int .u32 (n32 (~~~ 0#32))) (fun _ i => 0)
    case atStart => exact ⟨rfl, by rw [hini]⟩
    case round =>
      obtain ⟨rfl, rfl⟩ := hrel
      clear hini
      go_wp2
      go_ret
      exact ⟨by simp [Crc.sum, Crc.upd, Crc.rg], rfl⟩
theorem owns_form {w : World} {B e size n : Nat} {v : Value} {xs : List Value} (h : w.ownsRow B e size v n xs) : ∃ ao cap, v = .slice ao n cap ∧ n ≤ cap := by
  rcases h.2 with ⟨rfl, rfl⟩ | ⟨g, cap, cur, rfl, _, _, hc, _⟩
  · exact ⟨none, 0, rfl, Nat.le_refl _⟩
  · exact ⟨_, cap, rfl, hc⟩
def vlen : Value → Nat
  | .slice _ n _ => n
  | _ => 0
theorem owns_mine' {w : World} {B e : Nat} {v : Value} {n : Nat} {l : List (BitVec 8)} (h : w.ownsRow B e 1 v n (bts l)) (hn : l.length = n) : ∃ ao cap, v = .slice ao n cap ∧ Mine w B e ao cap l := by
  subst hn
  exact owns_mine h
theorem refSum' (ao : Option Addr) (l : List (BitVec 8)) (n cap : Nat) (w : World) (hn : l.length = n) (hl : n ≤ 140737488351232) (hr : Rd w ao l) :
   Calls Tryz.prog 18 #[.slice ao n cap] w fun e w' => e = .returned (.int .u32 (n32 (Crc.sum l))) ∧ w = w' := by
  subst hn
  exact refSum ao l cap w hl hr
set_option maxRecDepth 100000 in
set_option maxHeartbeats 1000000 in
theorem refPut (S : Sec) (ao : Option Addr) (cap : Nat) (w : World) (hf : S.fits) (hr : Rd w ao S.body) (hc : ao = none → cap = 0) :
   Calls Tryz.prog 6 #[S.val ao cap] w fun e w' => ∃ ar cr, e = .returned (.tuple #[.slice ar (putS S).length cr, .int .i64 (putE S)]) ∧ Mine w' w.heap.size 5 ar cr (putS S) ∧ Below w.heap.size w w' := by
  obtain ⟨i0, hi, hz0, hz1, hz2⟩ := info_parts info_u8
  have HM := fun (W : World) => refMay S ao cap W hf
  obtain ⟨tag, epoch, seq, place, body⟩ := S
  have hmi := may_iff (S := ⟨tag, epoch, seq, place, body⟩)
  obtain ⟨hl, he0, he1, hs0, hs1, hp0, hp1⟩ := hf
  unfold Sec.val at HM ⊢
  simp only at hl he0 he1 hs0 hs1 hp0 hp1 hr hmi HM ⊢
  obtain ⟨b, hb⟩ : ∃ b, Sec.may ⟨tag, epoch, seq, place, body⟩ = b := ⟨_, rfl⟩
  rw [hb] at HM
  cases b with
  | false =>
    have e1 : putS ⟨tag, epoch, seq, place, body⟩ = [] := by simp [putS, hb]
    have e2 : putE ⟨tag, epoch, seq, place, body⟩ = 117 := by simp [putE, hb]
    rw [e1, e2]
    clear hmi hb e1 e2
    go_enter Tryz.func6, Tryz.ntmps6
    go_wp2_with fail
    refine (HM _).mono ?_
    rintro e w1 ⟨rfl, hb1⟩
    go_wp2_with fail
    go_ret2
    exact ⟨none, 0, rfl, Or.inl ⟨rfl, rfl, rfl⟩, ((Below.refl _ w).alloc (Nat.le_refl _) _).trans (hb1.mono (by simp))⟩
  | true =>
    obtain ⟨htag, ⟨hE0, hE1⟩, ⟨hS0, hS1⟩, ⟨hP0, hP1⟩, hL⟩ := hmi.1 hb
    have HTL := Lib.hid (tag_len htag)
    have e1 : putS ⟨tag, epoch, seq, place, body⟩ = Sec.bytes ⟨tag, epoch, seq, place, body⟩ := by simp [putS, hb]
    have e2 : putE ⟨tag, epoch, seq, place, body⟩ = 0 := by simp [putE, hb]
    have hbl := bytes_len hb
    have hpl := pre_len hb
    have hhl := head_len hb
    have hby : Sec.bytes ⟨tag, epoch, seq, place, body⟩ = Sec.pre ⟨tag, epoch, seq, place, body⟩ ++ be ((Crc.sum (Sec.pre ⟨tag, epoch, seq, place, body⟩)).setWidth 64) 4 := rfl
    have hpe : Sec.pre ⟨tag, epoch, seq, place, body⟩ = Sec.head ⟨tag, epoch, seq, place, body⟩ ++ (body ++ List.replicate (480 - body.length) 0#8) := rfl
    have hhe : Sec.head ⟨tag, epoch, seq, place, body⟩ = (((((tag ++ be (w64 epoch) 8) ++ be (w64 seq) 8) ++ be (w64 place) 4) ++ be (BitVec.ofNat 64 body.length) 2) ++ [0#8, 0#8]) := by simp [Sec.head, List.append_assoc]
    rw [e1, e2, hby]
    obtain ⟨P, hP⟩ : ∃ P, Sec.pre ⟨tag, epoch, seq, place, body⟩ = P := ⟨_, rfl⟩
    obtain ⟨Hd, hHd⟩ : ∃ P, Sec.head ⟨tag, epoch, seq, place, body⟩ = P := ⟨_, rfl⟩
    rw [hP] at hpl hpe hby ⊢
    rw [hHd] at hpe hhl hhe
    have HPl := Lib.hid hpl
    have HPe := Lib.hid hpe
    have HHl := Lib.hid hhl
    have HHe := Lib.hid hhe
    have hE := Lib.hid (n64_w64 epoch (by omega) hE1)
    have hS := Lib.hid (n64_w64 seq (by omega) hS1)
    have hPl := Lib.hid (n64_w64 place (by omega) (by omega))
    have hLn : Hid ((body.length : Int) = n64 (BitVec.ofNat 64 body.length)) := Lib.hid (by unfold n64; simp; omega)
    have hmk : ∀ u, (Instr.makeSlice 44 (.int .i64 0) (.int .i64 512)).run Tryz.prog u = .ok (.slice (some ⟨u.heap.size, 0, none⟩) 0 512) (u.alloc (.cells (madeCells #[.int .u8 0] 512) 5)) := run_make_room 512 (by decide)
    clear hmi e1 e2 hbl hpl hhl hby hpe hhe hP hHd hb
    go_enter Tryz.func6, Tryz.ntmps6
    go_wp2_with fail
    refine (HM _).mono ?_
    rintro e w1 ⟨rfl, hb1⟩
    have HB := Lib.hid ((Bag.start w).alloc #[.string (str tag), .int .i64 epoch, .int .i64 seq, .int .i64 place, .slice ao body.length cap] 46 |>.call hb1)
    clear hb1
    have hrb := hr.on HB.out.below
    have HR := Lib.hid (fun (w' : World) (h : Below w1.heap.size w1 w') => hrb.on h)
    have HX := Lib.hid (fun (w' : World) (h : Below w1.heap.size w1 w') => (⟨cells5 ((HB.out.call h).box 0 rfl), (HB.out.call h).boxLt 0 rfl⟩ : _ ∧ _))
    clear hrb hr
    obtain ⟨⟨q0, q1, q2, q3, q4, qf⟩, ql⟩ := HX.out w1 (Below.refl _ _)
    go_wp2_with (at_builtin; refine wpList_append_str rfl (.tmp 9) (.tmp 11) 44 9 rfl w1.heap.size 5 i0 Tryz.underlying44 Tryz.underlying9 hi hz0 hz1 hz2 _ 0 [] tag rfl (owns_room w1 _ _ 512 (by simp [size_madeCells]) (by decide)) rfl (by rw [HTL.out]; omega) w1.heap.size ((Below.refl _ w1).alloc (Nat.le_refl _) _) (Nat.le_refl _) (by simp) ?_)
    intro v2 w2 ho2 hb2
    have ho2' : w2.ownsRow w1.heap.size 5 1 v2 tag.length (bts tag) := by simpa only [Nat.zero_add, List.nil_append] using ho2
    clear ho2
    clear q0 q1 q2 q3 q4 qf ql
    obtain ⟨⟨q0, q1, q2, q3, q4, qf⟩, ql⟩ := HX.out w2 hb2
    go_wp2_with fail
    have h := refNumber v2 (tag) (tag.length) 8 w1.heap.size (w64 epoch) w1 w2 ho2' hb2 hb2.size (by rw [HTL.out]; decide) (by decide)
    rw [← hE.out] at h
    refine h.mono ?_
    clear h ho2' hb2
    rintro e w3 ⟨v3, rfl, ho3, hb3, _⟩
    clear q0 q1 q2 q3 q4 qf ql
    obtain ⟨⟨q0, q1, q2, q3, q4, qf⟩, ql⟩ := HX.out w3 hb3
    go_wp2_with fail
    have h := refNumber v3 (tag ++ be (w64 epoch) 8) (tag.length + 8) 8 w1.heap.size (w64 seq) w1 w3 ho3 hb3 hb3.size (by rw [HTL.out]; decide) (by decide)
    rw [← hS.out] at h
    refine h.mono ?_
    clear h ho3 hb3
    rintro e w4 ⟨v4, rfl, ho4, hb4, _⟩
    clear q0 q1 q2 q3 q4 qf ql
    obtain ⟨⟨q0, q1, q2, q3, q4, qf⟩, ql⟩ := HX.out w4 hb4
    go_wp2_with fail
    have h := refNumber v4 ((tag ++ be (w64 epoch) 8) ++ be (w64 seq) 8) (tag.length + 8 + 8) 4 w1.heap.size (w64 place) w1 w4 ho4 hb4 hb4.size (by rw [HTL.out]; decide) (by decide)
    rw [← hPl.out] at h
    refine h.mono ?_
    clear h ho4 hb4
    rintro e w5 ⟨v5, rfl, ho5, hb5, _⟩
    clear q0 q1 q2 q3 q4 qf ql
    obtain ⟨⟨q0, q1, q2, q3, q4, qf⟩, ql⟩ := HX.out w5 hb5
    go_wp2_with fail
    have h := refNumber v5 (((tag ++ be (w64 epoch) 8) ++ be (w64 seq) 8) ++ be (w64 place) 4) (tag.length + 8 + 8 + 4) 2 w1.heap.size (BitVec.ofNat 64 body.length) w1 w5 ho5 hb5 hb5.size (by rw [HTL.out]; decide) (by decide)
    rw [← hLn.out] at h
    refine h.mono ?_
    clear h ho5 hb5
    rintro e w6 ⟨v6, rfl, ho6, hb6, _⟩
    clear q0 q1 q2 q3 q4 qf ql
    obtain ⟨⟨q0, q1, q2, q3, q4, qf⟩, ql⟩ := HX.out w6 hb6
    go_wp2_with (at_builtin; refine wpList_append_bytes rfl _ _ 44 rfl w1.heap.size 5 i0 Tryz.underlying44 hi hz0 hz1 hz2 _ (tag.length + 8 + 8 + 4 + 2) ((((tag ++ be (w64 epoch) 8) ++ be (w64 seq) 8) ++ be (w64 place) 4) ++ be (BitVec.ofNat 64 body.length) 2) rfl (ho6.alloc _) (some ⟨w6.heap.size, 0, none⟩) 2 2 [0#8, 0#8] rfl rfl (Rd_new w6 _ _ _ _ (by simp [bts, n8])) (fun h => by cases h) (by rw [HTL.out]; decide) w1.heap.size (hb6.alloc hb6.size _) (Nat.le_refl _) (by have := hb6.size; simp; omega) ?_)
    intro v7 w7 ho7 hb7
    clear ho6 hb6
    have ho8 : w7.ownsRow w1.heap.size 5 1 v7 28 (bts Hd) := by
      rw [HHe.out]
      have h := ho7
      rw [show tag.length + 8 + 8 + 4 + 2 + 2 = 28 by rw [HTL.out]] at h
      simpa only [List.append_assoc] using h
    clear ho7 q0 q1 q2 q3 q4 qf ql
    obtain ⟨⟨q0, q1, q2, q3, q4, qf⟩, ql⟩ := HX.out w7 hb7
    go_wp2_with (at_builtin; refine wpList_append_bytes rfl _ _ 44 rfl w1.heap.size 5 i0 Tryz.underlying44 hi hz0 hz1 hz2 _ 28 Hd rfl ho8 ao body.length cap body rfl rfl (HR.out w7 hb7) hc (by omega) w1.heap.size hb7 (Nat.le_refl _) hb7.size ?_)
    intro v8 w8 ho9 hb8
    clear ho8 hb7 q0 q1 q2 q3 q4 qf ql hmk
    go_wp2_with fail
    go_loopw [4] (fun v wr => ∃ n, 28 + body.length ≤ n ∧ n ≤ 508 ∧ wr.ownsRow w1.heap.size 5 1 v n (bts ((Hd ++ body) ++ List.replicate (n - (28 + body.length)) 0#8)) ∧ Below w1.heap.size w1 wr) (fun v _ => 508 - vlen v)
    case atStart => exact ⟨28 + body.length, Nat.le_refl _, by omega, by simpa using ho9, hb8⟩
    case round =>
      obtain ⟨n, hn1, hn2, hown, hnx⟩ := hrel
      have hll : ((Hd ++ body) ++ List.replicate (n - (28 + body.length)) 0#8).length = n := by
        rw [List.length_append, List.length_append, List.length_replicate, HHl.out]; omega
      obtain ⟨ar, cr, rfl, hmine⟩ := owns_mine' hown hll
      by_cases hlt : n < 508
      · obtain ⟨l1, hl1⟩ : ∃ l1, (Hd ++ body) ++ List.replicate (n - (28 + body.length)) 0#8 = l1 := ⟨_, rfl⟩
        have hl2 : (Hd ++ body) ++ List.replicate (n + 1 - (28 + body.length)) 0#8 = l1 ++ [0#8] := by
          rw [← hl1, show n + 1 - (28 + body.length) = (n - (28 + body.length)) + 1 by omega, List.replicate_succ']
          simp only [List.append_assoc]
        rw [hl1] at hown
        have HL2 := Lib.hid hl2
        clear hl1 hl2 hll hmine
        go_wp2_with (at_builtin; refine wpList_append_bytes rfl _ _ 44 rfl w1.heap.size 5 i0 Tryz.underlying44 hi hz0 hz1 hz2 _ n l1 rfl (hown.alloc _) (some ⟨wr.heap.size, 0, none⟩) 1 1 [0#8] rfl rfl (Rd_new wr _ _ _ _ (by simp [bts, n8])) (fun h => by cases h) (by omega) w1.heap.size (hnx.alloc hnx.size _) (Nat.le_refl _) (by have := hnx.size; simp; omega) ?_)
        intro v9 w9 ho10 hb9
        clear hown hnx
        go_wp2_with fail
        go_roundw
        case rel => exact ⟨n + 1, by omega, by omega, by rw [HL2.out]; exact ho10, hb9⟩
        case measure =>
          obtain ⟨a9, c9, rfl, _⟩ := owns_form ho10
          simp only [vlen]; omega
      · obtain rfl : n = 508 := by omega
        have hl1 : (Hd ++ body) ++ List.replicate (508 - (28 + body.length)) 0#8 = P := by
          rw [HPe.out, List.append_assoc, show 508 - (28 + body.length) = 480 - body.length by omega]
        rw [hl1] at hown hmine
        have HO := Lib.hid hown
        have HMi := Lib.hid hmine
        clear hown hmine hl1 hll
        go_wp2_with fail
        refine (refSum' ar P 508 cr wr HPl.out (by decide) HMi.out.rd).mono ?_
        rintro e w' ⟨rfl, hw⟩
        obtain rfl := hw
        go_wp2_with fail
        refine (refNumber (.slice ar 508 cr) P 508 4 w1.heap.size _ w1 wr HO.out hnx hnx.size (by decide) (by decide)).mono ?_
        rintro e w9 ⟨v9, rfl, ho10, hb9, _⟩
        have hp4 : (P ++ be ((Crc.sum P).setWidth 64) 4).length = 512 := by rw [List.length_append, HPl.out, be_length]
        obtain ⟨a9, c9, rfl, hm9⟩ := owns_mine' ho10 hp4
        have HM9 := Lib.hid hm9
        clear ho10 hm9
        go_wp2_with fail
        go_ret2
        refine ⟨a9, c9, by rw [hp4]; rfl, HM9.out.from HB.out.size, ?_⟩
        exact HB.out.below.trans (hb9.mono HB.out.size)
def Sec.zero : Sec := ⟨[], 0, 0, 0, []⟩
def getV (b : List (BitVec 8)) : Sec := (getS b).getD Sec.zero
def getE (b : List (BitVec 8)) : Int := if (getS b).isSome then 0 else 117
theorem val_lt (l : List (BitVec 8)) : ∀ k, l.length = k → k ≤ 8 → (val l).toNat < 2 ^ (8 * k) := by
  intro k
  induction k generalizing l with
  | zero =>
    intro h _
    obtain rfl := List.length_eq_zero_iff.1 h
    simp [val]
  | succ k ih =>
    intro h hk
    obtain ⟨m, c, rfl⟩ : ∃ m c, l = m ++ [c] := by
      have hk2 : k < l.length := by omega
      refine ⟨l.take k, l[k], ?_⟩
      rw [← List.take_succ_eq_append_getElem hk2, List.take_of_length_le (by omega)]
    have h1 := ih m (by simpa using h) (by omega)
    rw [val_snoc]
    have h2 : (val m <<< 8).toNat < 2 ^ (8 * (k + 1)) := by
      rw [BitVec.toNat_shiftLeft, Nat.shiftLeft_eq]
      refine Nat.lt_of_le_of_lt (Nat.mod_le _ _) ?_
      have : 2 ^ (8 * (k + 1)) = 2 ^ (8 * k) * 2 ^ 8 := by rw [← Nat.pow_add]; congr 1
      rw [this]
      exact Nat.mul_lt_mul_of_pos_right h1 (by decide)
    rw [BitVec.toNat_or]
    refine Nat.or_lt_two_pow h2 ?_
    have h3 := c.isLt
    rw [BitVec.toNat_setWidth]
    refine Nat.lt_of_le_of_lt (Nat.mod_le _ _) (Nat.lt_of_lt_of_le h3 (Nat.pow_le_pow_right (by decide) (by omega)))
theorem getS_len {b : List (BitVec 8)} (h : b.length ≠ 512) : getS b = none := by
  unfold getS
  rw [if_neg]
  rintro ⟨h1, h2⟩
  exact h (by rw [← h2]; exact bytes_len h1)
theorem getS_no {b : List (BitVec 8)} (h : ¬ ((readS b).may = true ∧ (readS b).bytes = b)) : getS b = none := if_neg h
theorem getS_yes {b : List (BitVec 8)} (h1 : (readS b).may = true) (h2 : (readS b).bytes = b) : getS b = some (readS b) := if_pos ⟨h1, h2⟩
theorem getV_none {b : List (BitVec 8)} (h : getS b = none) : getV b = Sec.zero ∧ getE b = 117 := by simp [getV, getE, h]
theorem getV_some {b : List (BitVec 8)} {S : Sec} (h : getS b = some S) : getV b = S ∧ getE b = 0 := by simp [getV, getE, h]
/-- A reader. -/
def It.rdr (p g : Nat) (l : List (BitVec 8)) (k : Nat) (e : Int) : It where
  ats j := j = p ∨ j = g
  holds W := Rdr W p g l k e
  lt := by
    rintro W j h (rfl | rfl)
    · exact h.lt
    · exact h.lt'
  keep := fun _ _ h hk => h.kept (hk p (Or.inl rfl)) (hk g (Or.inr rfl))
theorem Bag.rdr {w W W' : World} {l : List It} (h : Bag w W l) (hb : Below W.heap.size W W') {p g : Nat} {m : List (BitVec 8)} {k : Nat} {e : Int} (hp : W.heap.size ≤ p) (hg : W.heap.size ≤ g) (hr : Rdr W' p g m k e) : Bag w W' (.rdr p g m k e :: l) :=
  h.cons hb hr (by rintro j (rfl | rfl) <;> assumption)
theorem Bag.rdrAt {w W : World} {l : List It} (h : Bag w W l) (i : Nat) {p g : Nat} {m : List (BitVec 8)} {k : Nat} {e : Int} (hi : l[i]? = some (.rdr p g m k e)) : Rdr W p g m k e := h.holds i _ hi
theorem Bag.rdrTurn {w W W' : World} {l : List It} (h : Bag w W l) (i : Nat) {p g : Nat} {m : List (BitVec 8)} {k k' : Nat} {e e' : Int} (hi : l[i]? = some (.rdr p g m k e)) (ho : Only (fun j => j = p) W W') (hr : Rdr W' p g m k' e') : Bag w W' (l.set i (.rdr p g m k' e')) :=
  h.turn i hi ho (fun _ h => Or.inl h) hr (fun _ h => Or.inl h)
theorem cvRun (w : World) (ao : Option Addr) (l : List (BitVec 8)) (n cap : Nat) (hn : l.length = n) (hr : Rd w ao l) : (convert 44 9 (.slice ao n cap)).run Tryz.prog w = .ok (.string (str l)) w := by
  subst hn
  rcases Nat.eq_zero_or_pos l.length with h0 | h0
  · obtain rfl := List.length_eq_zero_iff.1 h0
    cases ao with
    | none =>
      rw [run_convert_bytes_nil w 44 5 Tryz.underlying44 Tryz.underlying5 _ _ 9 Tryz.underlying9]
      congr 2
      unfold str; rfl
    | some a =>
      have h := run_convert_bytes_back (P := Tryz.prog) w 44 9 5 a cap [] Tryz.underlying44 Tryz.underlying5 Tryz.underlying9 (fun j hj => by simp at hj)
      refine h.trans ?_
      congr 2
      unfold str; rfl
  · obtain ⟨b, o, rfl, hc⟩ := hr.at h0
    rw [run_convert_bytes_arg w 44 5 Tryz.underlying44 Tryz.underlying5 b o l.length cap (l.map n8) (by simp) (fun i hi => by rw [hc i hi]; simp [List.getD, hi]) 9 Tryz.underlying9, str_nums]
theorem str_nil : ({ data := #[] } : ByteArray) = str [] := by unfold str; rfl
theorem n64_val {l : List (BitVec 8)} {x : Int} (h : ((val l).toNat : Int) = x) : n64 (val l) = x := by unfold n64; exact h
theorem n32_val {l : List (BitVec 8)} {x : Int} (h : ((val l).toNat : Int) = x) (hl : l.length = 4) : n32 ((val l).setWidth 32) = x := by
  have := val_lt l 4 hl (by omega)
  unfold n32; simp; omega
theorem n16_val {l : List (BitVec 8)} {x : Nat} (h : (val l).toNat = x) (hl : l.length = 2) : n16 ((val l).setWidth 16) = (x : Int) := by
  have := val_lt l 2 hl (by omega)
  unfold n16; simp; omega
/-- What stands in 512 bytes. -/
structure Read (b : List (BitVec 8)) (m24 T : List (BitVec 8)) (E Q P : Int) (N : Nat) (B : List (BitVec 8)) : Prop where
  sec : readS b = ⟨T, E, Q, P, B⟩
  len24 : m24.length = 24
  tlen : T.length = 4
  l24 : (b.drop 4).take 24 = m24
  tag : b.take 4 = T
  body : (b.drop 28).take N = B
  blen : N ≤ 484 → B.length = N
  big : 480 < N → 480 < B.length
  e : n64 (val (m24.take 8)) = E
  q : n64 (val ((m24.drop 8).take 8)) = Q
  p : n32 ((val ((m24.drop 16).take 4)).setWidth 32) = P
  n : n16 ((val ((m24.drop 20).take 2)).setWidth 16) = (N : Int)
  e0 : 0 ≤ E
  e1 : E ≤ 18446744073709551615
  q0 : 0 ≤ Q
  q1 : Q ≤ 18446744073709551615
  p0 : 0 ≤ P
  p1 : P ≤ 4294967295
  n1 : N ≤ 65535
  e' : n64 (val ((b.drop 4).take 8)) = E
  q' : n64 (val ((b.drop 12).take 8)) = Q
  p' : n64 (val ((b.drop 20).take 4)) = P
  n' : n64 (val ((b.drop 24).take 2)) = (N : Int)
theorem read_of (b : List (BitVec 8)) (hb : b.length = 512) : ∃ l24 T E Q P N B, Read b l24 T E Q P N B := by
  have a0 : ((b.drop 4).take 24).take 8 = (b.drop 4).take 8 := by rw [List.take_take]; rfl
  have a1 : (((b.drop 4).take 24).drop 8).take 8 = (b.drop 12).take 8 := by rw [List.drop_take, List.drop_drop, List.take_take]; rfl
  have a2 : (((b.drop 4).take 24).drop 16).take 4 = (b.drop 20).take 4 := by rw [List.drop_take, List.drop_drop, List.take_take]; rfl
  have a3 : (((b.drop 4).take 24).drop 20).take 2 = (b.drop 24).take 2 := by rw [List.drop_take, List.drop_drop, List.take_take]; rfl
  have v0 := val_lt ((b.drop 4).take 8) 8 (by simp; omega) (by omega)
  have v1 := val_lt ((b.drop 12).take 8) 8 (by simp; omega) (by omega)
  have v2 := val_lt ((b.drop 20).take 4) 4 (by simp; omega) (by omega)
  have v3 := val_lt ((b.drop 24).take 2) 2 (by simp; omega) (by omega)
  refine ⟨_, _, _, _, _, (val ((b.drop 24).take 2)).toNat, _, ⟨rfl, by simp; omega, by simp; omega, rfl, rfl, rfl, fun h => by simp; omega, fun h => by simp; omega, ?_, ?_, ?_, ?_, Int.natCast_nonneg _, by omega, Int.natCast_nonneg _, by omega, Int.natCast_nonneg _, by omega, by omega, n64_val rfl, n64_val rfl, n64_val rfl, n64_val rfl⟩⟩
  · rw [a0]; exact n64_val rfl
  · rw [a1]; exact n64_val rfl
  · rw [a2]; exact n32_val rfl (by simp; omega)
  · rw [a3]; exact n16_val rfl (by simp; omega)
theorem fits_read {b l24 T : List (BitVec 8)} {E Q P : Int} {N : Nat} {B : List (BitVec 8)} (h : Read b l24 T E Q P N B) (h1 : E ≤ 4611686018427387904) (h2 : Q ≤ 4611686018427387904) (h4 : N ≤ 480) : Sec.fits ⟨T, E, Q, P, B⟩ :=
  ⟨by have := h.blen (by omega); simp only; omega, by have := h.e0; simp only; omega, by simp only; omega, by have := h.q0; simp only; omega, by simp only; omega, by have := h.p0; simp only; omega, by have := h.p1; simp only; omega⟩
theorem get_not {b l24 T : List (BitVec 8)} {E Q P : Int} {N : Nat} {B : List (BitVec 8)} (h : Read b l24 T E Q P N B) (hn : Sec.may ⟨T, E, Q, P, B⟩ = false ∨ Sec.bytes ⟨T, E, Q, P, B⟩ ≠ b) : getV b = Sec.zero ∧ getE b = 117 := by
  refine getV_none (getS_no ?_)
  rw [h.sec]
  rintro ⟨h1, h2⟩
  rcases hn with h3 | h3
  · rw [h3] at h1; cases h1
  · exact h3 h2
theorem may_not {b l24 T : List (BitVec 8)} {E Q P : Int} {N : Nat} {B : List (BitVec 8)} (h : Read b l24 T E Q P N B) (hn : ¬ (E ≤ 4611686018427387904 ∧ Q ≤ 4611686018427387904 ∧ P < 8192 ∧ N ≤ 480)) : Sec.may ⟨T, E, Q, P, B⟩ = false := by
  cases hm : Sec.may ⟨T, E, Q, P, B⟩ with
  | false => rfl
  | true =>
    obtain ⟨_, ⟨_, h1⟩, ⟨_, h2⟩, ⟨_, h3⟩, h4⟩ := may_iff.1 hm
    simp only at h1 h2 h3 h4
    refine absurd ⟨h1, h2, by omega, ?_⟩ hn
    have := h.big
    omega
theorem newReader' (ao : Option Addr) (l : List (BitVec 8)) (n cap : Nat) (w : World) (hn : l.length = n) (hl : n ≤ 140737488351232) (hr : Rd w ao l) :
   Calls Tryz.prog 24 #[.slice ao n cap] w fun e w' => ∃ p g, e = .returned (.pointer (some ⟨p, 0, none⟩)) ∧ w.heap.size ≤ p ∧ w.heap.size ≤ g ∧ Rdr w' p g l 0 0 ∧ Below w.heap.size w w' := by
  subst hn
  exact newReader ao l cap w hl hr
theorem secPut' (T : List (BitVec 8)) (E Q P : Int) (B : List (BitVec 8)) (ao : Option Addr) (N cap : Nat) (w : World) (hN : B.length = N) (hf : Sec.fits ⟨T, E, Q, P, B⟩) (hr : Rd w ao B) (ht : Tab w) (hT : 0 < w.heap.size) :
   Calls Tryz.prog 7 #[.agg #[.string (str T), .int .i64 E, .int .i64 Q, .int .i64 P, .slice ao N cap]] w fun e w' => ∃ ar cr, e = .returned (.tuple #[.slice ar (putS ⟨T, E, Q, P, B⟩).length cr, .int .i64 (putE ⟨T, E, Q, P, B⟩)]) ∧ Mine w' w.heap.size 5 ar cr (putS ⟨T, E, Q, P, B⟩) ∧ Below w.heap.size w w' := by
  subst hN
  exact secPut ⟨T, E, Q, P, B⟩ ao cap w hf hr ht hT
set_option maxRecDepth 100000 in
set_option maxHeartbeats 4000000 in
theorem secGet (b : List (BitVec 8)) (ao : Option Addr) (n cap : Nat) (w : World) (hn : b.length = n) (hcap : n ≤ cap) (hr : Rd w ao b) (ht : Tab w) (hT : 0 < w.heap.size) :
   Calls Tryz.prog 8 #[.slice ao n cap] w fun e w' => ∃ ar cr, e = .returned (.tuple #[(getV b).val ar cr, .int .i64 (getE b)]) ∧ Mine w' w.heap.size 5 ar cr (getV b).body ∧ Below w.heap.size w w' := by
  obtain ⟨i0, hi, hz0, hz1, hz2⟩ := info_parts info_u8
  by_cases h512 : n = 512
  · subst h512
    obtain ⟨l24, T, E, Q, P, N, B, hR⟩ := read_of b hn
    have HR := Lib.hid hR
    have HL24 := Lib.hid hR.len24
    have he0 := hR.e0
    have he1 := hR.e1
    have hq0 := hR.q0
    have hq1 := hR.q1
    have hp0 := hR.p0
    have hp1 := hR.p1
    have hn1 := hR.n1
    obtain ⟨blk, off, rfl, hcell⟩ := hr.at (by omega)
    have hr24 := (hr.drop 4).take 24
    rw [hR.l24] at hr24
    have hrT := hr.take 4
    rw [hR.tag] at hrT
    have hrB := (hr.drop 28).take N
    rw [hR.body] at hrB
    have HRB := Lib.hid (fun (w' : World) (hb : Below w.heap.size w w') => hr.on hb)
    have HR24 := Lib.hid (fun (w' : World) (hb : Below w.heap.size w w') => hr24.on hb)
    have HRT := Lib.hid (fun (w' : World) (hb : Below w.heap.size w w') => hrT.on hb)
    have HRBd := Lib.hid (fun (w' : World) (hb : Below w.heap.size w w') => hrB.on hb)
    have HTB := Lib.hid (fun (w' : World) (hb : Below w.heap.size w w') => (⟨ht.below hb hT, Nat.lt_of_lt_of_le hT hb.size⟩ : _ ∧ _))
    have HBl := Lib.hid hn
    clear hr hr24 hrT hrB hcell ht hT hn hR
    go_enter Tryz.func8, Tryz.ntmps8
    go_wp2_with fail
    generalize hU : (w.alloc (.cells #[.string { data := #[] }, .int .i64 0, .int .i64 0, .int .i64 0, .slice none 0 0] 46 (0, 0))) = U1
    have h0 := (Bag.start w).allocAt #[.string { data := #[] }, .int .i64 0, .int .i64 0, .int .i64 0, .slice none 0 0] 46 (w.heap.size) rfl
    rw [hU] at h0
    have HB := Lib.hid h0
    clear h0 hU
    refine (newReader' (some ⟨blk, off + 4, none⟩) l24 24 24 _ HL24.out (by decide) (HR24.out _ HB.out.below)).mono ?_
    rintro e W2 ⟨p, g, rfl, hp, hg, hrd, hb⟩
    have h0 := HB.out.rdr hb hp hg hrd
    clear HB
    have HB := Lib.hid h0
    clear h0
    clear hb hp hg hrd
    go_wp2_with fail
    refine (getYes64 (l := l24) (k := 0) (HB.out.rdrAt 0 rfl) (by rw [HL24.out]; decide) (by rw [HL24.out]; decide)).mono ?_
    rintro e W3 ⟨rfl, hrd, ho⟩
    have h0 := HB.out.rdrTurn 0 rfl ho hrd
    simp only [List.set_cons_zero] at h0
    clear HB
    have HB := Lib.hid h0
    clear h0
    clear ho hrd
    go_wp2_with fail
    refine (getYes64 (l := l24) (k := 8) (HB.out.rdrAt 0 rfl) (by rw [HL24.out]; decide) (by rw [HL24.out]; decide)).mono ?_
    rintro e W4 ⟨rfl, hrd, ho⟩
    have h0 := HB.out.rdrTurn 0 rfl ho hrd
    simp only [List.set_cons_zero] at h0
    clear HB
    have HB := Lib.hid h0
    clear h0
    clear ho hrd
    go_wp2_with fail
    refine (getYes32 (l := l24) (k := 16) (HB.out.rdrAt 0 rfl) (by rw [HL24.out]; decide) (by rw [HL24.out]; decide)).mono ?_
    rintro e W5 ⟨rfl, hrd, ho⟩
    have h0 := HB.out.rdrTurn 0 rfl ho hrd
    simp only [List.set_cons_zero] at h0
    clear HB
    have HB := Lib.hid h0
    clear h0
    clear ho hrd
    go_wp2_with fail
    refine (getYes16 (l := l24) (k := 20) (HB.out.rdrAt 0 rfl) (by rw [HL24.out]; decide) (by rw [HL24.out]; decide)).mono ?_
    rintro e W6 ⟨rfl, hrd, ho⟩
    have h0 := HB.out.rdrTurn 0 rfl ho hrd
    simp only [List.set_cons_zero] at h0
    clear HB
    have HB := Lib.hid h0
    clear h0
    clear ho hrd
    rw [HR.out.e, HR.out.q, HR.out.p, HR.out.n]
    by_cases c1 : E ≤ 4611686018427387904
    · by_cases c2 : Q ≤ 4611686018427387904
      · by_cases c3 : P < 8192
        · by_cases c4 : N ≤ 480
          · have hcv := cvRun W6 (some ⟨blk, off, none⟩) T 4 4 HR.out.tlen (HRT.out _ HB.out.below)
            have HBL := Lib.hid (HR.out.blen (by omega))
            by_cases c0 : N = 0
            · obtain rfl : N = 0 := by omega
              have HNil := Lib.hid (List.length_eq_zero_iff.1 HBL.out)
              go_wp2_with fail
              generalize hU : W6.alloc (.cells #[.string (str T), .int .i64 E, .int .i64 Q, .int .i64 P, .slice none 0 0] 46 (0, 0)) = U7
              have h0 := HB.out.alloc #[.string (str T), .int .i64 E, .int .i64 Q, .int .i64 P, .slice none 0 0] 46
              rw [hU] at h0
              clear HB
              have HB := Lib.hid h0
              clear h0
              clear hU
              refine (secPut' T E Q P B none 0 0 _ HBL.out (fits_read HR.out c1 c2 c4) (by rw [HNil.out]; exact Rd.nil _ _) (HTB.out _ HB.out.below).1 (HTB.out _ HB.out.below).2).mono ?_
              rintro e W8 ⟨ap, cp, rfl, Mx, hb⟩
              have h0 := HB.out.mine hb Mx
              clear HB
              have HB := Lib.hid h0
              clear h0
              clear Mx
              clear hb
              obtain ⟨pl, hpl⟩ : ∃ pl, putS ⟨T, E, Q, P, B⟩ = pl := ⟨_, rfl⟩
              obtain ⟨pe, hpe⟩ : ∃ pe, putE ⟨T, E, Q, P, B⟩ = pe := ⟨_, rfl⟩
              have hx : Bag w W8 _ := HB.out
              rw [hpl] at hx
              clear HB
              have HB := Lib.hid hx
              clear hx
              rw [hpl, hpe]
              cases hmay : Sec.may ⟨T, E, Q, P, B⟩ with
              | false =>
                have hm0 : Sec.may ⟨T, E, Q, P, B⟩ = false := by simpa using hmay
                obtain ⟨hg1, hg2⟩ := get_not HR.out (Or.inl hm0)
                have HG2 := Lib.hid hg2
                have HG1 := Lib.hid hg1
                obtain rfl : pe = 117 := by rw [← hpe]; simp [putE, hm0]
                clear hg1 hg2 hmay hm0 hpl hpe
                obtain ⟨qr_0, qr_1, qr_2, qr_3, qr_4, qr_f⟩ := cells5 (HB.out.box 3 rfl)
                have qr_l := HB.out.boxLt 3 rfl
                go_wp2_with fail
                generalize hU : (((((W8.setCell ⟨w.heap.size, 0, none⟩ (.string { data := #[] })).setCell ⟨w.heap.size, 1, none⟩ (.int .i64 0)).setCell ⟨w.heap.size, 2, none⟩ (.int .i64 0)).setCell ⟨w.heap.size, 3, none⟩ (.int .i64 0)).setCell ⟨w.heap.size, 4, none⟩ (.slice none 0 0)) = U9
                clear qr_0 qr_1 qr_2 qr_3 qr_4 qr_f qr_l
                have h0 := HB.out.store 3 rfl [.string { data := #[] }, .int .i64 0, .int .i64 0, .int .i64 0, .slice none 0 0] rfl
                rw [show Bag.setAll W8 (w.heap.size) 0 [.string { data := #[] }, .int .i64 0, .int .i64 0, .int .i64 0, .slice none 0 0] = U9 from hU] at h0
                simp only [List.set_cons_zero, List.set_cons_succ] at h0
                clear HB
                have HB := Lib.hid h0
                clear h0
                clear hU
                obtain ⟨qr_0, qr_1, qr_2, qr_3, qr_4, qr_f⟩ := cells5 (HB.out.box 3 rfl)
                have qr_l := HB.out.boxLt 3 rfl
                refine bodyPost_ret (v := .tuple #[.agg #[.string { data := #[] }, .int .i64 0, .int .i64 0, .int .i64 0, .slice none 0 0], .int .i64 117]) (by simp [results, Tryz.results8, go_sem, qr_0, qr_1, qr_2, qr_3, qr_4]) rfl ?_
                rw [HG1.out, HG2.out]
                unfold Sec.val Sec.zero
                rw [← str_nil]
                exact ⟨none, 0, rfl, Or.inl ⟨rfl, rfl, rfl⟩, HB.out.below⟩
              | true =>
                have hm1 : Sec.may ⟨T, E, Q, P, B⟩ = true := hmay
                obtain rfl : pe = 0 := by rw [← hpe]; simp [putE, hm1]
                obtain rfl : pl = Sec.bytes ⟨T, E, Q, P, B⟩ := by rw [← hpl]; simp [putS, hm1]
                have hbl := bytes_len hm1
                obtain ⟨ob, hob⟩ : ∃ ob, Sec.bytes ⟨T, E, Q, P, B⟩ = ob := ⟨_, rfl⟩
                have hx : Bag w W8 _ := HB.out
                rw [hob] at hx hbl ⊢
                clear HB
                have HB := Lib.hid hx
                clear hx
                have hcv1 := cvRun W8 ap ob ob.length cp rfl (HB.out.mineRd 0 rfl)
                have hcv2 := cvRun W8 (some ⟨blk, off, none⟩) b 512 cap HBl.out (HRB.out _ HB.out.below)
                have HPl := Lib.hid hpl
                have HPe := Lib.hid hpe
                have HOb := Lib.hid hob
                have HM := Lib.hid hm1
                clear hpl hpe hob hbl hm1 hmay
                by_cases hbb : ob = b
                · obtain ⟨hg1, hg2⟩ := getV_some (getS_yes (by rw [HR.out.sec]; exact HM.out) (by rw [HR.out.sec, HOb.out]; exact hbb))
                  rw [HR.out.sec] at hg1
                  have HG2 := Lib.hid hg2
                  have HG1 := Lib.hid hg1
                  have hbx : (ob == b) = true := by rw [beq_iff_eq]; exact hbb
                  clear hg1 hg2 hbb
                  obtain ⟨qs_0, qs_1, qs_2, qs_3, qs_4, qs_f⟩ := cells5 (HB.out.box 1 rfl)
                  have qs_l := HB.out.boxLt 1 rfl
                  obtain ⟨qr_0, qr_1, qr_2, qr_3, qr_4, qr_f⟩ := cells5 (HB.out.box 3 rfl)
                  have qr_l := HB.out.boxLt 3 rfl
                  have nr_s := HB.out.boxNe 3 1 rfl rfl (by decide)
                  go_wp2_with fail
                  generalize hU : (((((W8.setCell ⟨w.heap.size, 0, none⟩ (.string (str T))).setCell ⟨w.heap.size, 1, none⟩ (.int .i64 E)).setCell ⟨w.heap.size, 2, none⟩ (.int .i64 Q)).setCell ⟨w.heap.size, 3, none⟩ (.int .i64 P)).setCell ⟨w.heap.size, 4, none⟩ (.slice none 0 0)) = U9
                  clear qs_0 qs_1 qs_2 qs_3 qs_4 qs_f qs_l qr_0 qr_1 qr_2 qr_3 qr_4 qr_f qr_l nr_s
                  have h0 := HB.out.store 3 rfl [.string (str T), .int .i64 E, .int .i64 Q, .int .i64 P, .slice none 0 0] rfl
                  rw [show Bag.setAll W8 (w.heap.size) 0 [.string (str T), .int .i64 E, .int .i64 Q, .int .i64 P, .slice none 0 0] = U9 from hU] at h0
                  simp only [List.set_cons_zero, List.set_cons_succ] at h0
                  clear HB
                  have HB := Lib.hid h0
                  clear h0
                  clear hU
                  obtain ⟨qr_0, qr_1, qr_2, qr_3, qr_4, qr_f⟩ := cells5 (HB.out.box 3 rfl)
                  have qr_l := HB.out.boxLt 3 rfl
                  refine bodyPost_ret (v := .tuple #[.agg #[.string (str T), .int .i64 E, .int .i64 Q, .int .i64 P, .slice none 0 0], .int .i64 0]) (by simp [results, Tryz.results8, go_sem, qr_0, qr_1, qr_2, qr_3, qr_4]) rfl ?_
                  rw [HG1.out, HG2.out]
                  refine ⟨none, 0, ?_, ?_, HB.out.below⟩
                  · unfold Sec.val
                    simp only [HBL.out]
                  · exact Or.inl ⟨HNil.out, rfl, rfl⟩
                · obtain ⟨hg1, hg2⟩ := get_not HR.out (Or.inr (by rw [HOb.out]; exact hbb))
                  have HG2 := Lib.hid hg2
                  have HG1 := Lib.hid hg1
                  have hbx : (ob == b) = false := by rw [beq_eq_false_iff_ne]; exact hbb
                  clear hg1 hg2 hbb
                  obtain ⟨qr_0, qr_1, qr_2, qr_3, qr_4, qr_f⟩ := cells5 (HB.out.box 3 rfl)
                  have qr_l := HB.out.boxLt 3 rfl
                  go_wp2_with fail
                  generalize hU : (((((W8.setCell ⟨w.heap.size, 0, none⟩ (.string { data := #[] })).setCell ⟨w.heap.size, 1, none⟩ (.int .i64 0)).setCell ⟨w.heap.size, 2, none⟩ (.int .i64 0)).setCell ⟨w.heap.size, 3, none⟩ (.int .i64 0)).setCell ⟨w.heap.size, 4, none⟩ (.slice none 0 0)) = U9
                  clear qr_0 qr_1 qr_2 qr_3 qr_4 qr_f qr_l
                  have h0 := HB.out.store 3 rfl [.string { data := #[] }, .int .i64 0, .int .i64 0, .int .i64 0, .slice none 0 0] rfl
                  rw [show Bag.setAll W8 (w.heap.size) 0 [.string { data := #[] }, .int .i64 0, .int .i64 0, .int .i64 0, .slice none 0 0] = U9 from hU] at h0
                  simp only [List.set_cons_zero, List.set_cons_succ] at h0
                  clear HB
                  have HB := Lib.hid h0
                  clear h0
                  clear hU
                  obtain ⟨qr_0, qr_1, qr_2, qr_3, qr_4, qr_f⟩ := cells5 (HB.out.box 3 rfl)
                  have qr_l := HB.out.boxLt 3 rfl
                  refine bodyPost_ret (v := .tuple #[.agg #[.string { data := #[] }, .int .i64 0, .int .i64 0, .int .i64 0, .slice none 0 0], .int .i64 117]) (by simp [results, Tryz.results8, go_sem, qr_0, qr_1, qr_2, qr_3, qr_4]) rfl ?_
                  rw [HG1.out, HG2.out]
                  unfold Sec.val Sec.zero
                  rw [← str_nil]
                  exact ⟨none, 0, rfl, Or.inl ⟨rfl, rfl, rfl⟩, HB.out.below⟩
            · have hN0 : (0 : Int) < (N : Int) := by omega
              obtain ⟨Z, hZ⟩ : ∃ Z, List.replicate N 0#8 = Z := ⟨_, rfl⟩
              have hZl : Z.length = N := by rw [← hZ]; exact List.length_replicate
              have HZ := Lib.hid hZ
              have HZl := Lib.hid hZl
              clear hZ hZl
              go_wp2_with (at_make; go_loud (refine wpList_make_zeros rfl _ _ 44 rfl 5 i0 Tryz.underlying44 hi hz0 hz1 hz2 .i64 .i64 N rfl rfl (by omega) Z HZ.out ?_))
              intro W7 hO hb
              have hb1 : Below (W6.alloc (.cells #[.string (str T), .int .i64 E, .int .i64 Q, .int .i64 P, .slice none 0 0] 46 (0, 0))).heap.size (W6.alloc (.cells #[.string (str T), .int .i64 E, .int .i64 Q, .int .i64 P, .slice none 0 0] 46 (0, 0))) W7 := by rw [alloc_size]; exact hb
              have h0 := (HB.out.alloc #[.string (str T), .int .i64 E, .int .i64 Q, .int .i64 P, .slice none 0 0] 46).own hb1 hO (by rw [alloc_size]; exact Nat.le_refl _)
              clear HB
              have HB := Lib.hid h0
              clear h0
              clear hb hb1 hO
              generalize hgb : W6.heap.size + 1 = gb at *
              clear hgb
              obtain ⟨qs_0, qs_1, qs_2, qs_3, qs_4, qs_f⟩ := cells5 (HB.out.box 1 rfl)
              have qs_l := HB.out.boxLt 1 rfl
              have hw1 := wrapI64 (28 + (N : Int)) (by omega) (by omega)
              have hw0 : (0 : Int) ≤ 28 + (N : Int) := by omega
              have hw3 : (28 + (N : Int)).toNat = 28 + N := by omega
              have hw2 : (28 : Int) + (N : Int) ≤ (cap : Int) := by omega
              have hw4 : (28 : Int) ≤ 28 + (N : Int) := by omega
              go_wp2_with fail
              generalize hU : W7.setCell ⟨W6.heap.size, 4, none⟩ (.slice (some ⟨gb, 0, none⟩) N N) = U8
              clear qs_0 qs_1 qs_2 qs_3 qs_4 qs_f qs_l
              have h0 := HB.out.put 1 rfl 4 (.slice (some ⟨gb, 0, none⟩) N N)
              rw [hU, show It.box (W6.heap.size) (Array.setIfInBounds #[.string (str T), .int .i64 E, .int .i64 Q, .int .i64 P, .slice none 0 0] 4 (.slice (some ⟨gb, 0, none⟩) N N)) 46 = It.box (W6.heap.size) #[.string (str T), .int .i64 E, .int .i64 Q, .int .i64 P, .slice (some ⟨gb, 0, none⟩) N N] 46 from rfl] at h0
              simp only [List.set_cons_zero, List.set_cons_succ] at h0
              clear HB
              have HB := Lib.hid h0
              clear h0
              clear hU
              obtain ⟨qs_0, qs_1, qs_2, qs_3, qs_4, qs_f⟩ := cells5 (HB.out.box 1 rfl)
              have qs_l := HB.out.boxLt 1 rfl
              go_still_tail 8, (by kernel_rfl)
              change wpList _ _ _ _ _ U8.drew
              clear qs_0 qs_1 qs_2 qs_3 qs_4 qs_f qs_l
              generalize hU : U8.drew = U9
              have h0 := HB.out.drew
              rw [hU] at h0
              clear HB
              have HB := Lib.hid h0
              clear h0
              clear hU
              refine wpList_copy_at rfl (.tmp 59) (.tmp 65) 44 44 rfl 5 i0 Tryz.underlying44 hi hz1 gb 0 N N (some ⟨gb, 0, none⟩) (some ⟨blk, off + 28, none⟩) N N ?hd2 ?hs2 N 5 Z B (HB.out.mineOwn 0 rfl) (fun _ => rfl) (HRBd.out _ HB.out.below) HBL.out (Nat.le_refl _) (by rw [HZl.out]; omega) ?_
              case hd2 => rfl
              case hs2 => rfl
              intro W10 hO hs hb
              have hsp : splice Z 0 B = B := by simp [splice, HBL.out, HZl.out]
              rw [hsp] at hO
              clear hsp hs hw0 hw1 hw2 hw3 hw4
              have h0 := HB.out.row 0 rfl hb hO
              simp only [List.set_cons_zero] at h0
              clear HB
              have HB := Lib.hid h0
              clear h0
              clear hb hO
              go_simp
              obtain ⟨qs_0, qs_1, qs_2, qs_3, qs_4, qs_f⟩ := cells5 (HB.out.box 1 rfl)
              have qs_l := HB.out.boxLt 1 rfl
              go_wp2_with fail
              clear qs_0 qs_1 qs_2 qs_3 qs_4 qs_f qs_l
              refine (secPut' T E Q P B (some ⟨gb, 0, none⟩) N N _ HBL.out (fits_read HR.out c1 c2 c4) (HB.out.mineRd 0 rfl) (HTB.out _ HB.out.below).1 (HTB.out _ HB.out.below).2).mono ?_
              rintro e W11 ⟨ap, cp, rfl, Mx, hb⟩
              have h0 := HB.out.mine hb Mx
              clear HB
              have HB := Lib.hid h0
              clear h0
              clear Mx
              clear hb
              obtain ⟨pl, hpl⟩ : ∃ pl, putS ⟨T, E, Q, P, B⟩ = pl := ⟨_, rfl⟩
              obtain ⟨pe, hpe⟩ : ∃ pe, putE ⟨T, E, Q, P, B⟩ = pe := ⟨_, rfl⟩
              have hx : Bag w W11 _ := HB.out
              rw [hpl] at hx
              clear HB
              have HB := Lib.hid hx
              clear hx
              rw [hpl, hpe]
              cases hmay : Sec.may ⟨T, E, Q, P, B⟩ with
              | false =>
                have hm0 : Sec.may ⟨T, E, Q, P, B⟩ = false := by simpa using hmay
                obtain ⟨hg1, hg2⟩ := get_not HR.out (Or.inl hm0)
                have HG2 := Lib.hid hg2
                have HG1 := Lib.hid hg1
                obtain rfl : pe = 117 := by rw [← hpe]; simp [putE, hm0]
                clear hg1 hg2 hmay hm0 hpl hpe
                obtain ⟨qr_0, qr_1, qr_2, qr_3, qr_4, qr_f⟩ := cells5 (HB.out.box 4 rfl)
                have qr_l := HB.out.boxLt 4 rfl
                go_wp2_with fail
                generalize hU : (((((W11.setCell ⟨w.heap.size, 0, none⟩ (.string { data := #[] })).setCell ⟨w.heap.size, 1, none⟩ (.int .i64 0)).setCell ⟨w.heap.size, 2, none⟩ (.int .i64 0)).setCell ⟨w.heap.size, 3, none⟩ (.int .i64 0)).setCell ⟨w.heap.size, 4, none⟩ (.slice none 0 0)) = U12
                clear qr_0 qr_1 qr_2 qr_3 qr_4 qr_f qr_l
                have h0 := HB.out.store 4 rfl [.string { data := #[] }, .int .i64 0, .int .i64 0, .int .i64 0, .slice none 0 0] rfl
                rw [show Bag.setAll W11 (w.heap.size) 0 [.string { data := #[] }, .int .i64 0, .int .i64 0, .int .i64 0, .slice none 0 0] = U12 from hU] at h0
                simp only [List.set_cons_zero, List.set_cons_succ] at h0
                clear HB
                have HB := Lib.hid h0
                clear h0
                clear hU
                obtain ⟨qr_0, qr_1, qr_2, qr_3, qr_4, qr_f⟩ := cells5 (HB.out.box 4 rfl)
                have qr_l := HB.out.boxLt 4 rfl
                refine bodyPost_ret (v := .tuple #[.agg #[.string { data := #[] }, .int .i64 0, .int .i64 0, .int .i64 0, .slice none 0 0], .int .i64 117]) (by simp [results, Tryz.results8, go_sem, qr_0, qr_1, qr_2, qr_3, qr_4]) rfl ?_
                rw [HG1.out, HG2.out]
                unfold Sec.val Sec.zero
                rw [← str_nil]
                exact ⟨none, 0, rfl, Or.inl ⟨rfl, rfl, rfl⟩, HB.out.below⟩
              | true =>
                have hm1 : Sec.may ⟨T, E, Q, P, B⟩ = true := hmay
                obtain rfl : pe = 0 := by rw [← hpe]; simp [putE, hm1]
                obtain rfl : pl = Sec.bytes ⟨T, E, Q, P, B⟩ := by rw [← hpl]; simp [putS, hm1]
                have hbl := bytes_len hm1
                obtain ⟨ob, hob⟩ : ∃ ob, Sec.bytes ⟨T, E, Q, P, B⟩ = ob := ⟨_, rfl⟩
                have hx : Bag w W11 _ := HB.out
                rw [hob] at hx hbl ⊢
                clear HB
                have HB := Lib.hid hx
                clear hx
                have hcv1 := cvRun W11 ap ob ob.length cp rfl (HB.out.mineRd 0 rfl)
                have hcv2 := cvRun W11 (some ⟨blk, off, none⟩) b 512 cap HBl.out (HRB.out _ HB.out.below)
                have HPl := Lib.hid hpl
                have HPe := Lib.hid hpe
                have HOb := Lib.hid hob
                have HM := Lib.hid hm1
                clear hpl hpe hob hbl hm1 hmay
                by_cases hbb : ob = b
                · obtain ⟨hg1, hg2⟩ := getV_some (getS_yes (by rw [HR.out.sec]; exact HM.out) (by rw [HR.out.sec, HOb.out]; exact hbb))
                  rw [HR.out.sec] at hg1
                  have HG2 := Lib.hid hg2
                  have HG1 := Lib.hid hg1
                  have hbx : (ob == b) = true := by rw [beq_iff_eq]; exact hbb
                  clear hg1 hg2 hbb
                  obtain ⟨qs_0, qs_1, qs_2, qs_3, qs_4, qs_f⟩ := cells5 (HB.out.box 2 rfl)
                  have qs_l := HB.out.boxLt 2 rfl
                  obtain ⟨qr_0, qr_1, qr_2, qr_3, qr_4, qr_f⟩ := cells5 (HB.out.box 4 rfl)
                  have qr_l := HB.out.boxLt 4 rfl
                  have nr_s := HB.out.boxNe 4 2 rfl rfl (by decide)
                  go_wp2_with fail
                  generalize hU : (((((W11.setCell ⟨w.heap.size, 0, none⟩ (.string (str T))).setCell ⟨w.heap.size, 1, none⟩ (.int .i64 E)).setCell ⟨w.heap.size, 2, none⟩ (.int .i64 Q)).setCell ⟨w.heap.size, 3, none⟩ (.int .i64 P)).setCell ⟨w.heap.size, 4, none⟩ (.slice (some ⟨gb, 0, none⟩) N N)) = U12
                  clear qs_0 qs_1 qs_2 qs_3 qs_4 qs_f qs_l qr_0 qr_1 qr_2 qr_3 qr_4 qr_f qr_l nr_s
                  have h0 := HB.out.store 4 rfl [.string (str T), .int .i64 E, .int .i64 Q, .int .i64 P, .slice (some ⟨gb, 0, none⟩) N N] rfl
                  rw [show Bag.setAll W11 (w.heap.size) 0 [.string (str T), .int .i64 E, .int .i64 Q, .int .i64 P, .slice (some ⟨gb, 0, none⟩) N N] = U12 from hU] at h0
                  simp only [List.set_cons_zero, List.set_cons_succ] at h0
                  clear HB
                  have HB := Lib.hid h0
                  clear h0
                  clear hU
                  obtain ⟨qr_0, qr_1, qr_2, qr_3, qr_4, qr_f⟩ := cells5 (HB.out.box 4 rfl)
                  have qr_l := HB.out.boxLt 4 rfl
                  refine bodyPost_ret (v := .tuple #[.agg #[.string (str T), .int .i64 E, .int .i64 Q, .int .i64 P, .slice (some ⟨gb, 0, none⟩) N N], .int .i64 0]) (by simp [results, Tryz.results8, go_sem, qr_0, qr_1, qr_2, qr_3, qr_4]) rfl ?_
                  rw [HG1.out, HG2.out]
                  refine ⟨(some ⟨gb, 0, none⟩), N, ?_, ?_, HB.out.below⟩
                  · unfold Sec.val
                    simp only [HBL.out]
                  · exact HB.out.mineMine 1 rfl
                · obtain ⟨hg1, hg2⟩ := get_not HR.out (Or.inr (by rw [HOb.out]; exact hbb))
                  have HG2 := Lib.hid hg2
                  have HG1 := Lib.hid hg1
                  have hbx : (ob == b) = false := by rw [beq_eq_false_iff_ne]; exact hbb
                  clear hg1 hg2 hbb
                  obtain ⟨qr_0, qr_1, qr_2, qr_3, qr_4, qr_f⟩ := cells5 (HB.out.box 4 rfl)
                  have qr_l := HB.out.boxLt 4 rfl
                  go_wp2_with fail
                  generalize hU : (((((W11.setCell ⟨w.heap.size, 0, none⟩ (.string { data := #[] })).setCell ⟨w.heap.size, 1, none⟩ (.int .i64 0)).setCell ⟨w.heap.size, 2, none⟩ (.int .i64 0)).setCell ⟨w.heap.size, 3, none⟩ (.int .i64 0)).setCell ⟨w.heap.size, 4, none⟩ (.slice none 0 0)) = U12
                  clear qr_0 qr_1 qr_2 qr_3 qr_4 qr_f qr_l
                  have h0 := HB.out.store 4 rfl [.string { data := #[] }, .int .i64 0, .int .i64 0, .int .i64 0, .slice none 0 0] rfl
                  rw [show Bag.setAll W11 (w.heap.size) 0 [.string { data := #[] }, .int .i64 0, .int .i64 0, .int .i64 0, .slice none 0 0] = U12 from hU] at h0
                  simp only [List.set_cons_zero, List.set_cons_succ] at h0
                  clear HB
                  have HB := Lib.hid h0
                  clear h0
                  clear hU
                  obtain ⟨qr_0, qr_1, qr_2, qr_3, qr_4, qr_f⟩ := cells5 (HB.out.box 4 rfl)
                  have qr_l := HB.out.boxLt 4 rfl
                  refine bodyPost_ret (v := .tuple #[.agg #[.string { data := #[] }, .int .i64 0, .int .i64 0, .int .i64 0, .slice none 0 0], .int .i64 117]) (by simp [results, Tryz.results8, go_sem, qr_0, qr_1, qr_2, qr_3, qr_4]) rfl ?_
                  rw [HG1.out, HG2.out]
                  unfold Sec.val Sec.zero
                  rw [← str_nil]
                  exact ⟨none, 0, rfl, Or.inl ⟨rfl, rfl, rfl⟩, HB.out.below⟩
          · obtain ⟨hg1, hg2⟩ := get_not HR.out (Or.inl (may_not HR.out (by omega)))
            have HG2 := Lib.hid hg2
            have HG1 := Lib.hid hg1
            clear hg1 hg2
            have c4x : ¬ (N : Int) ≤ 480 := by omega
            obtain ⟨qr_0, qr_1, qr_2, qr_3, qr_4, qr_f⟩ := cells5 (HB.out.box 1 rfl)
            have qr_l := HB.out.boxLt 1 rfl
            go_wp2_with fail
            generalize hU : (((((W6.setCell ⟨w.heap.size, 0, none⟩ (.string { data := #[] })).setCell ⟨w.heap.size, 1, none⟩ (.int .i64 0)).setCell ⟨w.heap.size, 2, none⟩ (.int .i64 0)).setCell ⟨w.heap.size, 3, none⟩ (.int .i64 0)).setCell ⟨w.heap.size, 4, none⟩ (.slice none 0 0)) = U7
            clear qr_0 qr_1 qr_2 qr_3 qr_4 qr_f qr_l
            have h0 := HB.out.store 1 rfl [.string { data := #[] }, .int .i64 0, .int .i64 0, .int .i64 0, .slice none 0 0] rfl
            rw [show Bag.setAll W6 (w.heap.size) 0 [.string { data := #[] }, .int .i64 0, .int .i64 0, .int .i64 0, .slice none 0 0] = U7 from hU] at h0
            simp only [List.set_cons_zero, List.set_cons_succ] at h0
            clear HB
            have HB := Lib.hid h0
            clear h0
            clear hU
            obtain ⟨qr_0, qr_1, qr_2, qr_3, qr_4, qr_f⟩ := cells5 (HB.out.box 1 rfl)
            have qr_l := HB.out.boxLt 1 rfl
            refine bodyPost_ret (v := .tuple #[.agg #[.string { data := #[] }, .int .i64 0, .int .i64 0, .int .i64 0, .slice none 0 0], .int .i64 117]) (by simp [results, Tryz.results8, go_sem, qr_0, qr_1, qr_2, qr_3, qr_4]) rfl ?_
            rw [HG1.out, HG2.out]
            unfold Sec.val Sec.zero
            rw [← str_nil]
            exact ⟨none, 0, rfl, Or.inl ⟨rfl, rfl, rfl⟩, HB.out.below⟩
        · obtain ⟨hg1, hg2⟩ := get_not HR.out (Or.inl (may_not HR.out (by omega)))
          have HG2 := Lib.hid hg2
          have HG1 := Lib.hid hg1
          clear hg1 hg2
          obtain ⟨qr_0, qr_1, qr_2, qr_3, qr_4, qr_f⟩ := cells5 (HB.out.box 1 rfl)
          have qr_l := HB.out.boxLt 1 rfl
          go_wp2_with fail
          generalize hU : (((((W6.setCell ⟨w.heap.size, 0, none⟩ (.string { data := #[] })).setCell ⟨w.heap.size, 1, none⟩ (.int .i64 0)).setCell ⟨w.heap.size, 2, none⟩ (.int .i64 0)).setCell ⟨w.heap.size, 3, none⟩ (.int .i64 0)).setCell ⟨w.heap.size, 4, none⟩ (.slice none 0 0)) = U7
          clear qr_0 qr_1 qr_2 qr_3 qr_4 qr_f qr_l
          have h0 := HB.out.store 1 rfl [.string { data := #[] }, .int .i64 0, .int .i64 0, .int .i64 0, .slice none 0 0] rfl
          rw [show Bag.setAll W6 (w.heap.size) 0 [.string { data := #[] }, .int .i64 0, .int .i64 0, .int .i64 0, .slice none 0 0] = U7 from hU] at h0
          simp only [List.set_cons_zero, List.set_cons_succ] at h0
          clear HB
          have HB := Lib.hid h0
          clear h0
          clear hU
          obtain ⟨qr_0, qr_1, qr_2, qr_3, qr_4, qr_f⟩ := cells5 (HB.out.box 1 rfl)
          have qr_l := HB.out.boxLt 1 rfl
          refine bodyPost_ret (v := .tuple #[.agg #[.string { data := #[] }, .int .i64 0, .int .i64 0, .int .i64 0, .slice none 0 0], .int .i64 117]) (by simp [results, Tryz.results8, go_sem, qr_0, qr_1, qr_2, qr_3, qr_4]) rfl ?_
          rw [HG1.out, HG2.out]
          unfold Sec.val Sec.zero
          rw [← str_nil]
          exact ⟨none, 0, rfl, Or.inl ⟨rfl, rfl, rfl⟩, HB.out.below⟩
      · obtain ⟨hg1, hg2⟩ := get_not HR.out (Or.inl (may_not HR.out (by omega)))
        have HG2 := Lib.hid hg2
        have HG1 := Lib.hid hg1
        clear hg1 hg2
        obtain ⟨qr_0, qr_1, qr_2, qr_3, qr_4, qr_f⟩ := cells5 (HB.out.box 1 rfl)
        have qr_l := HB.out.boxLt 1 rfl
        go_wp2_with fail
        generalize hU : (((((W6.setCell ⟨w.heap.size, 0, none⟩ (.string { data := #[] })).setCell ⟨w.heap.size, 1, none⟩ (.int .i64 0)).setCell ⟨w.heap.size, 2, none⟩ (.int .i64 0)).setCell ⟨w.heap.size, 3, none⟩ (.int .i64 0)).setCell ⟨w.heap.size, 4, none⟩ (.slice none 0 0)) = U7
        clear qr_0 qr_1 qr_2 qr_3 qr_4 qr_f qr_l
        have h0 := HB.out.store 1 rfl [.string { data := #[] }, .int .i64 0, .int .i64 0, .int .i64 0, .slice none 0 0] rfl
        rw [show Bag.setAll W6 (w.heap.size) 0 [.string { data := #[] }, .int .i64 0, .int .i64 0, .int .i64 0, .slice none 0 0] = U7 from hU] at h0
        simp only [List.set_cons_zero, List.set_cons_succ] at h0
        clear HB
        have HB := Lib.hid h0
        clear h0
        clear hU
        obtain ⟨qr_0, qr_1, qr_2, qr_3, qr_4, qr_f⟩ := cells5 (HB.out.box 1 rfl)
        have qr_l := HB.out.boxLt 1 rfl
        refine bodyPost_ret (v := .tuple #[.agg #[.string { data := #[] }, .int .i64 0, .int .i64 0, .int .i64 0, .slice none 0 0], .int .i64 117]) (by simp [results, Tryz.results8, go_sem, qr_0, qr_1, qr_2, qr_3, qr_4]) rfl ?_
        rw [HG1.out, HG2.out]
        unfold Sec.val Sec.zero
        rw [← str_nil]
        exact ⟨none, 0, rfl, Or.inl ⟨rfl, rfl, rfl⟩, HB.out.below⟩
    · obtain ⟨hg1, hg2⟩ := get_not HR.out (Or.inl (may_not HR.out (by omega)))
      have HG2 := Lib.hid hg2
      have HG1 := Lib.hid hg1
      clear hg1 hg2
      obtain ⟨qr_0, qr_1, qr_2, qr_3, qr_4, qr_f⟩ := cells5 (HB.out.box 1 rfl)
      have qr_l := HB.out.boxLt 1 rfl
      go_wp2_with fail
      generalize hU : (((((W6.setCell ⟨w.heap.size, 0, none⟩ (.string { data := #[] })).setCell ⟨w.heap.size, 1, none⟩ (.int .i64 0)).setCell ⟨w.heap.size, 2, none⟩ (.int .i64 0)).setCell ⟨w.heap.size, 3, none⟩ (.int .i64 0)).setCell ⟨w.heap.size, 4, none⟩ (.slice none 0 0)) = U7
      clear qr_0 qr_1 qr_2 qr_3 qr_4 qr_f qr_l
      have h0 := HB.out.store 1 rfl [.string { data := #[] }, .int .i64 0, .int .i64 0, .int .i64 0, .slice none 0 0] rfl
      rw [show Bag.setAll W6 (w.heap.size) 0 [.string { data := #[] }, .int .i64 0, .int .i64 0, .int .i64 0, .slice none 0 0] = U7 from hU] at h0
      simp only [List.set_cons_zero, List.set_cons_succ] at h0
      clear HB
      have HB := Lib.hid h0
      clear h0
      clear hU
      obtain ⟨qr_0, qr_1, qr_2, qr_3, qr_4, qr_f⟩ := cells5 (HB.out.box 1 rfl)
      have qr_l := HB.out.boxLt 1 rfl
      refine bodyPost_ret (v := .tuple #[.agg #[.string { data := #[] }, .int .i64 0, .int .i64 0, .int .i64 0, .slice none 0 0], .int .i64 117]) (by simp [results, Tryz.results8, go_sem, qr_0, qr_1, qr_2, qr_3, qr_4]) rfl ?_
      rw [HG1.out, HG2.out]
      unfold Sec.val Sec.zero
      rw [← str_nil]
      exact ⟨none, 0, rfl, Or.inl ⟨rfl, rfl, rfl⟩, HB.out.below⟩
  · obtain ⟨e1, e2⟩ := getV_none (getS_len (by rw [hn]; exact h512))
    have HG2 := Lib.hid e2
    have HG1 := Lib.hid e1
    clear e1 e2 hr ht hn
    go_enter Tryz.func8, Tryz.ntmps8
    go_wp2_with fail
    generalize hU : (w.alloc (.cells #[.string { data := #[] }, .int .i64 0, .int .i64 0, .int .i64 0, .slice none 0 0] 46 (0, 0))) = U1
    have h0 := (Bag.start w).allocAt #[.string { data := #[] }, .int .i64 0, .int .i64 0, .int .i64 0, .slice none 0 0] 46 (w.heap.size) rfl
    rw [hU] at h0
    have HB := Lib.hid h0
    clear h0 hU
    obtain ⟨qr_0, qr_1, qr_2, qr_3, qr_4, qr_f⟩ := cells5 (HB.out.box 0 rfl)
    have qr_l := HB.out.boxLt 0 rfl
    refine bodyPost_ret (v := .tuple #[.agg #[.string { data := #[] }, .int .i64 0, .int .i64 0, .int .i64 0, .slice none 0 0], .int .i64 117]) (by simp [results, Tryz.results8, go_sem, qr_0, qr_1, qr_2, qr_3, qr_4]) rfl ?_
    rw [HG1.out, HG2.out]
    unfold Sec.val Sec.zero
    rw [← str_nil]
    exact ⟨none, 0, rfl, Or.inl ⟨rfl, rfl, rfl⟩, HB.out.below⟩
theorem Mine.nilCap {w : World} {B : Nat} {e : TypeId} {ao : Option Addr} {cap : Nat} {l : List (BitVec 8)} (h : Mine w B e ao cap l) : ao = none → cap = 0 := by
  rcases h with ⟨_, _, h⟩ | ⟨g, rfl, _⟩
  · intro _; exact h
  · intro h; cases h
theorem refMay' (T : List (BitVec 8)) (E Q P : Int) (B : List (BitVec 8)) (ao : Option Addr) (N cap : Nat) (w : World) (hN : B.length = N) (hf : Sec.fits ⟨T, E, Q, P, B⟩) :
   Calls Tryz.prog 16 #[.agg #[.string (str T), .int .i64 E, .int .i64 Q, .int .i64 P, .slice ao N cap]] w fun e w' => e = .returned (.bool (Sec.may ⟨T, E, Q, P, B⟩)) ∧ Below w.heap.size w w' := by
  subst hN
  exact refMay ⟨T, E, Q, P, B⟩ ao cap w hf
theorem refPut' (T : List (BitVec 8)) (E Q P : Int) (B : List (BitVec 8)) (ao : Option Addr) (N cap : Nat) (w : World) (hN : B.length = N) (hf : Sec.fits ⟨T, E, Q, P, B⟩) (hr : Rd w ao B) (hc : ao = none → cap = 0) :
   Calls Tryz.prog 6 #[.agg #[.string (str T), .int .i64 E, .int .i64 Q, .int .i64 P, .slice ao N cap]] w fun e w' => ∃ ar cr, e = .returned (.tuple #[.slice ar (putS ⟨T, E, Q, P, B⟩).length cr, .int .i64 (putE ⟨T, E, Q, P, B⟩)]) ∧ Mine w' w.heap.size 5 ar cr (putS ⟨T, E, Q, P, B⟩) ∧ Below w.heap.size w w' := by
  subst hN
  exact refPut ⟨T, E, Q, P, B⟩ ao cap w hf hr hc
theorem Bag.swap {w W : World} {a b : It} {l : List It} (h : Bag w W (a :: b :: l)) : Bag w W (b :: a :: l) := by
  refine h.sub (fun i => if i = 0 then 1 else if i = 1 then 0 else i) ?_ ?_
  · rintro (_ | _ | i) x hx
    · simpa using hx
    · simpa using hx
    · simpa using hx
  · intro i j _ _ hij
    split at hij <;> split at hij <;> (try split at hij) <;> (try split at hij) <;> omega
/-- What Right answers. -/
def rightO (b tag : List (BitVec 8)) (ep sq pl : Int) : Bool := (getS b).isSome && ((getV b).tag == tag && ((getV b).epoch == ep && ((getV b).seq == sq && (getV b).place == pl)))
def rightB (b tag : List (BitVec 8)) (ep sq pl : Int) : List (BitVec 8) := if rightO b tag ep sq pl then (getV b).body else []
theorem right_no {b tag : List (BitVec 8)} {ep sq pl : Int} (h : rightO b tag ep sq pl = false) : rightB b tag ep sq pl = [] := by simp [rightB, h]
theorem right_yes {b tag : List (BitVec 8)} {ep sq pl : Int} (h : rightO b tag ep sq pl = true) : rightB b tag ep sq pl = (getV b).body := by simp [rightB, h]
theorem getE_cases (b : List (BitVec 8)) : ((getS b).isSome = true ∧ getE b = 0) ∨ ((getS b).isSome = false ∧ getE b = 117) := by
  unfold getE
  cases (getS b).isSome
  · exact Or.inr ⟨rfl, by simp⟩
  · exact Or.inl ⟨rfl, by simp⟩
theorem getV_tag {b : List (BitVec 8)} (h : (getS b).isSome = true) : (getV b).tag = b.take 4 := by
  unfold getS at h
  split at h
  · rename_i h1
    unfold getV getS
    rw [if_pos h1]
    rfl
  · cases h
set_option maxHeartbeats 4000000 in
theorem secRight (b : List (BitVec 8)) (ao : Option Addr) (n cap : Nat) (tag : List (BitVec 8)) (ep sq pl : Int) (w : World) (hn : b.length = n) (hcap : n ≤ cap) (hr : Rd w ao b) (ht : Tab w) (hT : 0 < w.heap.size) :
   Calls Tryz.prog 9 #[.slice ao n cap, .string (str tag), .int .i64 ep, .int .i64 sq, .int .i64 pl] w fun e w' => ∃ ar cr, e = .returned (.tuple #[.slice ar (rightB b tag ep sq pl).length cr, .bool (rightO b tag ep sq pl)]) ∧ Mine w' w.heap.size 5 ar cr (rightB b tag ep sq pl) ∧ Below w.heap.size w w' := by
  have HG := fun (W : World) (hb : Below w.heap.size w W) => secGet b ao n cap W hn hcap (hr.on hb) (ht.below hb hT) (Nat.lt_of_lt_of_le hT hb.size)
  obtain ⟨V, hV⟩ : ∃ V, getV b = V := ⟨_, rfl⟩
  obtain ⟨vt, ve, vs, vp, vb⟩ := V
  rw [hV] at HG
  unfold Sec.val at HG
  simp only at HG
  have HV := Lib.hid hV
  clear hV
  go_enter Tryz.func9, Tryz.ntmps9
  go_wp2_with fail
  refine (HG _ (Below.refl _ _)).mono ?_
  rintro e W0 ⟨ar, cr, rfl, Mx, hb⟩
  have HB := Lib.hid ((Bag.start w).mine hb Mx)
  clear Mx hb
  rcases getE_cases b with ⟨he1, he2⟩ | ⟨he1, he2⟩
  · rw [he2]
    have HE := Lib.hid he1
    clear he1 he2 HG
    by_cases d1 : vt = tag
    · subst d1
      by_cases d2 : ve = ep
      · subst d2
        by_cases d3 : vs = sq
        · subst d3
          by_cases d4 : vp = pl
          · subst d4
            have hz : rightO b vt ve vs vp = true := by simp [rightO, HE.out, HV.out]
            have HR0 := Lib.hid hz
            have HR1 := Lib.hid (right_yes hz)
            clear hz
            go_wp2_with fail
            generalize hU : W0.alloc (.cells #[.string (str vt), .int .i64 ve, .int .i64 vs, .int .i64 vp, .slice ar vb.length cr] 46 (0, 0)) = U1
            have h0 := HB.out.alloc #[.string (str vt), .int .i64 ve, .int .i64 vs, .int .i64 vp, .slice ar vb.length cr] 46
            rw [hU] at h0
            clear HB
            have HB := Lib.hid h0
            clear h0
            clear hU
            go_ret2
            rw [HR0.out, HR1.out, HV.out]
            exact ⟨ar, cr, rfl, HB.out.mineMine 1 rfl, HB.out.below⟩
          · have hz : rightO b vt ve vs pl = false := by simp [rightO, HE.out, HV.out, d4]
            have HR0 := Lib.hid hz
            have HR1 := Lib.hid (right_no hz)
            have d4x : (vp != pl) = true := by simp [d4]
            clear hz d4
            go_wp2_with fail
            generalize hU : W0.alloc (.cells #[.string (str vt), .int .i64 ve, .int .i64 vs, .int .i64 vp, .slice ar vb.length cr] 46 (0, 0)) = U1
            have h0 := HB.out.alloc #[.string (str vt), .int .i64 ve, .int .i64 vs, .int .i64 vp, .slice ar vb.length cr] 46
            rw [hU] at h0
            clear HB
            have HB := Lib.hid h0
            clear h0
            clear hU
            go_ret2
            rw [HR0.out, HR1.out]
            exact ⟨none, 0, rfl, Or.inl ⟨rfl, rfl, rfl⟩, HB.out.below⟩
        · have hz : rightO b vt ve sq pl = false := by simp [rightO, HE.out, HV.out, d3]
          have HR0 := Lib.hid hz
          have HR1 := Lib.hid (right_no hz)
          have d3x : (vs != sq) = true := by simp [d3]
          clear hz d3
          go_wp2_with fail
          generalize hU : W0.alloc (.cells #[.string (str vt), .int .i64 ve, .int .i64 vs, .int .i64 vp, .slice ar vb.length cr] 46 (0, 0)) = U1
          have h0 := HB.out.alloc #[.string (str vt), .int .i64 ve, .int .i64 vs, .int .i64 vp, .slice ar vb.length cr] 46
          rw [hU] at h0
          clear HB
          have HB := Lib.hid h0
          clear h0
          clear hU
          go_ret2
          rw [HR0.out, HR1.out]
          exact ⟨none, 0, rfl, Or.inl ⟨rfl, rfl, rfl⟩, HB.out.below⟩
      · have hz : rightO b vt ep sq pl = false := by simp [rightO, HE.out, HV.out, d2]
        have HR0 := Lib.hid hz
        have HR1 := Lib.hid (right_no hz)
        have d2x : (ve != ep) = true := by simp [d2]
        clear hz d2
        go_wp2_with fail
        generalize hU : W0.alloc (.cells #[.string (str vt), .int .i64 ve, .int .i64 vs, .int .i64 vp, .slice ar vb.length cr] 46 (0, 0)) = U1
        have h0 := HB.out.alloc #[.string (str vt), .int .i64 ve, .int .i64 vs, .int .i64 vp, .slice ar vb.length cr] 46
        rw [hU] at h0
        clear HB
        have HB := Lib.hid h0
        clear h0
        clear hU
        go_ret2
        rw [HR0.out, HR1.out]
        exact ⟨none, 0, rfl, Or.inl ⟨rfl, rfl, rfl⟩, HB.out.below⟩
    · have hz : rightO b tag ep sq pl = false := by simp [rightO, HE.out, HV.out, d1]
      have HR0 := Lib.hid hz
      have HR1 := Lib.hid (right_no hz)
      have d1x : (vt == tag) = false := by rw [beq_eq_false_iff_ne]; exact d1
      clear hz d1
      go_wp2_with fail
      generalize hU : W0.alloc (.cells #[.string (str vt), .int .i64 ve, .int .i64 vs, .int .i64 vp, .slice ar vb.length cr] 46 (0, 0)) = U1
      have h0 := HB.out.alloc #[.string (str vt), .int .i64 ve, .int .i64 vs, .int .i64 vp, .slice ar vb.length cr] 46
      rw [hU] at h0
      clear HB
      have HB := Lib.hid h0
      clear h0
      clear hU
      go_ret2
      rw [HR0.out, HR1.out]
      exact ⟨none, 0, rfl, Or.inl ⟨rfl, rfl, rfl⟩, HB.out.below⟩
  · rw [he2]
    have hz : rightO b tag ep sq pl = false := by simp [rightO, he1]
    have HR0 := Lib.hid hz
    have HR1 := Lib.hid (right_no hz)
    clear hz he1 he2 HG
    go_wp2_with fail
    generalize hU : W0.alloc (.cells #[.string (str vt), .int .i64 ve, .int .i64 vs, .int .i64 vp, .slice ar vb.length cr] 46 (0, 0)) = U1
    have h0 := HB.out.alloc #[.string (str vt), .int .i64 ve, .int .i64 vs, .int .i64 vp, .slice ar vb.length cr] 46
    rw [hU] at h0
    clear HB
    have HB := Lib.hid h0
    clear h0
    clear hU
    go_ret2
    rw [HR0.out, HR1.out]
    exact ⟨none, 0, rfl, Or.inl ⟨rfl, rfl, rfl⟩, HB.out.below⟩
theorem drop_app {α : Type} (a b : List α) (n k : Nat) (h : a.length = n) : (a ++ b).drop (n + k) = b.drop k := by
  rw [List.drop_append, List.drop_of_length_le (by omega), List.nil_append]
  congr 1; omega
theorem val_w64 (x : Int) (h0 : 0 ≤ x) (h1 : x ≤ 4611686018427387904) (n : Nat) (hn : n ≤ 8) (hx : x.toNat < 2 ^ (8 * n)) : ((val (be (w64 x) n)).toNat : Int) = x := by
  rw [val_be, BitVec.toNat_and, BitVec.toNat_ofNat]
  have hp : 2 ^ (8 * n) ≤ 2 ^ 64 := Nat.pow_le_pow_right (by decide) (by omega)
  have hp0 : 0 < 2 ^ (8 * n) := Nat.pow_pos (by decide)
  rw [Nat.mod_eq_of_lt (by omega), Nat.and_two_pow_sub_one_eq_mod]
  have : (w64 x).toNat = x.toNat := by simp only [w64, BitVec.toNat_ofNat]; omega
  rw [this, Nat.mod_eq_of_lt hx]
  omega
theorem readS_bytes {S : Sec} (h : S.may = true) : readS S.bytes = S := by
  obtain ⟨htag, ⟨hE0, hE1⟩, ⟨hS0, hS1⟩, ⟨hP0, hP1⟩, hL⟩ := may_iff.1 h
  have htl := tag_len htag
  obtain ⟨T, E, Q, P, B⟩ := S
  simp only at htl hE0 hE1 hS0 hS1 hP0 hP1 hL
  have e : Sec.bytes ⟨T, E, Q, P, B⟩ = T ++ (be (w64 E) 8 ++ (be (w64 Q) 8 ++ (be (w64 P) 4 ++ (be (BitVec.ofNat 64 B.length) 2 ++ ([0#8, 0#8] ++ (B ++ (List.replicate (480 - B.length) 0#8 ++ be ((Crc.sum (Sec.pre ⟨T, E, Q, P, B⟩)).setWidth 64) 4))))))) := by
    simp [Sec.bytes, sealed, Sec.pre, Sec.head, List.append_assoc]
  generalize be ((Crc.sum (Sec.pre ⟨T, E, Q, P, B⟩)).setWidth 64) 4 = s at e
  have bl : ∀ x n, (be x n).length = n := be_length
  have d4 : (Sec.bytes ⟨T, E, Q, P, B⟩).drop 4 = be (w64 E) 8 ++ (be (w64 Q) 8 ++ (be (w64 P) 4 ++ (be (BitVec.ofNat 64 B.length) 2 ++ ([0#8, 0#8] ++ (B ++ (List.replicate (480 - B.length) 0#8 ++ s)))))) := by
    rw [e]; exact drop_app _ _ 4 0 htl
  have d12 : (Sec.bytes ⟨T, E, Q, P, B⟩).drop 12 = be (w64 Q) 8 ++ (be (w64 P) 4 ++ (be (BitVec.ofNat 64 B.length) 2 ++ ([0#8, 0#8] ++ (B ++ (List.replicate (480 - B.length) 0#8 ++ s))))) := by
    rw [show 12 = 4 + 8 from rfl, ← List.drop_drop, d4]; exact drop_app _ _ 8 0 (bl _ _)
  have d20 : (Sec.bytes ⟨T, E, Q, P, B⟩).drop 20 = be (w64 P) 4 ++ (be (BitVec.ofNat 64 B.length) 2 ++ ([0#8, 0#8] ++ (B ++ (List.replicate (480 - B.length) 0#8 ++ s)))) := by
    rw [show 20 = 12 + 8 from rfl, ← List.drop_drop, d12]; exact drop_app _ _ 8 0 (bl _ _)
  have d24 : (Sec.bytes ⟨T, E, Q, P, B⟩).drop 24 = be (BitVec.ofNat 64 B.length) 2 ++ ([0#8, 0#8] ++ (B ++ (List.replicate (480 - B.length) 0#8 ++ s))) := by
    rw [show 24 = 20 + 4 from rfl, ← List.drop_drop, d20]; exact drop_app _ _ 4 0 (bl _ _)
  have d28 : (Sec.bytes ⟨T, E, Q, P, B⟩).drop 28 = B ++ (List.replicate (480 - B.length) 0#8 ++ s) := by
    rw [show 28 = (24 + 2) + 2 from rfl, ← List.drop_drop, ← List.drop_drop, d24]
    have := drop_app (be (BitVec.ofNat 64 B.length) 2) ([0#8, 0#8] ++ (B ++ (List.replicate (480 - B.length) 0#8 ++ s))) 2 0 (bl _ _)
    rw [show (2 : Nat) = 2 + 0 from rfl, this]
    rfl
  have t0 : (Sec.bytes ⟨T, E, Q, P, B⟩).take 4 = T := by rw [e]; exact List.take_left' htl
  have vE := val_w64 E (by omega) hE1 8 (by decide) (by omega)
  have vQ := val_w64 Q (by omega) hS1 8 (by decide) (by omega)
  have vP := val_w64 P (by omega) (by omega) 4 (by decide) (by omega)
  have vN : (val (be (BitVec.ofNat 64 B.length) 2)).toNat = B.length := by
    rw [val_be, BitVec.toNat_and, BitVec.toNat_ofNat, BitVec.toNat_ofNat]
    rw [show (2 ^ (8 * 2) - 1) % 2 ^ 64 = 2 ^ 16 - 1 by decide, Nat.and_two_pow_sub_one_eq_mod]
    omega
  unfold readS
  rw [t0, d4, d12, d20, d24, d28, List.take_left' (bl _ _), List.take_left' (bl _ _), List.take_left' (bl _ _), List.take_left' (bl _ _), vE, vQ, vP, vN, List.take_left' rfl]
theorem getS_bytes {S : Sec} (h : S.may = true) : getS S.bytes = some S := by
  have := getS_yes (b := S.bytes) (by rw [readS_bytes h]; exact h) (by rw [readS_bytes h])
  rw [this, readS_bytes h]
theorem getS_spec {b : List (BitVec 8)} {S : Sec} (h : getS b = some S) : S.may = true ∧ S.bytes = b := by
  unfold getS at h
  split at h
  · rename_i h1
    cases h
    exact h1
  · cases h
/-- Bytes of one length that are not a sector's any more: the first 508 turned so that the sum is another one. -/
theorem getS_sum {S : Sec} (_h : S.may = true) {P : List (BitVec 8)} {q : List (BitVec 8)} (hP : P.length = 508) (hq : q = be ((Crc.sum S.pre).setWidth 64) 4) (hne : Crc.sum P ≠ Crc.sum S.pre) : getS (P ++ q) = none := by
  cases hg : getS (P ++ q) with
  | none => rfl
  | some S' =>
    obtain ⟨h1, h2⟩ := getS_spec hg
    obtain ⟨h3, h4⟩ := List.append_inj (show S'.pre ++ be ((Crc.sum S'.pre).setWidth 64) 4 = P ++ q from h2) (by rw [pre_len h1, hP])
    rw [h3, hq] at h4
    have h5 := be_inj (by decide) (by rw [BitVec.toNat_setWidth]; have := (Crc.sum P).isLt; omega) (by rw [BitVec.toNat_setWidth]; have := (Crc.sum S.pre).isLt; omega) h4
    refine absurd ?_ hne
    have h6 := congrArg (BitVec.setWidth 32) h5
    simpa using h6
theorem getS_tail {S : Sec} (h : S.may = true) {q : List (BitVec 8)} (hq : q ≠ be ((Crc.sum S.pre).setWidth 64) 4) : getS (S.pre ++ q) = none := by
  cases hg : getS (S.pre ++ q) with
  | none => rfl
  | some S' =>
    obtain ⟨h1, h2⟩ := getS_spec hg
    obtain ⟨h3, h4⟩ := List.append_inj (show S'.pre ++ be ((Crc.sum S'.pre).setWidth 64) 4 = S.pre ++ q from h2) (by rw [pre_len h1, pre_len h])
    rw [h3] at h4
    exact absurd h4.symm hq
/-- One byte xored. -/
theorem rg_byte (x : BitVec 8) : ∀ (l : List (BitVec 8)) (i : Nat) (r : BitVec 32), i < l.length → Crc.rg r (l.set i (l.getD i 0#8 ^^^ x)) = Crc.rg r l ^^^ Crc.it (8 * (l.length - i)) (x.setWidth 32) := by
  intro l
  induction l with
  | nil => intro i r h; simp at h
  | cons c l ih =>
    intro i r h
    cases i with
    | zero =>
      have e2 : Crc.tk r (c ^^^ x) = Crc.it 8 (x.setWidth 32) ^^^ Crc.tk r c := by
        unfold Crc.tk
        rw [← Crc.it_xor]
        congr 1
        rw [BitVec.setWidth_xor]; ac_rfl
      simp only [List.set_cons_zero, List.getD_cons_zero]
      rw [Crc.rg_cons, Crc.rg_cons, e2, Crc.rg_xor, ← Crc.it_add, BitVec.xor_comm]
      congr 2
      simp; omega
    | succ i =>
      simp only [List.set_cons_succ, List.getD_cons_succ]
      rw [Crc.rg_cons, Crc.rg_cons, ih i _ (by simpa using h)]
      congr 2
      simp
theorem sum_byte (l : List (BitVec 8)) (i : Nat) (x : BitVec 8) (hi : i < l.length) (hx : x ≠ 0#8) : Crc.sum (l.set i (l.getD i 0#8 ^^^ x)) ≠ Crc.sum l := by
  intro h
  rw [Crc.sum_rg, Crc.sum_rg l, rg_byte x l i _ hi] at h
  have h1 : Crc.it (8 * (l.length - i)) (x.setWidth 32) = 0#32 := by
    have := congrArg (fun y => y ^^^ 4294967295#32 ^^^ Crc.rg (~~~ 0#32) l) h
    simp only [BitVec.xor_assoc] at this
    generalize Crc.it (8 * (l.length - i)) (x.setWidth 32) = z at this
    generalize Crc.rg (~~~ 0#32) l = r at this
    have h2 : r ^^^ (z ^^^ (4294967295#32 ^^^ (4294967295#32 ^^^ r))) = z := by
      rw [← BitVec.xor_assoc 4294967295#32 4294967295#32 r, BitVec.xor_self, BitVec.zero_xor, BitVec.xor_comm z r, ← BitVec.xor_assoc, BitVec.xor_self, BitVec.zero_xor]
    have h3 : r ^^^ (4294967295#32 ^^^ (4294967295#32 ^^^ r)) = 0#32 := by
      rw [← BitVec.xor_assoc 4294967295#32 4294967295#32 r, BitVec.xor_self, BitVec.zero_xor, BitVec.xor_self]
    rw [h2, h3] at this
    exact this
  rw [← Crc.it_zero (8 * (l.length - i))] at h1
  have h2 := Crc.it_inj _ h1
  refine hx ?_
  have h3 := congrArg (BitVec.setWidth 8) h2
  simpa using h3
set_option maxRecDepth 100000 in
theorem getS_turned {S : Sec} (h : S.may = true) (i : Nat) (x : BitVec 8) (hi : i < 512) (hx : x ≠ 0#8) : getS (S.bytes.set i (S.bytes.getD i 0#8 ^^^ x)) = none := by
  have hpl := pre_len h
  have hb : S.bytes = S.pre ++ be ((Crc.sum S.pre).setWidth 64) 4 := rfl
  have hxx : ∀ y : BitVec 8, y ^^^ x ≠ y := by
    intro y e
    apply hx
    have := congrArg (fun z => y ^^^ z) e
    simpa [← BitVec.xor_assoc] using this
  rcases Nat.lt_or_ge i 508 with h1 | h1
  · have e : S.bytes.set i (S.bytes.getD i 0#8 ^^^ x) = S.pre.set i (S.pre.getD i 0#8 ^^^ x) ++ be ((Crc.sum S.pre).setWidth 64) 4 := by
      rw [hb, List.set_append_left _ _ (by omega)]
      congr 3
      simp [List.getD, List.getElem?_append_left (show i < S.pre.length by omega)]
    rw [e]
    exact getS_sum h (by simp [hpl]) rfl (sum_byte _ _ _ (by omega) hx)
  · have e : S.bytes.set i (S.bytes.getD i 0#8 ^^^ x) = S.pre ++ (be ((Crc.sum S.pre).setWidth 64) 4).set (i - 508) ((be ((Crc.sum S.pre).setWidth 64) 4).getD (i - 508) 0#8 ^^^ x) := by
      rw [hb, List.set_append_right _ _ (by omega), hpl]
      congr 3
      simp [List.getD, List.getElem?_append_right (show S.pre.length ≤ i by omega), hpl]
    rw [e]
    refine getS_tail h fun e2 => ?_
    have hl : i - 508 < (be ((Crc.sum S.pre).setWidth 64) 4).length := by rw [be_length]; omega
    have := congrArg (fun l => l.getD (i - 508) 0#8) e2
    simp only [List.getD, List.getElem?_set_self hl, Option.getD_some] at this
    exact hxx _ this
/-- Bits turned among the first 508 bytes, within 32 places. -/
theorem turn_app (l m : List (BitVec 8)) (k : Nat) (h : k < 8 * l.length) : Crc.turn (l ++ m) k = Crc.turn l k ++ m := by
  unfold Crc.turn
  rw [List.set_append_left _ _ (by omega)]
  congr 3
  simp [List.getD, List.getElem?_append_left (show k / 8 < l.length by omega)]
theorem turns_app (ks : List Nat) (m : List (BitVec 8)) : ∀ l : List (BitVec 8), (∀ k ∈ ks, k < 8 * l.length) → Crc.turns (l ++ m) ks = Crc.turns l ks ++ m := by
  induction ks with
  | nil => intro l _; rfl
  | cons k ks ih =>
    intro l h
    show Crc.turns (Crc.turn (l ++ m) k) ks = Crc.turns (Crc.turn l k) ks ++ m
    rw [turn_app l m k (h k (by simp)), ih _ (fun j hj => by rw [Crc.turn_length]; exact h j (by simp [hj]))]
set_option maxRecDepth 100000 in
theorem getS_burst {S : Sec} (h : S.may = true) (b : Nat) (p : BitVec 32) (hb : b < 4064) (hne : Crc.bks b p 4064 32 ≠ []) : getS (Crc.turns S.bytes (Crc.bks b p 4064 32)) = none := by
  have hpl := pre_len h
  have h8 : 8 * S.pre.length = 4064 := by omega
  have hlt : ∀ k ∈ Crc.bks b p 4064 32, k < 8 * S.pre.length := by rw [h8]; exact Crc.bks_lt b p 4064 32
  have e : Crc.turns S.bytes (Crc.bks b p 4064 32) = Crc.turns S.pre (Crc.bks b p 4064 32) ++ be ((Crc.sum S.pre).setWidth 64) 4 := turns_app _ _ _ hlt
  rw [e]
  refine getS_sum h (by rw [Crc.turns_length, hpl]) rfl ?_
  have hs := Crc.sum_burst S.pre b p (by omega)
  rw [h8] at hs
  have hem : (Crc.bks b p 4064 32).isEmpty = false := by
    cases hk : Crc.bks b p 4064 32 with
    | nil => exact absurd hk hne
    | cons _ _ => rfl
  rw [hem] at hs
  intro e2
  rw [e2] at hs
  simp at hs
theorem getVE {S : Sec} (h : S.may = true) : getV S.bytes = S ∧ getE S.bytes = 0 := getV_some (getS_bytes h)
theorem rightO_bytes {S : Sec} (h : S.may = true) (tag : List (BitVec 8)) (ep sq pl : Int) : rightO S.bytes tag ep sq pl = (S.tag == tag && (S.epoch == ep && (S.seq == sq && S.place == pl))) := by
  simp [rightO, getS_bytes h, (getVE h).1]
theorem rightO_none {b : List (BitVec 8)} (h : getS b = none) (tag : List (BitVec 8)) (ep sq pl : Int) : rightO b tag ep sq pl = false := by simp [rightO, h]
theorem putS_yes {S : Sec} (h : S.may = true) : putS S = S.bytes ∧ putE S = 0 := by simp [putS, putE, h]
theorem putS_no {S : Sec} (h : S.may = false) : putS S = [] ∧ putE S = 117 := by simp [putS, putE, h]
def abc : List (BitVec 8) := [97#8, 98#8, 99#8]
def plainS : Sec := ⟨tO, 1, 2, 3, abc⟩
theorem plain_may : plainS.may = true := by decide
theorem plain_fits : plainS.fits := ⟨by decide, by decide, by decide, by decide, by decide, by decide, by decide⟩
theorem btsAbc : bts abc = [.int .u8 97, .int .u8 98, .int .u8 99] := by unfold bts n8 abc; rfl
theorem lawPlain (w : World) : Calls Tryz.prog 15 #[] w fun e w' => ∃ g, e = .returned (plainS.val (some ⟨g, 0, none⟩) 3) ∧ w.heap.size ≤ g ∧ g < w'.heap.size ∧ Rd w' (some ⟨g, 0, none⟩) abc ∧ Below w.heap.size w w' := by
  have kc := Lib.run_convert_bytes_const (P := Tryz.prog) (w.alloc (.cells #[.string { data := #[] }, .int .i64 0, .int .i64 0, .int .i64 0, .slice none 0 0] 46 (0, 0))) 44 5 #[.int .u8 97, .int .u8 98, .int .u8 99] 3 3 Tryz.underlying44 Tryz.underlying5
  simp only [alloc_size] at kc
  have hl : ({ data := #[67, 86, 79, 49] } : ByteArray) = str tO := lit_O
  unfold Sec.val plainS
  go_enter Tryz.func15, Tryz.ntmps15
  go_wp2_with fail
  have hr := Rd_new (w.alloc (.cells #[.string (str tO), .int .i64 1, .int .i64 2, .int .i64 3, .slice (some ⟨w.heap.size + 1, 0, none⟩) 3 3] 46 (0, 0))) 5 #[.int .u8 97, .int .u8 98, .int .u8 99] (3, 4) abc btsAbc.symm
  have hb := ((Below.refl _ w).alloc (Nat.le_refl _) (.cells #[.string (str tO), .int .i64 1, .int .i64 2, .int .i64 3, .slice (some ⟨w.heap.size + 1, 0, none⟩) 3 3] 46 (0, 0))).alloc (by simp only [alloc_size]; omega) (.cells #[.int .u8 97, .int .u8 98, .int .u8 99] 5 (3, 4))
  rw [alloc_size] at hr
  refine bodyPost_ret (v := .agg #[.string (str tO), .int .i64 1, .int .i64 2, .int .i64 3, .slice (some ⟨w.heap.size + 1, 0, none⟩) 3 3]) (by simp [results, Tryz.results15, go_sem]) rfl ?_
  exact ⟨w.heap.size + 1, rfl, by omega, by simp, hr, hb⟩
set_option maxRecDepth 100000 in
theorem plain_bytes : plainS.bytes.getD 11 0#8 = 1#8 ∧ plainS.bytes.getD 23 0#8 = 3#8 ∧ plainS.bytes.getD 25 0#8 = 3#8 ∧ plainS.bytes.getD 30 0#8 = 99#8 ∧ plainS.bytes.getD 508 0#8 = 208#8 ∧ plainS.bytes.getD 509 0#8 = 204#8 ∧ plainS.bytes.getD 510 0#8 = 102#8 ∧ plainS.bytes.getD 511 0#8 = 190#8 := by decide +kernel
theorem plain_four : plainS.bytes.take 4 = tO := by decide +kernel
@[go_sem] theorem beq_abc (t : List (BitVec 8)) : ((str t).toList == [97, 98, 99]) = (t == abc) := by rw [← of_beq, str_toList]; rfl
set_option maxRecDepth 100000 in
set_option maxHeartbeats 4000000 in
theorem lawFirst (w : World) (ht : Tab w) (hT : 0 < w.heap.size) : Calls Tryz.prog 4 #[] w fun e w' => e = .returned (.bool true) ∧ Below w.heap.size w w' := by
  have HTB := Lib.hid (fun (w' : World) (hb : Below w.heap.size w w') => (⟨ht.below hb hT, Nat.lt_of_lt_of_le hT hb.size⟩ : _ ∧ _))
  have hTO : (tO == tO) = true := by simp
  have hAbc : (abc == abc) = true := by simp
  clear ht hT
  go_enter Tryz.func4, Tryz.ntmps4
  go_wp2_with fail
  refine (lawPlain w).mono ?_
  rintro e W1 ⟨ga, rfl, hg, hgl, hrd, hb⟩
  have HB := Lib.hid ((Bag.start w).key hb hrd hg hgl)
  clear hrd hb hg hgl
  go_wp2_with fail
  unfold Sec.val plainS
  go_wp2_with fail
  have h := secPut plainS (some ⟨ga, 0, none⟩) 3 W1 plain_fits (HB.out.keyRd 0 rfl) (HTB.out _ HB.out.below).1 (HTB.out _ HB.out.below).2
  rw [(putS_yes plain_may).1, (putS_yes plain_may).2, bytes_len plain_may] at h
  refine h.mono ?_
  clear h
  rintro e W2 ⟨ab, cb, rfl, Mx, hb⟩
  obtain ⟨gb, rfl, hg, ho⟩ : ∃ gb, ab = some ⟨gb, 0, none⟩ ∧ W1.heap.size ≤ gb ∧ Own W2 gb cb 5 plainS.bytes := by
    rcases Mx with ⟨h, _⟩ | h
    · exact absurd (congrArg List.length h) (by rw [bytes_len plain_may]; decide)
    · exact h
  have hpre := ho
  clear Mx
  have h0 := HB.out.own hb ho hg
  clear HB
  have HB := Lib.hid h0
  clear h0
  clear hb ho hg
  obtain ⟨PB, hPB⟩ : ∃ l, plainS.bytes = l := ⟨_, rfl⟩
  have hpl := bytes_len plain_may
  have hp4 := plain_four
  obtain ⟨i11, i23, i25, i30, i508, i509, i510, i511⟩ := plain_bytes
  rw [hPB] at hpl hp4 hpre i11 i23 i25 i30 i508 i509 i510 i511
  have h0 := HB.out
  rw [hPB] at h0
  clear HB
  have HB := Lib.hid h0
  clear h0
  have hcb := HB.out.mineLe 0 rfl
  rw [hpl] at hcb
  have hc4 : (4 : Int) ≤ (cb : Int) := by omega
  have c11 := hpre.cell 11 (by rw [hpl]; decide)
  rw [i11, show n8 1#8 = 1 from by unfold n8; rfl] at c11
  have c23 := hpre.cell 23 (by rw [hpl]; decide)
  rw [i23, show n8 3#8 = 3 from by unfold n8; rfl] at c23
  have c25 := hpre.cell 25 (by rw [hpl]; decide)
  rw [i25, show n8 3#8 = 3 from by unfold n8; rfl] at c25
  have c30 := hpre.cell 30 (by rw [hpl]; decide)
  rw [i30, show n8 99#8 = 99 from by unfold n8; rfl] at c30
  have c508 := hpre.cell 508 (by rw [hpl]; decide)
  rw [i508, show n8 208#8 = 208 from by unfold n8; rfl] at c508
  have c509 := hpre.cell 509 (by rw [hpl]; decide)
  rw [i509, show n8 204#8 = 204 from by unfold n8; rfl] at c509
  have c510 := hpre.cell 510 (by rw [hpl]; decide)
  rw [i510, show n8 102#8 = 102 from by unfold n8; rfl] at c510
  have c511 := hpre.cell 511 (by rw [hpl]; decide)
  rw [i511, show n8 190#8 = 190 from by unfold n8; rfl] at c511
  have h4r := hpre.rd.take 4
  rw [hp4] at h4r
  have hcv := cvRun W2 (some ⟨gb, 0, none⟩) tO 4 cb rfl h4r
  have HPB := Lib.hid hPB
  have HPL := Lib.hid hpl
  clear hPB hpl hp4 hpre h4r hcb i11 i23 i25 i30 i508 i509 i510 i511
  go_wp2_with fail
  refine (numOf _ _).mono ?_
  rintro e w' ⟨rfl, hw⟩
  obtain rfl := hw
  go_wp2_with fail
  have h := secGet PB (some ⟨gb, 0, none⟩) 512 cb W2 HPL.out (by have := HB.out.mineLe 0 rfl; rw [HPL.out] at this; exact this) (HB.out.mineRd 0 rfl) (HTB.out _ HB.out.below).1 (HTB.out _ HB.out.below).2
  rw [← HPB.out, (getVE plain_may).1, (getVE plain_may).2] at h
  refine h.mono ?_
  clear h
  rintro e W3 ⟨ag, cg, he, Mx, hb⟩
  obtain rfl : e = .returned (.tuple #[.agg #[.string (str tO), .int .i64 1, .int .i64 2, .int .i64 3, .slice ag 3 cg], .int .i64 0]) := he
  have h0 := HB.out.mine hb Mx
  clear HB
  have HB := Lib.hid h0
  clear h0
  clear Mx hb
  clear c11 c23 c25 c30 c508 c509 c510 c511 hcv hc4
  go_wp2_with fail
  generalize hU : W3.alloc (.cells #[.string (str tO), .int .i64 1, .int .i64 2, .int .i64 3, .slice ag 3 cg] 46 (0, 0)) = U4
  have h0 := HB.out.alloc #[.string (str tO), .int .i64 1, .int .i64 2, .int .i64 3, .slice ag 3 cg] 46
  rw [hU] at h0
  clear HB
  have HB := Lib.hid h0
  clear h0
  clear hU
  obtain ⟨qs_0, qs_1, qs_2, qs_3, qs_4, qs_f⟩ := cells5 (HB.out.box 0 rfl)
  have qs_l := HB.out.boxLt 0 rfl
  go_upto_region 7 with fail
  go_cut [4] (fun t wx => t = .bool true ∧ Below U4.heap.size U4 wx)
  case first =>
    have hrd : Rd U4 ag abc := (HB.out.mineRd 1 rfl)
    have HRD := Lib.hid (fun (w' : World) (hb : Below U4.heap.size U4 w') => hrd.on hb)
    have hbd : Below U4.heap.size U4 U4.drew := (Below.refl _ U4).drew
    have HX := Lib.hid (fun (w' : World) (hb : Below U4.heap.size U4 w') => cells5 ((HB.out.call hb).box 0 rfl))
    clear hrd
    go_region_with (first | (go_at_call 15; refine (lawPlain _).mono ?_; rintro e X1 ⟨g1, he, hg1, hgl1, hrd1, hb1⟩; obtain rfl : e = .returned (.agg #[.string (str tO), .int .i64 1, .int .i64 2, .int .i64 3, .slice (some ⟨g1, 0, none⟩) 3 3]) := he; have hbx : Below U4.heap.size U4 X1 := hbd.trans hb1; obtain ⟨z0, z1, z2, z3, z4, zf⟩ := HX.out X1 hbx) | (go_at_call 11; refine (alike plainS plainS ag (some ⟨g1, 0, none⟩) cg 3 _ (by decide) (by decide) (HRD.out _ hbx) hrd1).mono ?_; rintro e X2 ⟨he, hb2⟩; rw [alikeS_refl] at he; subst he; have hbz := hbx.trans (hb2.mono hbx.size)))
    all_goals
      go_wp2_with fail
      go_meet
      case rel => exact ⟨rfl, hbz⟩
  case rest =>
    obtain ⟨rfl, hbc⟩ := hcut
    have h0 := HB.out.call hbc
    clear HB
    have HB := Lib.hid h0
    clear h0
    clear hbc
    go_wp2_with fail
    have h := secRight PB (some ⟨gb, 0, none⟩) 512 cb tO 1 2 3 wc HPL.out (by have := HB.out.mineLe 2 rfl; rw [HPL.out] at this; exact this) (HB.out.mineRd 2 rfl) (HTB.out _ HB.out.below).1 (HTB.out _ HB.out.below).2
    have hro : rightO PB tO 1 2 3 = true := by rw [← HPB.out, rightO_bytes plain_may]; decide
    have hrb : rightB PB tO 1 2 3 = abc := by rw [right_yes hro, ← HPB.out, (getVE plain_may).1]; rfl
    rw [hro, hrb, ← lit_O] at h
    refine h.mono ?_
    clear h hro hrb
    rintro e W8 ⟨ar, cr, rfl, Mx, hb⟩
    have h0 := HB.out.mine hb Mx
    clear HB
    have HB := Lib.hid h0
    clear h0
    clear Mx hb
    go_wp2_with fail
    have h := secRight PB (some ⟨gb, 0, none⟩) 512 cb tO 1 2 4 W8 HPL.out (by have := HB.out.mineLe 3 rfl; rw [HPL.out] at this; exact this) (HB.out.mineRd 3 rfl) (HTB.out _ HB.out.below).1 (HTB.out _ HB.out.below).2
    have hro : rightO PB tO 1 2 4 = false := by rw [← HPB.out, rightO_bytes plain_may]; decide
    rw [hro, right_no hro, ← lit_O] at h
    refine h.mono ?_
    clear h hro
    rintro e W9 ⟨an, cn, rfl, Mx, hb⟩
    have h0 := HB.out.mine hb Mx
    clear HB
    have HB := Lib.hid h0
    clear h0
    clear Mx hb
    have hcv := cvRun W9 ar abc abc.length cr rfl (HB.out.mineRd 1 rfl)
    go_wp2_with fail
    refine (numOf _ _).mono ?_
    rintro e w' ⟨rfl, hw⟩
    obtain rfl := hw
    go_wp2_with fail
    go_ret
    exact ⟨rfl, HB.out.below⟩
theorem getV_len (b : List (BitVec 8)) (_hb : b.length ≤ 65536) : (getV b).body.length ≤ 281474976710656 := by
  unfold getV
  cases hg : getS b with
  | none => simp [Sec.zero]
  | some S =>
    have := (may_iff.1 (getS_spec hg).1).2.2.2.2
    simp; omega
/-- Whatever sign a place has: it is brought among the bits. -/
theorem place (x : Int) (M : Nat) (hM : 0 < M) : -(M : Int) < x.tmod M ∧ x.tmod M < (M : Int) ∧ ∃ i : Nat, i < M ∧ (x.tmod (M : Int) + (M : Int)) % (M : Int) = (i : Int) := by
  have h1 : -(M : Int) < x.tmod M := by have := Int.lt_tmod_of_pos x (b := (M : Int)) (by omega); omega
  have h2 : x.tmod M < (M : Int) := Int.tmod_lt_of_pos x (by omega)
  refine ⟨h1, h2, ?_⟩
  have h3 := Int.emod_nonneg (x.tmod (M : Int) + (M : Int)) (b := (M : Int)) (by omega)
  have h4 := Int.emod_lt_of_pos (x.tmod (M : Int) + (M : Int)) (b := (M : Int)) (by omega)
  exact ⟨_, by omega, (Int.toNat_of_nonneg h3).symm⟩
theorem putYes (S : Sec) (ao : Option Addr) (cap : Nat) (w : World) (hm : S.may = true) (hf : S.fits) (hr : Rd w ao S.body) (ht : Tab w) (hT : 0 < w.heap.size) :
   Calls Tryz.prog 7 #[S.val ao cap] w fun e w' => ∃ g c, e = .returned (.tuple #[.slice (some ⟨g, 0, none⟩) 512 c, .int .i64 0]) ∧ w.heap.size ≤ g ∧ 512 ≤ c ∧ Own w' g c 5 S.bytes ∧ Below w.heap.size w w' := by
  refine (secPut S ao cap w hf hr ht hT).mono ?_
  rintro e w' ⟨ar, cr, rfl, hmi, hb⟩
  rw [(putS_yes hm).1] at hmi
  rw [(putS_yes hm).1, (putS_yes hm).2, bytes_len hm]
  have hle := hmi.le
  rw [bytes_len hm] at hle
  rcases hmi with ⟨h, _⟩ | ⟨g, rfl, hg, ho⟩
  · exact absurd (congrArg List.length h) (by rw [bytes_len hm]; decide)
  · exact ⟨g, cr, rfl, hg, hle, ho, hb⟩
theorem bytes_iff {S T : Sec} (hS : S.may = true) (hT : T.may = true) : (S.bytes == T.bytes) = alikeS S T := by
  rw [Bool.eq_iff_iff, beq_iff_eq, alikeS_iff]
  exact ⟨sec_inj hS hT, fun h => by rw [h]⟩
end Go.Proofs.YtinfhlepjmollaaGreatDoor
