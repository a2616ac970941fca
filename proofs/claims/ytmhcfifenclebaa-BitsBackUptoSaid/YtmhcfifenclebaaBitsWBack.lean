/- The walk of BitsBack. -/
import Derived.Test.YtmhcfifenclebaaBitsBack1
import Derived.Test.YtmhcfifenclebaaBitsFirst
import Derived.Test.YtmhcfifenclebaaCut
import Derived.StillTailTactics
namespace Go.Proofs.Ytmhcfifenclebaa
open Go.RowKit
theorem info_int : (Try.prog.info? 3).map (fun i => (i.zero, i.size, i.bytes)) = some (some (.int .i64 0), 1, 8) := by kernel_rfl
/-- The bytes so far: none and nil, or a row of their own. -/
structure Bst (w : World) (v : Value) (L : List (BitVec 8)) : Prop where
  it : ∃ ao cap, v = .slice ao L.length cap ∧ Rd w ao L ∧ L.length ≤ cap ∧ ∀ a, ao = some a → ∃ cur, w.heap[a.block]? = some (.cells cur 5 (0, 0))
theorem Bst.below {w w' : World} {v : Value} {L : List (BitVec 8)} (h : Bst w v L) (hb : Below w.heap.size w w') : Bst w' v L := by
  obtain ⟨ao, cap, h1, h2, h3, h4⟩ := h.it
  refine ⟨ao, cap, h1, h2.on hb, h3, fun a x => ?_⟩
  obtain ⟨cur, hc⟩ := h4 a x
  exact ⟨cur, (hb.block _ (Array.getElem?_eq_some_iff.1 hc).1).trans hc⟩
/-- An append to a row of whole numbers leaves the bytes. -/
theorem Bst.grown {w w' : World} {v v7 : Value} {L : List (BitVec 8)} {B n : Nat} {zs : List Int} (h : Bst w v L) (ho : w.ownsRow B 3 1 v7 n (ints zs)) (hg : w.grownBy w' v7.ownBlock) : Bst w' v L := by
  obtain ⟨ao, cap, h1, h2, h3, h4⟩ := h.it
  have key : ∀ a, ao = some a → w'.heap[a.block]? = w.heap[a.block]? := by
    intro a x
    obtain ⟨cur, hc⟩ := h4 a x
    refine hg.block a.block (Array.getElem?_eq_some_iff.1 hc).1 fun hbk => ?_
    obtain ⟨_, ho2⟩ := ho
    rcases ho2 with ⟨rfl, _⟩ | ⟨g, c2, cur2, rfl, _, hh, _⟩
    · cases hbk
    · simp only [Value.ownBlock, Option.some.injEq] at hbk
      rw [hbk, hh] at hc
      simp at hc
  refine ⟨ao, cap, h1, ?_, h3, fun a x => ?_⟩
  · rcases h2 with rfl | ⟨b, o, rfl, hc⟩
    · exact Rd.nil _ _
    · refine Or.inr ⟨b, o, rfl, fun i hi => ?_⟩
      have := key _ rfl
      rw [← hc i hi]
      simp only [World.cell?, this]
  · obtain ⟨cur, hc⟩ := h4 a x
    exact ⟨cur, (key a x).trans hc⟩
theorem owns_below {w w' : World} {B e size n : Nat} {v : Value} {xs : List Value} (h : w.ownsRow B e size v n xs) (hb : Below w.heap.size w w') : w'.ownsRow B e size v n xs :=
  h.kept (row := none) ⟨hb.os, hb.tape, hb.output, hb.size, fun k hk _ => hb.block k hk⟩ (Classical.em _)
theorem readerLeft0 {w : World} {p g : Nat} {l : List (BitVec 8)} {k : Nat} (h : Rdr w p g l k 0) (hl : l.length ≤ 140737488351232) :
   Calls Try.prog 18 #[.pointer (some ⟨p, 0, none⟩)] w fun x w' => x = .returned (.int .i64 ((l.length : Int) - k)) ∧ ∃ m, w' = w.drewN m := by
  have hk := h.le
  refine (readerLeft h hl).mono ?_
  rintro x w' ⟨rfl, hst⟩
  rw [if_pos rfl, Int.ofNat_sub hk]
  exact ⟨rfl, hst⟩
theorem newReaderAt (ao : Option Addr) (l : List (BitVec 8)) (n cap : Nat) (w : World) (hn : l.length = n) (hl : n ≤ 140737488351232) (hr : Rd w ao l) :
   Calls Try.prog 14 #[.slice ao n cap] w fun e w' => ∃ p g, e = .returned (.pointer (some ⟨p, 0, none⟩)) ∧ w.heap.size ≤ p ∧ w.heap.size ≤ g ∧ Rdr w' p g l 0 0 ∧ Below w.heap.size w w' := by
  subst hn; exact newReader ao l cap w hl hr
theorem n64_eq {x : Int} {v : BitVec 64} (h : x = (v.toNat : Int)) : x = n64 v := by unfold n64; exact h
theorem n64_int (v : BitVec 64) : n64 v = (v.toNat : Int) := by unfold n64; rfl
theorem n8_int (v : BitVec 8) : n8 v = (v.toNat : Int) := by unfold n8; rfl
set_option maxHeartbeats 16000000 in
set_option maxRecDepth 100000 in
theorem lawBack0 (so : Option Addr) (s0 : List (BitVec 64 × Int)) (scap : Nat) (cut : Int) (w : World) (hcap : s0.length ≤ scap) (hs0 : Nm w so s0) :
   Calls Try.prog 4 #[.slice so s0.length scap, .int .i64 cut] w fun e w' => e = .returned (.bool true) ∧ Below w.heap.size w w' := by
  obtain ⟨i0, hi, hz0, hz1, hz2⟩ := info_parts info_int
  go_enter Try.func4, Try.ntmps4
  go_wp2_with fail
  refine (firstOf w).mono ?_
  rintro e w1 ⟨rfl, hb1⟩
  by_cases hbig : 200 < s0.length
  · obtain ⟨s, hss⟩ : ∃ s, s0.take 200 = s := ⟨_, rfl⟩
    have hsl : s.length = 200 := by rw [← hss]; simp; omega
    have hs200 : s.length ≤ 200 := by omega
    have hs := hss ▸ hs0.take 200
    have HS := Lib.hid (fun (w' : World) (hb : Below w.heap.size w w') => hs.on hb)
    have hbigI : (200 : Int) < (s0.length : Int) := by omega
    clear hs hs0 hss
    have E0 : Bst w1 (.slice none 0 0) (enc (s.take 0)) := ⟨none, 0, by simp [enc], by simp [enc]; exact Rd.nil _ _, by simp [enc], fun a x => by cases x⟩
    have E1 : w1.ownsRow w.heap.size 3 1 (.slice none 0 0) 0 (ints (endsV s 0)) := World.ownsRow_nil _ _ _ _
    go_wp2_with fail
    go_loopw [6, 7, 8] (fun v6 v7 i wr => ∃ j : Nat, j ≤ s.length ∧ i = .int .i64 j ∧ Bst wr v6 (enc (s.take j)) ∧ wr.ownsRow w.heap.size 3 1 v7 j (ints (endsV s j)) ∧ Below w.heap.size w wr) (fun _ _ i _ => s.length - (intOf i).toNat)
    case atStart => exact ⟨0, Nat.zero_le _, rfl, E0, E1, hb1⟩
    case round =>
      obtain ⟨j, hj, rfl, hb, he, hB⟩ := hrel
      clear E0 E1 hb1
      by_cases hlt : j < s.length
      · have hx0 := HS.out wr hB
        rcases hx0 with rfl | ⟨b, o, rfl, hc⟩
        · simp at hlt
        obtain ⟨c0, c1⟩ := hc j hlt
        have hsucc := enc_succ s j hlt
        have hensucc := en_succ s j hlt
        have hel := en_le s (j + 1) hlt
        obtain ⟨X, hX⟩ : ∃ X, (s.getD j (0#64, 0)).1 = X := ⟨_, rfl⟩
        obtain ⟨W, hW⟩ : ∃ W, (s.getD j (0#64, 0)).2 = W := ⟨_, rfl⟩
        rw [hX] at c0 hsucc
        rw [hW] at c1 hsucc hensucc
        have HSU := Lib.hid hsucc
        obtain ⟨ao, cap, rfl, hrd, hlc, hty⟩ := hb.it
        have hb' : Bst wr (.slice ao (enc (s.take j)).length cap) (enc (s.take j)) := ⟨ao, cap, rfl, hrd, hlc, hty⟩
        have HE := Lib.hid he
        have HB := Lib.hid hb'
        have HRD := Lib.hid hrd
        obtain ⟨N, hN⟩ : ∃ N, (enc (s.take j)).length = N := ⟨_, rfl⟩
        have hN1 : en s j = N := hN
        have hNb : N ≤ 1600 := by have := en_le s j hj; omega
        rw [hN] at HB hlc ⊢
        have HN := Lib.hid hN
        clear hc hX hW hsucc hb he hrd hty hb' hN
        go_wp2_with fail
        go_still_tail 12, (by kernel_rfl)
        still_call ((wideAt W _).mono (fun e w' h => h))
        repeat still_step
        refine wpStill_nil ?_
        change wpList _ _ _ _ _ wr.drew
        go_wp2_with fail
        refine (putOf ao (enc (s.take j)) N cap X _ HN.out (by omega) (HRD.out.on (((Still.refl wr).drewN 1).below _)) (wd W) (wd_Wd W)).mono ?_
        rintro e w2 ⟨gb, rfl, hgb, hO, hb2⟩
        have he2 : w2.ownsRow w.heap.size 3 1 u7 j (ints (endsV s j)) := owns_below HE.out (((((Still.refl wr).drewN 1).below _)).trans hb2)
        have hB2 : Below w.heap.size w w2 := (hB.trans ((((Still.refl wr).drewN 1).below _).mono hB.size)).trans (hb2.mono hB.size)
        have hNl : (enc (s.take (j + 1))).length = N + wd W := by rw [HSU.out, List.length_append, be_length, HN.out]
        have hb3 : Bst w2 (.slice (some ⟨gb, 0, none⟩) (enc (s.take (j + 1))).length (N + wd W)) (enc (s.take (j + 1))) := by
          rw [HSU.out]
          refine ⟨some ⟨gb, 0, none⟩, _, rfl, hO.rd, by rw [← HSU.out]; omega, fun a x => ?_⟩
          cases x
          obtain ⟨cur, hc, _⟩ := hO
          exact ⟨cur, hc⟩
        rw [hNl] at hb3
        have hWb := wd_le W
        have H3 := Lib.hid hb3
        clear hO hb2 hb3 HE HB HRD c0 c1 hlc hB hgb hNl
        go_wp2_with (at_builtin; refine wpList_append_own _ rfl _ _ 29 rfl w.heap.size 3 i0 (.int .i64 0) 1 8 Try.underlying29 hi hz0 hz1 hz2 rfl (by decide) _ _ _ rfl (he2.alloc _) ⟨w2.heap.size, 0, none⟩ 1 1 [.int .i64 ((N : Int) + (wd W : Int))] rfl rfl ?c1 ?c2 ?c3 ?c4 ?c5 ?_)
        case c1 =>
          intro j u hj
          match j, hj with
          | 0, hj => simp at hj; subst hj; simp [Addr.add]
        case c2 => intro u hu; simp at hu; subst hu; rfl
        case c3 => unfold maxLen; omega
        case c4 => omega
        case c5 => have := hB2.size; simp; omega
        intro v' w3 hown' hgrow _
        have hn1 : Below w.heap.size w w3 := (hB2.alloc hB2.size _).grown hgrow (by have := hB2.size; simp; omega) (fun g hg => (he2.lt g hg).1)
        have H4 := Lib.hid ((H3.out.below ((Below.refl _ w2).alloc (Nat.le_refl _) _)).grown (he2.alloc _) hgrow)
        clear he2 hgrow hB2 H3
        go_wp2
        go_roundw
        case rel => exact ⟨j + 1, by omega, by go_num, H4.out, by rw [endsV_succ, hensucc, hN1, Int.natCast_add]; unfold ints at hown' ⊢; rw [List.map_append]; exact hown', hn1⟩
        case measure => simp [intOf]; omega
      · obtain rfl : j = s.length := by omega
        rw [List.take_length] at hb
        obtain ⟨ao, cap, rfl, hrd, hlc, hty⟩ := hb.it
        obtain ⟨-, ae, ce, rfl, hRn, -⟩ := owns_ints he
        have hNb : (enc s).length ≤ 1600 := by have := en_le s s.length (Nat.le_refl _); rw [en_all] at this; omega
        have hall := en_all s
        obtain ⟨L, hL⟩ : ∃ L, enc s = L := ⟨_, rfl⟩
        rw [hL] at hrd hlc hNb hall ⊢
        have HL := Lib.hid hL
        have ht1 : -((L.length : Int) + 1) < cut.tmod ((L.length : Int) + 1) := by have := Int.lt_tmod_of_pos cut (b := (L.length : Int) + 1) (by omega); omega
        have ht2 : cut.tmod ((L.length : Int) + 1) < (L.length : Int) + 1 := Int.tmod_lt_of_pos cut (by omega)
        have ht3 : 0 ≤ cut.tmod ((L.length : Int) + 1) + (L.length : Int) + 1 := by omega
        obtain ⟨c, hc, hm1⟩ : ∃ c : Nat, c ≤ L.length ∧ (cut.tmod ((L.length : Int) + 1) + (L.length : Int) + 1) % ((L.length : Int) + 1) = (c : Int) := by
          have h1 := Int.emod_nonneg (cut.tmod ((L.length : Int) + 1) + (L.length : Int) + 1) (b := (L.length : Int) + 1) (by omega)
          have h2 := Int.emod_lt_of_pos (cut.tmod ((L.length : Int) + 1) + (L.length : Int) + 1) (b := (L.length : Int) + 1) (by omega)
          exact ⟨_, by omega, (Int.toNat_of_nonneg h1).symm⟩
        have hm2 : (cut.tmod ((L.length : Int) + 1) + (L.length : Int) + 1).tmod ((L.length : Int) + 1) = (c : Int) := by rw [Int.tmod_eq_emod_of_nonneg ht3, hm1]
        have HRN := Lib.hid (fun (w' : World) (hb : Below wr.heap.size wr w') => hRn.on hb)
        have hnz : ¬ ((L.length : Int) + 1 = 0) := by omega
        have hnz2 : ((L.length : Int) + 1 == 0) = false := by rw [beq_eq_false_iff_ne]; exact hnz
        clear hL hb he hty hRn
        go_wp2_with fail
        have hLc : (L.take c).length = c := by simp; omega
        have hBo := hB
        have hrc : Rd wr ao (L.take c) := hrd.take c
        obtain ⟨wo, hwo⟩ : ∃ wo : World, wo = wr := ⟨_, rfl⟩
        rw [← hwo] at hrc hBo HRN ⊢
        clear hrd hB hwo ht1 ht2 ht3 hm1 hm2 hnz hnz2 hlc
        refine (newReaderAt ao (L.take c) c cap wo hLc (by omega) hrc).mono ?_
        rintro e w4 ⟨p, g, rfl, hp, hg, hR4, hB4⟩
        have HAL : Hid (∀ j, j < s.length → en s j + wd (s.getD j (0#64, 0)).2 ≤ c → ((L.take c).drop (en s j)).take (wd (s.getD j (0#64, 0)).2) = be (s.getD j (0#64, 0)).1 (wd (s.getD j (0#64, 0)).2)) := by
          show ∀ j, _
          intro j hj hc'
          rw [← HL.out]
          exact enc_at s j c hj hc'
        have HSO := Lib.hid (fun (w' : World) (hb : Below w.heap.size w w') => HS.out w' hb)
        have R0 : Rdr w4 p g (L.take c) (en s 0) 0 := by rw [en_zero]; exact hR4
        obtain ⟨M, hM⟩ : ∃ M, L.take c = M := ⟨_, rfl⟩
        rw [hM] at R0 HAL hLc
        clear hrc hg hR4 hM
        go_wp2_with fail
        go_loopw [11, 12] (fun f i wq => ∃ j : Nat, j ≤ s.length ∧ f = .int .i64 (en s j : Nat) ∧ i = .int .i64 j ∧ en s j ≤ c ∧ Rdr wq p g M (en s j) 0 ∧ Below wo.heap.size wo wq) (fun _ i _ => s.length - (intOf i).toNat)
        case atStart => exact ⟨0, Nat.zero_le _, by rw [en_zero]; rfl, rfl, by rw [en_zero]; omega, R0, hB4⟩
        case round =>
          obtain ⟨j, hj, rfl, rfl, hec, hR, hBq⟩ := hrel
          clear R0 hB4
          by_cases hlt : j < s.length
          · have hx2 := HRN.out wr hBq
            have hx3 := HSO.out wr (hBo.trans (hBq.mono hBo.size))
            rcases hx2 with hx2 | ⟨b2, o2, rfl, hc2⟩
            · have h0 := endsV_length s s.length; rw [hx2] at h0; simp only [List.length_nil] at h0; omega
            rcases hx3 with rfl | ⟨b3, o3, rfl, hc3⟩
            · simp at hlt
            have ce := hc2 j (by rw [endsV_length]; exact hlt)
            obtain ⟨c0, c1⟩ := hc3 j hlt
            have hsuc := en_succ s j hlt
            have hat := HAL.out j hlt
            obtain ⟨X, hX⟩ : ∃ X, (s.getD j (0#64, 0)).1 = X := ⟨_, rfl⟩
            obtain ⟨W, hW⟩ : ∃ W, (s.getD j (0#64, 0)).2 = W := ⟨_, rfl⟩
            have hwd := wd_Wd W
            rw [endsV_get s _ _ hlt, hsuc] at ce
            rw [hX] at c0
            rw [hW] at c1 ce hsuc
            rw [hX, hW] at hat
            obtain ⟨k, hk⟩ : ∃ k, en s j = k := ⟨_, rfl⟩
            rw [hk] at ce hsuc hat hec hR ⊢
            have HX := Lib.hid hX
            have HWD := Lib.hid (wideAt W wr)
            obtain ⟨n, hn⟩ : ∃ n, wd W = n := ⟨_, rfl⟩
            have HWN := Lib.hid hn
            rw [hn] at ce hsuc hat hwd
            have HSUC := Lib.hid hsuc
            clear hc2 hc3 hX hW hsuc hk hn hall
            go_wp2_with fail
            refine HWD.out.mono ?_
            rintro e w4b ⟨rfl, rfl⟩
            rw [HWN.out]
            clear HWD HWN
            by_cases hfit : k + n ≤ c
            · replace hat := hat hfit
              rcases hwd with rfl | rfl | rfl | rfl
              · have HAT := Lib.hid hat
                clear hat
                go_wp2_with fail
                refine (getYes hR (by omega) 1 (by unfold Wd; omega) (by omega)).mono ?_
                rintro x w5 ⟨rfl, hR5, ho⟩
                rw [HAT.out]
                have hB5 := hBq.trans (ho.below (fun _ h => by omega) hBq.size)
                clear hR ho hBq
                go_wp2_with fail
                refine (readerErr hR5).mono ?_
                rintro e w6 ⟨rfl, hst⟩
                have hR6 := hR5.still hst
                have hB6 := hB5.trans ((hst.below _).mono hB5.size)
                clear hR5 hB5 hst
                have hx2 := HRN.out w6 hB6
                have hx3 := HSO.out w6 (hBo.trans (hB6.mono hBo.size))
                rcases hx2 with hx2 | ⟨b2, o2, hae, hc2⟩
                · have h0 := endsV_length s s.length; rw [hx2] at h0; simp only [List.length_nil] at h0; omega
                cases hae
                rcases hx3 with rfl | ⟨b3, o3, hso, hc3⟩
                · simp at hlt
                cases hso
                have ce6 := hc2 j (by rw [endsV_length]; exact hlt)
                rw [endsV_get s _ _ hlt, HSUC.out] at ce6
                obtain ⟨c06, _⟩ := hc3 j hlt
                rw [HX.out] at c06
                clear hc2 hc3
                have hq : (n64 X).tmod 256 = n64 (val (be X 1)) := by rw [Int.tmod_eq_emod_of_nonneg (n64_lo X), n64_int, n64_int, val_mod X 1 (by omega)]; rfl
                go_wp2_with fail
                go_quiet (first
                  | (go_at_call 17; exact Calls.quiet_of_same (numOf 0 _))
                  | (go_at_call 18; exact Calls.quiet_of (readerLeft0 (hR6.still ((Still.refl w6).drewN _)) (by omega))))
                have hR7 := hR6.still ((Still.refl w6).drewN nq)
                have hB7 := hB6.trans ((((Still.refl w6).drewN nq).below _).mono hB6.size)
                clear hR6 hB6
                go_wp2
                go_roundw
                case rel => exact ⟨j + 1, by omega, by rw [HSUC.out]; go_num, by go_num, by rw [HSUC.out]; omega, by rw [HSUC.out]; exact hR7, hB7⟩
                case measure => simp [intOf]; omega
              · have HAT := Lib.hid hat
                clear hat
                go_wp2_with fail
                refine (getYes hR (by omega) 2 (by unfold Wd; omega) (by omega)).mono ?_
                rintro x w5 ⟨rfl, hR5, ho⟩
                rw [HAT.out]
                have hB5 := hBq.trans (ho.below (fun _ h => by omega) hBq.size)
                clear hR ho hBq
                go_wp2_with fail
                refine (readerErr hR5).mono ?_
                rintro e w6 ⟨rfl, hst⟩
                have hR6 := hR5.still hst
                have hB6 := hB5.trans ((hst.below _).mono hB5.size)
                clear hR5 hB5 hst
                have hx2 := HRN.out w6 hB6
                have hx3 := HSO.out w6 (hBo.trans (hB6.mono hBo.size))
                rcases hx2 with hx2 | ⟨b2, o2, hae, hc2⟩
                · have h0 := endsV_length s s.length; rw [hx2] at h0; simp only [List.length_nil] at h0; omega
                cases hae
                rcases hx3 with rfl | ⟨b3, o3, hso, hc3⟩
                · simp at hlt
                cases hso
                have ce6 := hc2 j (by rw [endsV_length]; exact hlt)
                rw [endsV_get s _ _ hlt, HSUC.out] at ce6
                obtain ⟨c06, _⟩ := hc3 j hlt
                rw [HX.out] at c06
                clear hc2 hc3
                have hq : (n64 X).tmod 65536 = n64 (val (be X 2)) := by rw [Int.tmod_eq_emod_of_nonneg (n64_lo X), n64_int, n64_int, val_mod X 2 (by omega)]; rfl
                go_wp2_with fail
                go_quiet (first
                  | (go_at_call 17; exact Calls.quiet_of_same (numOf 0 _))
                  | (go_at_call 18; exact Calls.quiet_of (readerLeft0 (hR6.still ((Still.refl w6).drewN _)) (by omega))))
                have hR7 := hR6.still ((Still.refl w6).drewN nq)
                have hB7 := hB6.trans ((((Still.refl w6).drewN nq).below _).mono hB6.size)
                clear hR6 hB6
                go_wp2
                go_roundw
                case rel => exact ⟨j + 1, by omega, by rw [HSUC.out]; go_num, by go_num, by rw [HSUC.out]; omega, by rw [HSUC.out]; exact hR7, hB7⟩
                case measure => simp [intOf]; omega
              · have HAT := Lib.hid hat
                clear hat
                go_wp2_with fail
                refine (getYes hR (by omega) 4 (by unfold Wd; omega) (by omega)).mono ?_
                rintro x w5 ⟨rfl, hR5, ho⟩
                rw [HAT.out]
                have hB5 := hBq.trans (ho.below (fun _ h => by omega) hBq.size)
                clear hR ho hBq
                go_wp2_with fail
                refine (readerErr hR5).mono ?_
                rintro e w6 ⟨rfl, hst⟩
                have hR6 := hR5.still hst
                have hB6 := hB5.trans ((hst.below _).mono hB5.size)
                clear hR5 hB5 hst
                have hx2 := HRN.out w6 hB6
                have hx3 := HSO.out w6 (hBo.trans (hB6.mono hBo.size))
                rcases hx2 with hx2 | ⟨b2, o2, hae, hc2⟩
                · have h0 := endsV_length s s.length; rw [hx2] at h0; simp only [List.length_nil] at h0; omega
                cases hae
                rcases hx3 with rfl | ⟨b3, o3, hso, hc3⟩
                · simp at hlt
                cases hso
                have ce6 := hc2 j (by rw [endsV_length]; exact hlt)
                rw [endsV_get s _ _ hlt, HSUC.out] at ce6
                obtain ⟨c06, _⟩ := hc3 j hlt
                rw [HX.out] at c06
                clear hc2 hc3
                have hq : (n64 X).tmod 4294967296 = n64 (val (be X 4)) := by rw [Int.tmod_eq_emod_of_nonneg (n64_lo X), n64_int, n64_int, val_mod X 4 (by omega)]; rfl
                go_wp2_with fail
                go_quiet (first
                  | (go_at_call 17; exact Calls.quiet_of_same (numOf 0 _))
                  | (go_at_call 18; exact Calls.quiet_of (readerLeft0 (hR6.still ((Still.refl w6).drewN _)) (by omega))))
                have hR7 := hR6.still ((Still.refl w6).drewN nq)
                have hB7 := hB6.trans ((((Still.refl w6).drewN nq).below _).mono hB6.size)
                clear hR6 hB6
                go_wp2
                go_roundw
                case rel => exact ⟨j + 1, by omega, by rw [HSUC.out]; go_num, by go_num, by rw [HSUC.out]; omega, by rw [HSUC.out]; exact hR7, hB7⟩
                case measure => simp [intOf]; omega
              · have HAT := Lib.hid hat
                clear hat
                go_wp2_with fail
                refine (getYes hR (by omega) 8 (by unfold Wd; omega) (by omega)).mono ?_
                rintro x w5 ⟨rfl, hR5, ho⟩
                rw [HAT.out]
                have hB5 := hBq.trans (ho.below (fun _ h => by omega) hBq.size)
                clear hR ho hBq
                go_wp2_with fail
                refine (readerErr hR5).mono ?_
                rintro e w6 ⟨rfl, hst⟩
                have hR6 := hR5.still hst
                have hB6 := hB5.trans ((hst.below _).mono hB5.size)
                clear hR5 hB5 hst
                have hx2 := HRN.out w6 hB6
                have hx3 := HSO.out w6 (hBo.trans (hB6.mono hBo.size))
                rcases hx2 with hx2 | ⟨b2, o2, hae, hc2⟩
                · have h0 := endsV_length s s.length; rw [hx2] at h0; simp only [List.length_nil] at h0; omega
                cases hae
                rcases hx3 with rfl | ⟨b3, o3, hso, hc3⟩
                · simp at hlt
                cases hso
                have ce6 := hc2 j (by rw [endsV_length]; exact hlt)
                rw [endsV_get s _ _ hlt, HSUC.out] at ce6
                obtain ⟨c06, _⟩ := hc3 j hlt
                rw [HX.out] at c06
                clear hc2 hc3
                have hq : val (be X 8) = X := by
                  apply BitVec.eq_of_toNat_eq
                  rw [val_mod X 8 (by omega)]
                  exact Nat.mod_eq_of_lt X.isLt
                go_wp2_with fail
                go_quiet (first
                  | (go_at_call 17; exact Calls.quiet_of_same (numOf 0 _))
                  | (go_at_call 18; exact Calls.quiet_of (readerLeft0 (hR6.still ((Still.refl w6).drewN _)) (by omega))))
                have hR7 := hR6.still ((Still.refl w6).drewN nq)
                have hB7 := hB6.trans ((((Still.refl w6).drewN nq).below _).mono hB6.size)
                clear hR6 hB6
                go_wp2
                go_roundw
                case rel => exact ⟨j + 1, by omega, by rw [HSUC.out]; go_num, by go_num, by rw [HSUC.out]; omega, by rw [HSUC.out]; exact hR7, hB7⟩
                case measure => simp [intOf]; omega
            · have hn8 : n ≤ 8 := by unfold Wd at hwd; omega
              clear hat
              go_wp2_with fail
              refine (getNo hR (by omega) n hwd (fun h => by omega)).mono ?_
              rintro x w5 ⟨rfl, hR5, -, ho⟩
              rw [show failE M k 0 n = 10 by simp [failE]; omega] at hR5
              have hB5 := hBq.trans (ho.below (fun _ h => by omega) hBq.size)
              clear hR ho hBq
              go_wp2_with fail
              refine (readerErr hR5).mono ?_
              rintro e w6 ⟨rfl, hst⟩
              have hR6 := hR5.still hst
              have hB6 := hB5.trans ((hst.below _).mono hB5.size)
              clear hR5 hB5 hst
              have hx2 := HRN.out w6 hB6
              rcases hx2 with hx2 | ⟨b2', o2', hae, hc2⟩
              · have h0 := endsV_length s s.length; rw [hx2] at h0; simp only [List.length_nil] at h0; omega
              cases hae
              have ce6 := hc2 j (by rw [endsV_length]; exact hlt)
              rw [endsV_get s _ _ hlt, HSUC.out] at ce6
              clear hc2
              go_wp2_with fail
              refine (numOf 10 w6).mono ?_
              rintro e w7 ⟨rfl, rfl⟩
              go_wp2_with fail
              refine (readerLeft hR6 (by omega)).mono ?_
              rintro e w8 ⟨rfl, hst⟩
              rw [if_neg (by decide)]
              have hB8 := hB6.trans ((hst.below _).mono hB6.size)
              have hBz := hBo.trans (hB8.mono hBo.size)
              clear hR6 hB6 hst hB8
              go_wp2
              go_ret
              exact ⟨rfl, hBz⟩
          · have hBz := hBo.trans (hBq.mono hBo.size)
            clear hR hBq
            go_wp2
            go_ret
            exact ⟨rfl, hBz⟩
  · obtain ⟨s, hss⟩ : ∃ s, s0 = s := ⟨_, rfl⟩
    rw [hss] at hbig hs0 hcap ⊢
    have hs200 : s.length ≤ 200 := by omega
    have HS := Lib.hid (fun (w' : World) (hb : Below w.heap.size w w') => hs0.on hb)
    clear hs0 hss
    have E0 : Bst w1 (.slice none 0 0) (enc (s.take 0)) := ⟨none, 0, by simp [enc], by simp [enc]; exact Rd.nil _ _, by simp [enc], fun a x => by cases x⟩
    have E1 : w1.ownsRow w.heap.size 3 1 (.slice none 0 0) 0 (ints (endsV s 0)) := World.ownsRow_nil _ _ _ _
    go_wp2_with fail
    go_loopw [6, 7, 8] (fun v6 v7 i wr => ∃ j : Nat, j ≤ s.length ∧ i = .int .i64 j ∧ Bst wr v6 (enc (s.take j)) ∧ wr.ownsRow w.heap.size 3 1 v7 j (ints (endsV s j)) ∧ Below w.heap.size w wr) (fun _ _ i _ => s.length - (intOf i).toNat)
    case atStart => exact ⟨0, Nat.zero_le _, rfl, E0, E1, hb1⟩
    case round =>
      obtain ⟨j, hj, rfl, hb, he, hB⟩ := hrel
      clear E0 E1 hb1
      by_cases hlt : j < s.length
      · have hx0 := HS.out wr hB
        rcases hx0 with rfl | ⟨b, o, rfl, hc⟩
        · simp at hlt
        obtain ⟨c0, c1⟩ := hc j hlt
        have hsucc := enc_succ s j hlt
        have hensucc := en_succ s j hlt
        have hel := en_le s (j + 1) hlt
        obtain ⟨X, hX⟩ : ∃ X, (s.getD j (0#64, 0)).1 = X := ⟨_, rfl⟩
        obtain ⟨W, hW⟩ : ∃ W, (s.getD j (0#64, 0)).2 = W := ⟨_, rfl⟩
        rw [hX] at c0 hsucc
        rw [hW] at c1 hsucc hensucc
        have HSU := Lib.hid hsucc
        obtain ⟨ao, cap, rfl, hrd, hlc, hty⟩ := hb.it
        have hb' : Bst wr (.slice ao (enc (s.take j)).length cap) (enc (s.take j)) := ⟨ao, cap, rfl, hrd, hlc, hty⟩
        have HE := Lib.hid he
        have HB := Lib.hid hb'
        have HRD := Lib.hid hrd
        obtain ⟨N, hN⟩ : ∃ N, (enc (s.take j)).length = N := ⟨_, rfl⟩
        have hN1 : en s j = N := hN
        have hNb : N ≤ 1600 := by have := en_le s j hj; omega
        rw [hN] at HB hlc ⊢
        have HN := Lib.hid hN
        clear hc hX hW hsucc hb he hrd hty hb' hN
        go_wp2_with fail
        go_still_tail 12, (by kernel_rfl)
        still_call ((wideAt W _).mono (fun e w' h => h))
        repeat still_step
        refine wpStill_nil ?_
        change wpList _ _ _ _ _ wr.drew
        go_wp2_with fail
        refine (putOf ao (enc (s.take j)) N cap X _ HN.out (by omega) (HRD.out.on (((Still.refl wr).drewN 1).below _)) (wd W) (wd_Wd W)).mono ?_
        rintro e w2 ⟨gb, rfl, hgb, hO, hb2⟩
        have he2 : w2.ownsRow w.heap.size 3 1 u7 j (ints (endsV s j)) := owns_below HE.out (((((Still.refl wr).drewN 1).below _)).trans hb2)
        have hB2 : Below w.heap.size w w2 := (hB.trans ((((Still.refl wr).drewN 1).below _).mono hB.size)).trans (hb2.mono hB.size)
        have hNl : (enc (s.take (j + 1))).length = N + wd W := by rw [HSU.out, List.length_append, be_length, HN.out]
        have hb3 : Bst w2 (.slice (some ⟨gb, 0, none⟩) (enc (s.take (j + 1))).length (N + wd W)) (enc (s.take (j + 1))) := by
          rw [HSU.out]
          refine ⟨some ⟨gb, 0, none⟩, _, rfl, hO.rd, by rw [← HSU.out]; omega, fun a x => ?_⟩
          cases x
          obtain ⟨cur, hc, _⟩ := hO
          exact ⟨cur, hc⟩
        rw [hNl] at hb3
        have hWb := wd_le W
        have H3 := Lib.hid hb3
        clear hO hb2 hb3 HE HB HRD c0 c1 hlc hB hgb hNl
        go_wp2_with (at_builtin; refine wpList_append_own _ rfl _ _ 29 rfl w.heap.size 3 i0 (.int .i64 0) 1 8 Try.underlying29 hi hz0 hz1 hz2 rfl (by decide) _ _ _ rfl (he2.alloc _) ⟨w2.heap.size, 0, none⟩ 1 1 [.int .i64 ((N : Int) + (wd W : Int))] rfl rfl ?c1 ?c2 ?c3 ?c4 ?c5 ?_)
        case c1 =>
          intro j u hj
          match j, hj with
          | 0, hj => simp at hj; subst hj; simp [Addr.add]
        case c2 => intro u hu; simp at hu; subst hu; rfl
        case c3 => unfold maxLen; omega
        case c4 => omega
        case c5 => have := hB2.size; simp; omega
        intro v' w3 hown' hgrow _
        have hn1 : Below w.heap.size w w3 := (hB2.alloc hB2.size _).grown hgrow (by have := hB2.size; simp; omega) (fun g hg => (he2.lt g hg).1)
        have H4 := Lib.hid ((H3.out.below ((Below.refl _ w2).alloc (Nat.le_refl _) _)).grown (he2.alloc _) hgrow)
        clear he2 hgrow hB2 H3
        go_wp2
        go_roundw
        case rel => exact ⟨j + 1, by omega, by go_num, H4.out, by rw [endsV_succ, hensucc, hN1, Int.natCast_add]; unfold ints at hown' ⊢; rw [List.map_append]; exact hown', hn1⟩
        case measure => simp [intOf]; omega
      · obtain rfl : j = s.length := by omega
        rw [List.take_length] at hb
        obtain ⟨ao, cap, rfl, hrd, hlc, hty⟩ := hb.it
        obtain ⟨-, ae, ce, rfl, hRn, -⟩ := owns_ints he
        have hNb : (enc s).length ≤ 1600 := by have := en_le s s.length (Nat.le_refl _); rw [en_all] at this; omega
        have hall := en_all s
        obtain ⟨L, hL⟩ : ∃ L, enc s = L := ⟨_, rfl⟩
        rw [hL] at hrd hlc hNb hall ⊢
        have HL := Lib.hid hL
        have ht1 : -((L.length : Int) + 1) < cut.tmod ((L.length : Int) + 1) := by have := Int.lt_tmod_of_pos cut (b := (L.length : Int) + 1) (by omega); omega
        have ht2 : cut.tmod ((L.length : Int) + 1) < (L.length : Int) + 1 := Int.tmod_lt_of_pos cut (by omega)
        have ht3 : 0 ≤ cut.tmod ((L.length : Int) + 1) + (L.length : Int) + 1 := by omega
        obtain ⟨c, hc, hm1⟩ : ∃ c : Nat, c ≤ L.length ∧ (cut.tmod ((L.length : Int) + 1) + (L.length : Int) + 1) % ((L.length : Int) + 1) = (c : Int) := by
          have h1 := Int.emod_nonneg (cut.tmod ((L.length : Int) + 1) + (L.length : Int) + 1) (b := (L.length : Int) + 1) (by omega)
          have h2 := Int.emod_lt_of_pos (cut.tmod ((L.length : Int) + 1) + (L.length : Int) + 1) (b := (L.length : Int) + 1) (by omega)
          exact ⟨_, by omega, (Int.toNat_of_nonneg h1).symm⟩
        have hm2 : (cut.tmod ((L.length : Int) + 1) + (L.length : Int) + 1).tmod ((L.length : Int) + 1) = (c : Int) := by rw [Int.tmod_eq_emod_of_nonneg ht3, hm1]
        have HRN := Lib.hid (fun (w' : World) (hb : Below wr.heap.size wr w') => hRn.on hb)
        have hnz : ¬ ((L.length : Int) + 1 = 0) := by omega
        have hnz2 : ((L.length : Int) + 1 == 0) = false := by rw [beq_eq_false_iff_ne]; exact hnz
        clear hL hb he hty hRn
        go_wp2_with fail
        have hLc : (L.take c).length = c := by simp; omega
        have hBo := hB
        have hrc : Rd wr ao (L.take c) := hrd.take c
        obtain ⟨wo, hwo⟩ : ∃ wo : World, wo = wr := ⟨_, rfl⟩
        rw [← hwo] at hrc hBo HRN ⊢
        clear hrd hB hwo ht1 ht2 ht3 hm1 hm2 hnz hnz2 hlc
        refine (newReaderAt ao (L.take c) c cap wo hLc (by omega) hrc).mono ?_
        rintro e w4 ⟨p, g, rfl, hp, hg, hR4, hB4⟩
        have HAL : Hid (∀ j, j < s.length → en s j + wd (s.getD j (0#64, 0)).2 ≤ c → ((L.take c).drop (en s j)).take (wd (s.getD j (0#64, 0)).2) = be (s.getD j (0#64, 0)).1 (wd (s.getD j (0#64, 0)).2)) := by
          show ∀ j, _
          intro j hj hc'
          rw [← HL.out]
          exact enc_at s j c hj hc'
        have HSO := Lib.hid (fun (w' : World) (hb : Below w.heap.size w w') => HS.out w' hb)
        have R0 : Rdr w4 p g (L.take c) (en s 0) 0 := by rw [en_zero]; exact hR4
        obtain ⟨M, hM⟩ : ∃ M, L.take c = M := ⟨_, rfl⟩
        rw [hM] at R0 HAL hLc
        clear hrc hg hR4 hM
        go_wp2_with fail
        go_loopw [11, 12] (fun f i wq => ∃ j : Nat, j ≤ s.length ∧ f = .int .i64 (en s j : Nat) ∧ i = .int .i64 j ∧ en s j ≤ c ∧ Rdr wq p g M (en s j) 0 ∧ Below wo.heap.size wo wq) (fun _ i _ => s.length - (intOf i).toNat)
        case atStart => exact ⟨0, Nat.zero_le _, by rw [en_zero]; rfl, rfl, by rw [en_zero]; omega, R0, hB4⟩
        case round =>
          obtain ⟨j, hj, rfl, rfl, hec, hR, hBq⟩ := hrel
          clear R0 hB4
          by_cases hlt : j < s.length
          · have hx2 := HRN.out wr hBq
            have hx3 := HSO.out wr (hBo.trans (hBq.mono hBo.size))
            rcases hx2 with hx2 | ⟨b2, o2, rfl, hc2⟩
            · have h0 := endsV_length s s.length; rw [hx2] at h0; simp only [List.length_nil] at h0; omega
            rcases hx3 with rfl | ⟨b3, o3, rfl, hc3⟩
            · simp at hlt
            have ce := hc2 j (by rw [endsV_length]; exact hlt)
            obtain ⟨c0, c1⟩ := hc3 j hlt
            have hsuc := en_succ s j hlt
            have hat := HAL.out j hlt
            obtain ⟨X, hX⟩ : ∃ X, (s.getD j (0#64, 0)).1 = X := ⟨_, rfl⟩
            obtain ⟨W, hW⟩ : ∃ W, (s.getD j (0#64, 0)).2 = W := ⟨_, rfl⟩
            have hwd := wd_Wd W
            rw [endsV_get s _ _ hlt, hsuc] at ce
            rw [hX] at c0
            rw [hW] at c1 ce hsuc
            rw [hX, hW] at hat
            obtain ⟨k, hk⟩ : ∃ k, en s j = k := ⟨_, rfl⟩
            rw [hk] at ce hsuc hat hec hR ⊢
            have HX := Lib.hid hX
            have HWD := Lib.hid (wideAt W wr)
            obtain ⟨n, hn⟩ : ∃ n, wd W = n := ⟨_, rfl⟩
            have HWN := Lib.hid hn
            rw [hn] at ce hsuc hat hwd
            have HSUC := Lib.hid hsuc
            clear hc2 hc3 hX hW hsuc hk hn hall
            go_wp2_with fail
            refine HWD.out.mono ?_
            rintro e w4b ⟨rfl, rfl⟩
            rw [HWN.out]
            clear HWD HWN
            by_cases hfit : k + n ≤ c
            · replace hat := hat hfit
              rcases hwd with rfl | rfl | rfl | rfl
              · have HAT := Lib.hid hat
                clear hat
                go_wp2_with fail
                refine (getYes hR (by omega) 1 (by unfold Wd; omega) (by omega)).mono ?_
                rintro x w5 ⟨rfl, hR5, ho⟩
                rw [HAT.out]
                have hB5 := hBq.trans (ho.below (fun _ h => by omega) hBq.size)
                clear hR ho hBq
                go_wp2_with fail
                refine (readerErr hR5).mono ?_
                rintro e w6 ⟨rfl, hst⟩
                have hR6 := hR5.still hst
                have hB6 := hB5.trans ((hst.below _).mono hB5.size)
                clear hR5 hB5 hst
                have hx2 := HRN.out w6 hB6
                have hx3 := HSO.out w6 (hBo.trans (hB6.mono hBo.size))
                rcases hx2 with hx2 | ⟨b2, o2, hae, hc2⟩
                · have h0 := endsV_length s s.length; rw [hx2] at h0; simp only [List.length_nil] at h0; omega
                cases hae
                rcases hx3 with rfl | ⟨b3, o3, hso, hc3⟩
                · simp at hlt
                cases hso
                have ce6 := hc2 j (by rw [endsV_length]; exact hlt)
                rw [endsV_get s _ _ hlt, HSUC.out] at ce6
                obtain ⟨c06, _⟩ := hc3 j hlt
                rw [HX.out] at c06
                clear hc2 hc3
                have hq : (n64 X).tmod 256 = n64 (val (be X 1)) := by rw [Int.tmod_eq_emod_of_nonneg (n64_lo X), n64_int, n64_int, val_mod X 1 (by omega)]; rfl
                go_wp2_with fail
                go_quiet (first
                  | (go_at_call 17; exact Calls.quiet_of_same (numOf 0 _))
                  | (go_at_call 18; exact Calls.quiet_of (readerLeft0 (hR6.still ((Still.refl w6).drewN _)) (by omega))))
                have hR7 := hR6.still ((Still.refl w6).drewN nq)
                have hB7 := hB6.trans ((((Still.refl w6).drewN nq).below _).mono hB6.size)
                clear hR6 hB6
                go_wp2
                go_roundw
                case rel => exact ⟨j + 1, by omega, by rw [HSUC.out]; go_num, by go_num, by rw [HSUC.out]; omega, by rw [HSUC.out]; exact hR7, hB7⟩
                case measure => simp [intOf]; omega
              · have HAT := Lib.hid hat
                clear hat
                go_wp2_with fail
                refine (getYes hR (by omega) 2 (by unfold Wd; omega) (by omega)).mono ?_
                rintro x w5 ⟨rfl, hR5, ho⟩
                rw [HAT.out]
                have hB5 := hBq.trans (ho.below (fun _ h => by omega) hBq.size)
                clear hR ho hBq
                go_wp2_with fail
                refine (readerErr hR5).mono ?_
                rintro e w6 ⟨rfl, hst⟩
                have hR6 := hR5.still hst
                have hB6 := hB5.trans ((hst.below _).mono hB5.size)
                clear hR5 hB5 hst
                have hx2 := HRN.out w6 hB6
                have hx3 := HSO.out w6 (hBo.trans (hB6.mono hBo.size))
                rcases hx2 with hx2 | ⟨b2, o2, hae, hc2⟩
                · have h0 := endsV_length s s.length; rw [hx2] at h0; simp only [List.length_nil] at h0; omega
                cases hae
                rcases hx3 with rfl | ⟨b3, o3, hso, hc3⟩
                · simp at hlt
                cases hso
                have ce6 := hc2 j (by rw [endsV_length]; exact hlt)
                rw [endsV_get s _ _ hlt, HSUC.out] at ce6
                obtain ⟨c06, _⟩ := hc3 j hlt
                rw [HX.out] at c06
                clear hc2 hc3
                have hq : (n64 X).tmod 65536 = n64 (val (be X 2)) := by rw [Int.tmod_eq_emod_of_nonneg (n64_lo X), n64_int, n64_int, val_mod X 2 (by omega)]; rfl
                go_wp2_with fail
                go_quiet (first
                  | (go_at_call 17; exact Calls.quiet_of_same (numOf 0 _))
                  | (go_at_call 18; exact Calls.quiet_of (readerLeft0 (hR6.still ((Still.refl w6).drewN _)) (by omega))))
                have hR7 := hR6.still ((Still.refl w6).drewN nq)
                have hB7 := hB6.trans ((((Still.refl w6).drewN nq).below _).mono hB6.size)
                clear hR6 hB6
                go_wp2
                go_roundw
                case rel => exact ⟨j + 1, by omega, by rw [HSUC.out]; go_num, by go_num, by rw [HSUC.out]; omega, by rw [HSUC.out]; exact hR7, hB7⟩
                case measure => simp [intOf]; omega
              · have HAT := Lib.hid hat
                clear hat
                go_wp2_with fail
                refine (getYes hR (by omega) 4 (by unfold Wd; omega) (by omega)).mono ?_
                rintro x w5 ⟨rfl, hR5, ho⟩
                rw [HAT.out]
                have hB5 := hBq.trans (ho.below (fun _ h => by omega) hBq.size)
                clear hR ho hBq
                go_wp2_with fail
                refine (readerErr hR5).mono ?_
                rintro e w6 ⟨rfl, hst⟩
                have hR6 := hR5.still hst
                have hB6 := hB5.trans ((hst.below _).mono hB5.size)
                clear hR5 hB5 hst
                have hx2 := HRN.out w6 hB6
                have hx3 := HSO.out w6 (hBo.trans (hB6.mono hBo.size))
                rcases hx2 with hx2 | ⟨b2, o2, hae, hc2⟩
                · have h0 := endsV_length s s.length; rw [hx2] at h0; simp only [List.length_nil] at h0; omega
                cases hae
                rcases hx3 with rfl | ⟨b3, o3, hso, hc3⟩
                · simp at hlt
                cases hso
                have ce6 := hc2 j (by rw [endsV_length]; exact hlt)
                rw [endsV_get s _ _ hlt, HSUC.out] at ce6
                obtain ⟨c06, _⟩ := hc3 j hlt
                rw [HX.out] at c06
                clear hc2 hc3
                have hq : (n64 X).tmod 4294967296 = n64 (val (be X 4)) := by rw [Int.tmod_eq_emod_of_nonneg (n64_lo X), n64_int, n64_int, val_mod X 4 (by omega)]; rfl
                go_wp2_with fail
                go_quiet (first
                  | (go_at_call 17; exact Calls.quiet_of_same (numOf 0 _))
                  | (go_at_call 18; exact Calls.quiet_of (readerLeft0 (hR6.still ((Still.refl w6).drewN _)) (by omega))))
                have hR7 := hR6.still ((Still.refl w6).drewN nq)
                have hB7 := hB6.trans ((((Still.refl w6).drewN nq).below _).mono hB6.size)
                clear hR6 hB6
                go_wp2
                go_roundw
                case rel => exact ⟨j + 1, by omega, by rw [HSUC.out]; go_num, by go_num, by rw [HSUC.out]; omega, by rw [HSUC.out]; exact hR7, hB7⟩
                case measure => simp [intOf]; omega
              · have HAT := Lib.hid hat
                clear hat
                go_wp2_with fail
                refine (getYes hR (by omega) 8 (by unfold Wd; omega) (by omega)).mono ?_
                rintro x w5 ⟨rfl, hR5, ho⟩
                rw [HAT.out]
                have hB5 := hBq.trans (ho.below (fun _ h => by omega) hBq.size)
                clear hR ho hBq
                go_wp2_with fail
                refine (readerErr hR5).mono ?_
                rintro e w6 ⟨rfl, hst⟩
                have hR6 := hR5.still hst
                have hB6 := hB5.trans ((hst.below _).mono hB5.size)
                clear hR5 hB5 hst
                have hx2 := HRN.out w6 hB6
                have hx3 := HSO.out w6 (hBo.trans (hB6.mono hBo.size))
                rcases hx2 with hx2 | ⟨b2, o2, hae, hc2⟩
                · have h0 := endsV_length s s.length; rw [hx2] at h0; simp only [List.length_nil] at h0; omega
                cases hae
                rcases hx3 with rfl | ⟨b3, o3, hso, hc3⟩
                · simp at hlt
                cases hso
                have ce6 := hc2 j (by rw [endsV_length]; exact hlt)
                rw [endsV_get s _ _ hlt, HSUC.out] at ce6
                obtain ⟨c06, _⟩ := hc3 j hlt
                rw [HX.out] at c06
                clear hc2 hc3
                have hq : val (be X 8) = X := by
                  apply BitVec.eq_of_toNat_eq
                  rw [val_mod X 8 (by omega)]
                  exact Nat.mod_eq_of_lt X.isLt
                go_wp2_with fail
                go_quiet (first
                  | (go_at_call 17; exact Calls.quiet_of_same (numOf 0 _))
                  | (go_at_call 18; exact Calls.quiet_of (readerLeft0 (hR6.still ((Still.refl w6).drewN _)) (by omega))))
                have hR7 := hR6.still ((Still.refl w6).drewN nq)
                have hB7 := hB6.trans ((((Still.refl w6).drewN nq).below _).mono hB6.size)
                clear hR6 hB6
                go_wp2
                go_roundw
                case rel => exact ⟨j + 1, by omega, by rw [HSUC.out]; go_num, by go_num, by rw [HSUC.out]; omega, by rw [HSUC.out]; exact hR7, hB7⟩
                case measure => simp [intOf]; omega
            · have hn8 : n ≤ 8 := by unfold Wd at hwd; omega
              clear hat
              go_wp2_with fail
              refine (getNo hR (by omega) n hwd (fun h => by omega)).mono ?_
              rintro x w5 ⟨rfl, hR5, -, ho⟩
              rw [show failE M k 0 n = 10 by simp [failE]; omega] at hR5
              have hB5 := hBq.trans (ho.below (fun _ h => by omega) hBq.size)
              clear hR ho hBq
              go_wp2_with fail
              refine (readerErr hR5).mono ?_
              rintro e w6 ⟨rfl, hst⟩
              have hR6 := hR5.still hst
              have hB6 := hB5.trans ((hst.below _).mono hB5.size)
              clear hR5 hB5 hst
              have hx2 := HRN.out w6 hB6
              rcases hx2 with hx2 | ⟨b2', o2', hae, hc2⟩
              · have h0 := endsV_length s s.length; rw [hx2] at h0; simp only [List.length_nil] at h0; omega
              cases hae
              have ce6 := hc2 j (by rw [endsV_length]; exact hlt)
              rw [endsV_get s _ _ hlt, HSUC.out] at ce6
              clear hc2
              go_wp2_with fail
              refine (numOf 10 w6).mono ?_
              rintro e w7 ⟨rfl, rfl⟩
              go_wp2_with fail
              refine (readerLeft hR6 (by omega)).mono ?_
              rintro e w8 ⟨rfl, hst⟩
              rw [if_neg (by decide)]
              have hB8 := hB6.trans ((hst.below _).mono hB6.size)
              have hBz := hBo.trans (hB8.mono hBo.size)
              clear hR6 hB6 hst hB8
              go_wp2
              go_ret
              exact ⟨rfl, hBz⟩
          · have hBz := hBo.trans (hBq.mono hBo.size)
            clear hR hBq
            go_wp2
            go_ret
            exact ⟨rfl, hBz⟩
end Go.Proofs.Ytmhcfifenclebaa
