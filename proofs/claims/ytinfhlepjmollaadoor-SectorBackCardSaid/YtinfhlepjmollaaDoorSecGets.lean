/- gets: a Get held against the document. -/
import Derived.Test.YtinfhlepjmollaaDoorSecLawFirst
namespace Go.Proofs.YtinfhlepjmollaaDoor
open Go.RowKit
theorem getV_len (b : List (BitVec 8)) (_hb : b.length ≤ 65536) : (getV b).body.length ≤ 281474976710656 := by
  unfold getV
  cases hg : getS b with
  | none => simp [Sec.zero]
  | some S =>
    have := (may_iff.1 (getS_spec hg).1).2.2.2.2
    simp; omega
/-- Whatever sign a place has: it is brought among the bits. -/
theorem place (x : Int) (M : Nat) (hM : 0 < M) : -(M : Int) < x.tmod M ∧ x.tmod M < (M : Int) ∧ ∃ i : Nat, i < M ∧ (x.tmod (M : Int) + (M : Int)) % (M : Int) = (i : Int) := by
  have h1 : -(M : Int) < x.tmod M := by have := Int.lt_tmod_of_pos x (b := (M : Int)) (by omega); omega
  have h2 : x.tmod M < (M : Int) := Int.tmod_lt_of_pos x (by omega)
  refine ⟨h1, h2, ?_⟩
  have h3 := Int.emod_nonneg (x.tmod (M : Int) + (M : Int)) (b := (M : Int)) (by omega)
  have h4 := Int.emod_lt_of_pos (x.tmod (M : Int) + (M : Int)) (b := (M : Int)) (by omega)
  exact ⟨_, by omega, (Int.toNat_of_nonneg h3).symm⟩
theorem putYes (S : Sec) (ao : Option Addr) (cap : Nat) (w : World) (hm : S.may = true) (hf : S.fits) (hr : Rd w ao S.body) (ht : Tab w) (hT : 0 < w.heap.size) :
   Calls Tryd.prog 13 #[S.val ao cap] w fun e w' => ∃ g c, e = .returned (.tuple #[.slice (some ⟨g, 0, none⟩) 512 c, .int .i64 0]) ∧ w.heap.size ≤ g ∧ 512 ≤ c ∧ Own w' g c 5 S.bytes ∧ Below w.heap.size w w' := by
  refine (secPut S ao cap w hf hr ht hT).mono ?_
  rintro e w' ⟨ar, cr, rfl, hmi, hb⟩
  rw [(putS_yes hm).1] at hmi
  rw [(putS_yes hm).1, (putS_yes hm).2, bytes_len hm]
  have hle := hmi.le
  rw [bytes_len hm] at hle
  rcases hmi with ⟨h, _⟩ | ⟨g, rfl, hg, ho⟩
  · exact absurd (congrArg List.length h) (by rw [bytes_len hm]; decide)
  · exact ⟨g, cr, rfl, hg, hle, ho, hb⟩
theorem bytes_iff {S T : Sec} (hS : S.may = true) (hT : T.may = true) : (S.bytes == T.bytes) = alikeS S T := by
  rw [Bool.eq_iff_iff, beq_iff_eq, alikeS_iff]
  exact ⟨sec_inj hS hT, fun h => by rw [h]⟩
set_option maxHeartbeats 4000000 in
theorem lawGets (b : List (BitVec 8)) (xo : Option Addr) (n cap : Nat) (w : World) (hn : b.length = n) (hl : n ≤ 65536) (hc : n + 3 ≤ cap) (hr : Rd w xo (b ++ [161#8, 162#8, 163#8])) (ht : Tab w) (hT : 0 < w.heap.size) :
   Calls Tryd.prog 18 #[.slice xo (n + 3) cap, .int .i64 n] w fun e w' => e = .returned (.bool true) ∧ Below w.heap.size w w' := by
  have HTB := Lib.hid (fun (w' : World) (hb : Below w.heap.size w w') => (⟨ht.below hb hT, Nat.lt_of_lt_of_le hT hb.size⟩ : _ ∧ _))
  have hln : (b ++ [161#8, 162#8, 163#8]).length = n + 3 := by rw [List.length_append, hn]; rfl
  have hpre : Rd w xo b := by
    have := hr.take n
    rwa [List.take_left' hn] at this
  have HRX := Lib.hid (fun (w' : World) (hb : Below w.heap.size w w') => hr.on hb)
  have HRB := Lib.hid (fun (w' : World) (hb : Below w.heap.size w w') => hpre.on hb)
  obtain ⟨X, hX⟩ : ∃ X, b ++ [161#8, 162#8, 163#8] = X := ⟨_, rfl⟩
  rw [hX] at hln HRX
  have HX := Lib.hid hX
  have HLn := Lib.hid hln
  have HN := Lib.hid hn
  clear hX hln hn hr hpre ht hT
  obtain ⟨V, hV⟩ : ∃ V, getV b = V := ⟨_, rfl⟩
  obtain ⟨vt, ve, vs, vp, vb⟩ := V
  obtain ⟨E, hE⟩ : ∃ E, getE b = E := ⟨_, rfl⟩
  have HVE := Lib.hid (⟨hV, hE⟩ : _ ∧ _)
  have HVL := Lib.hid (getV_len b (by rw [HN.out]; omega))
  rw [hV] at HVL
  clear hV hE
  go_enter Tryd.func18, Tryd.ntmps18
  go_wp2_with fail
  refine (bytesOf' xo X (n + 3) cap w HLn.out (by rw [HLn.out]; omega) (HRX.out _ (Below.refl _ _))).mono ?_
  rintro e W1 ⟨v1, rfl, ho, hb⟩
  obtain ⟨aw, cw, rfl, hm⟩ := owns_mine' ho HLn.out
  have HB := Lib.hid ((Bag.start w).mine hb hm)
  have hcw := hm.le
  rw [HLn.out] at hcw
  clear ho hm hb
  go_wp2_with fail
  have h := secGet b xo (n) (n + 3) W1 HN.out (by omega) (HRB.out _ HB.out.below) (HTB.out _ HB.out.below).1 (HTB.out _ HB.out.below).2
  rw [HVE.out.1, HVE.out.2] at h
  unfold Sec.val at h
  refine h.mono ?_
  clear h
  rintro e W2 ⟨ag, cag, rfl, Mx, hb⟩
  have h0 := HB.out.mine hb Mx
  clear HB
  have HB := Lib.hid h0
  clear h0
  clear Mx hb
  go_wp2_with fail
  generalize hU : W2.alloc (.cells #[.string (str vt), .int .i64 ve, .int .i64 vs, .int .i64 vp, .slice ag vb.length cag] 24 (0, 0)) = U3
  have h0 := HB.out.alloc #[.string (str vt), .int .i64 ve, .int .i64 vs, .int .i64 vp, .slice ag vb.length cag] 24
  rw [hU] at h0
  clear HB
  have HB := Lib.hid h0
  clear h0
  clear hU
  have hrw : Rd U3 aw b := by
    have := (HB.out.mineRd 2 rfl)
    rw [← HX.out] at this
    have := this.take n
    rwa [List.take_left' HN.out] at this
  have h := refGet b aw (n) (cw) U3 HN.out (by omega) hrw
  rw [HVE.out.1, HVE.out.2] at h
  unfold Sec.val at h
  refine h.mono ?_
  clear h
  rintro e W4 ⟨ar, car, rfl, Mx, hb⟩
  have h0 := HB.out.mine hb Mx
  clear HB
  have HB := Lib.hid h0
  clear h0
  clear Mx hb
  clear hrw
  obtain ⟨qs_0, qs_1, qs_2, qs_3, qs_4, qs_f⟩ := cells5 (HB.out.box 1 rfl)
  have qs_l := HB.out.boxLt 1 rfl
  go_wp2_with fail
  generalize hU : W4.alloc (.cells #[.string (str vt), .int .i64 ve, .int .i64 vs, .int .i64 vp, .slice ar vb.length car] 24 (0, 0)) = U5
  clear qs_0 qs_1 qs_2 qs_3 qs_4 qs_f qs_l
  have h0 := HB.out.alloc #[.string (str vt), .int .i64 ve, .int .i64 vs, .int .i64 vp, .slice ar vb.length car] 24
  rw [hU] at h0
  clear HB
  have HB := Lib.hid h0
  clear h0
  clear hU
  refine (alike ⟨vt, ve, vs, vp, vb⟩ ⟨vt, ve, vs, vp, vb⟩ ag ar cag car _ HVL.out HVL.out (HB.out.mineRd 3 rfl) (HB.out.mineRd 1 rfl)).mono ?_
  rintro e W6 ⟨he, hb⟩
  rw [alikeS_refl] at he
  subst he
  have h0 := HB.out.call hb
  clear HB
  have HB := Lib.hid h0
  clear h0
  clear hb
  go_wp2_with fail
  refine (sameTrue xo aw X (n + 3) (n + 3) cap cw _ HLn.out HLn.out (by omega) (HRX.out _ HB.out.below) (HB.out.mineRd 4 rfl)).mono ?_
  rintro e W7 ⟨rfl, hst⟩
  have hb := hst.below W6.heap.size
  clear hst
  have h0 := HB.out.call hb
  clear HB
  have HB := Lib.hid h0
  clear h0
  clear hb
  have hEE : (E == E) = true := by simp
  go_wp2_with fail
  refine (numOf _ _).mono ?_
  rintro e w' ⟨rfl, hw⟩
  obtain rfl := hw
  go_wp2_with fail
  go_ret
  exact ⟨rfl, HB.out.below⟩
end Go.Proofs.YtinfhlepjmollaaDoor
