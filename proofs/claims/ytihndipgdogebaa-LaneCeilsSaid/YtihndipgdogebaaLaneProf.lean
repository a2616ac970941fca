/- What a call by number makes of a lane, in the words of the tests of LaneRises, LaneNever and LaneCeils. No program in sight but the lane's own functions. -/
import Derived.Test.YtihndipgdogebaaLanePure
namespace Go.Proofs.Ytihndipgdogebaa
open Go.RowKit
/-- The tests of LaneRises behind one call, for kinds told by four Booleans. -/
structure Prof (M Z : Ln) (kd gv last : Int) (sb k1 k3 k4 k5 eqc ltc ltn aft gp : Bool) : Prop where
  hsb : sameL Z M = sb
  hk1 : (kd == 1) = k1
  hk3 : (kd == 3) = k3
  hk4 : (kd == 4) = k4
  hk5 : (kd == 5) = k5
  heqc : (Z.cur == M.cur) = eqc
  hgec : M.cur ≤ Z.cur
  hgen : M.next ≤ Z.next
  hltc : decide (M.cur < Z.cur) = ltc
  hltn : decide (M.next < Z.next) = ltn
  hges : eqc = true → M.send ≤ Z.send ∧ M.ceil ≤ Z.ceil
  haft0 : aftB M.sec M.nano Z.sec Z.nano = false
  haft : aftB Z.sec Z.nano M.sec M.nano = aft
  hgp : decide (0 ≤ gv) = gp
  hgiven : gp = true → M.cur < gv ∧ last < gv ∧ gv = Z.next
theorem keq (a b : Int) (h : a = b) : (a == b) = true := by simp [h]
theorem kne (a b : Int) (h : a ≠ b) : (a == b) = false := by simp [h]
/-- One of seven. -/
theorem Turn.prof {M Z : Ln} {o : Ask} {gv av : Int} (h : Turn M o Z gv av) (last : Int) (hl : last ≤ M.next) :
    (∃ b1 b3 b4 b5, Prof M Z o.kind gv last true b1 b3 b4 b5 true false false false false) ∨
    Prof M Z o.kind gv last false true false false false false true false false false ∨
    Prof M Z o.kind gv last false false true false false true false true false true ∨
    Prof M Z o.kind gv last false false false true false false true false true false ∨
    Prof M Z o.kind gv last false false false false true false true false false false ∨
    Prof M Z o.kind gv last true false false false false true false false false false ∨
    Prof M Z o.kind gv last false false false false false true false false false false := by
  have ht := topG_bd M
  have hs := aft_self M.sec M.nano
  have nsame : ∀ {A B : Ln}, A.cur ≠ B.cur ∨ A.next ≠ B.next → sameL A B = false := by
    intro A B h
    cases hb : sameL A B with
    | false => rfl
    | true =>
      simp only [sameL, Bool.and_eq_true, beq_iff_eq] at hb
      rcases h with h | h
      · exact absurd hb.2.2.2.1 h
      · exact absurd hb.2.2.2.2.1 h
  cases h with
  | stay =>
    refine Or.inl ⟨_, _, _, _, sameL_refl _, rfl, rfl, rfl, rfl, by simp, Int.le_refl _, Int.le_refl _, by simp, by simp, fun _ => ⟨Int.le_refl _, Int.le_refl _⟩, hs, hs, by simp, by simp⟩
  | again h hok ht1 =>
    refine Or.inr (Or.inl ⟨nsame (Or.inl (by simp only [Ln.keep]; omega)), keq _ _ h, kne _ _ (by omega), kne _ _ (by omega), kne _ _ (by omega), kne _ _ (by simp only [Ln.keep]; omega), by simp only [Ln.keep]; omega, by simp only [Ln.keep]; omega, decide_eq_true (by simp only [Ln.keep]; omega), by simp [Ln.keep], by simp, hs, hs, by simp, by simp⟩)
  | reserve h hok x hx hx1 hb =>
    have hg := upF_gt x o.b hb hx1
    cases hsb : sameL (M.keep M.cur M.next (upF x o.b) M.ceil M.sec M.nano) M with
    | true => exact Or.inr (Or.inr (Or.inr (Or.inr (Or.inr (Or.inl ⟨hsb, kne _ _ (by omega), kne _ _ (by omega), kne _ _ (by omega), kne _ _ (by omega), keq _ _ rfl, Int.le_refl _, Int.le_refl _, by simp [Ln.keep], by simp [Ln.keep], fun _ => ⟨by simp only [Ln.keep]; omega, Int.le_refl _⟩, hs, hs, by simp, by simp⟩)))))
    | false => exact Or.inr (Or.inr (Or.inr (Or.inr (Or.inr (Or.inr ⟨hsb, kne _ _ (by omega), kne _ _ (by omega), kne _ _ (by omega), kne _ _ (by omega), keq _ _ rfl, Int.le_refl _, Int.le_refl _, by simp [Ln.keep], by simp [Ln.keep], fun _ => ⟨by simp only [Ln.keep]; omega, Int.le_refl _⟩, hs, hs, by simp, by simp⟩)))))
  | propose h hok ht1 =>
    have hk := ok_iff.1 hok
    refine Or.inr (Or.inr (Or.inl ⟨nsame (Or.inr (by simp only [Ln.keep]; omega)), kne _ _ (by omega), keq _ _ h, kne _ _ (by omega), kne _ _ (by omega), keq _ _ rfl, Int.le_refl _, by simp only [Ln.keep]; omega, by simp [Ln.keep], decide_eq_true (by simp only [Ln.keep]; omega), fun _ => ⟨Int.le_refl _, Int.le_refl _⟩, hs, hs, by simp; omega, fun _ => ⟨by omega, by omega, rfl⟩⟩))
  | answered h hok x hx hx1 hb hc hst hl2 =>
    have h9 := aft_less hl2
    refine Or.inr (Or.inr (Or.inr (Or.inl ⟨nsame (Or.inl (by simp only [Ln.keep]; omega)), kne _ _ (by omega), kne _ _ (by omega), keq _ _ h, kne _ _ (by omega), kne _ _ (by simp only [Ln.keep]; omega), by simp only [Ln.keep]; omega, Int.le_refl _, decide_eq_true (by simp only [Ln.keep]; omega), by simp [Ln.keep], by simp, h9.2, h9.1, by simp, by simp⟩)))
  | opened h hok x hx hx1 hb hc =>
    refine Or.inr (Or.inr (Or.inr (Or.inr (Or.inl ⟨nsame (Or.inl (by simp only [Ln.keep]; omega)), kne _ _ (by omega), kne _ _ (by omega), kne _ _ (by omega), keq _ _ h, kne _ _ (by simp only [Ln.keep]; omega), by simp only [Ln.keep]; omega, Int.le_refl _, decide_eq_true (by simp only [Ln.keep]; omega), by simp [Ln.keep], by simp, hs, hs, by simp, by simp⟩))))
  | raise h hok x hx hx1 hb =>
    have hg := upF_gt x o.b hb hx1
    cases hsb : sameL (M.keep M.cur M.next M.send (upF x o.b) M.sec M.nano) M with
    | true => exact Or.inr (Or.inr (Or.inr (Or.inr (Or.inr (Or.inl ⟨hsb, kne _ _ (by omega), kne _ _ (by omega), kne _ _ (by omega), kne _ _ (by omega), keq _ _ rfl, Int.le_refl _, Int.le_refl _, by simp [Ln.keep], by simp [Ln.keep], fun _ => ⟨Int.le_refl _, by simp only [Ln.keep]; omega⟩, hs, hs, by simp, by simp⟩)))))
    | false => exact Or.inr (Or.inr (Or.inr (Or.inr (Or.inr (Or.inr ⟨hsb, kne _ _ (by omega), kne _ _ (by omega), kne _ _ (by omega), kne _ _ (by omega), keq _ _ rfl, Int.le_refl _, Int.le_refl _, by simp [Ln.keep], by simp [Ln.keep], fun _ => ⟨Int.le_refl _, by simp only [Ln.keep]; omega⟩, hs, hs, by simp, by simp⟩)))))
end Go.Proofs.Ytihndipgdogebaa
