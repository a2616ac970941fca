/- What LaneNever and LaneCeils keep from call to call. No program in sight but the lane's own functions. -/
import Derived.Test.YtihndipgdogebaaLaneProf
namespace Go.Proofs.Ytihndipgdogebaa
open Go.RowKit
/-- The book of LaneNever: what was used. -/
structure NeverInv (M : Ln) (u : Int) (gs cs : List Int) : Prop where
  u0 : 0 ≤ u
  u1 : u ≤ M.send
  len : gs.length = cs.length
  all : ∀ j, j < gs.length → gs.getD j 0 ≤ topG M ∧ (gs.getD j 0 = M.cur → cs.getD j 0 < u) ∧ (M.cur < gs.getD j 0 → cs.getD j 0 = 0)
def Fresh (gs cs : List Int) (g c : Int) : Prop := ∀ j, j < gs.length → ¬ (gs.getD j 0 = g ∧ cs.getD j 0 = c)
theorem getD_app (l : List Int) (x : Int) (j : Nat) (hj : j < (l ++ [x]).length) : (j < l.length ∧ (l ++ [x]).getD j 0 = l.getD j 0) ∨ (j = l.length ∧ (l ++ [x]).getD j 0 = x) := by
  simp only [List.length_append, List.length_cons, List.length_nil] at hj
  by_cases h : j < l.length
  · left; exact ⟨h, by simp [List.getD, List.getElem?_append_left h]⟩
  · right
    obtain rfl : j = l.length := by omega
    exact ⟨rfl, by simp [List.getD]⟩
theorem NeverInv.more {M Z : Ln} {u v : Int} {gs cs : List Int} {g c : Int} (h : NeverInv M u gs cs) (v0 : 0 ≤ v) (v1 : v ≤ Z.send)
    (hold : ∀ x y, x ≤ topG M → (x = M.cur → y < u) → (M.cur < x → y = 0) → x ≤ topG Z ∧ (x = Z.cur → y < v) ∧ (Z.cur < x → y = 0))
    (hnew : g ≤ topG Z ∧ (g = Z.cur → c < v) ∧ (Z.cur < g → c = 0)) : NeverInv Z v (gs ++ [g]) (cs ++ [c]) := by
  refine ⟨v0, v1, by simp [h.len], fun j hj => ?_⟩
  have hl := h.len
  rcases getD_app gs g j hj with ⟨h1, h2⟩ | ⟨h1, h2⟩
  · rcases getD_app cs c j (by simp at hj ⊢; omega) with ⟨h3, h4⟩ | ⟨h3, h4⟩
    · rw [h2, h4]
      obtain ⟨a1, a2, a3⟩ := h.all j h1
      exact hold _ _ a1 a2 a3
    · omega
  · rcases getD_app cs c j (by simp at hj ⊢; omega) with ⟨h3, h4⟩ | ⟨h3, h4⟩
    · omega
    · rw [h2, h4]; exact hnew
theorem NeverInv.same {M Z : Ln} {u v : Int} {gs cs : List Int} (h : NeverInv M u gs cs) (v0 : 0 ≤ v) (v1 : v ≤ Z.send)
    (hold : ∀ x y, x ≤ topG M → (x = M.cur → y < u) → (M.cur < x → y = 0) → x ≤ topG Z ∧ (x = Z.cur → y < v) ∧ (Z.cur < x → y = 0)) : NeverInv Z v gs cs :=
  ⟨v0, v1, h.len, fun j hj => by obtain ⟨a1, a2, a3⟩ := h.all j hj; exact hold _ _ a1 a2 a3⟩
/-- A counter of the generation in hand is used. -/
theorem NeverInv.use {M : Ln} {u : Int} {gs cs : List Int} (h : NeverInv M u gs cs) (hu : u < M.send) : Fresh gs cs M.cur u ∧ NeverInv M (u + 1) (gs ++ [M.cur]) (cs ++ [u]) := by
  refine ⟨fun j hj ⟨e1, e2⟩ => ?_, h.more (by have := h.u0; omega) (by omega) (fun x y h1 h2 h3 => ⟨h1, fun e => by have := h2 e; omega, h3⟩) ⟨(topG_bd M).1, fun _ => by omega, fun h => by omega⟩⟩
  have := (h.all j hj).2.1 e1
  omega
theorem NeverInv.send {M : Ln} {u : Int} {gs cs : List Int} (h : NeverInv M u gs cs) : NeverInv M M.send gs cs :=
  h.same (by have := h.u0; have := h.u1; omega) (Int.le_refl _) fun x y h1 h2 h3 => ⟨h1, fun e => by have := h2 e; have := h.u1; omega, h3⟩
/-- What a call does to the book. -/
inductive NevCase (M Z : Ln) (kd gv av u : Int) (gs cs : List Int) : Prop
  | quiet (gp : decide (0 ≤ gv) = false) (ne : (Z.cur != M.cur) = false) (inv : NeverInv Z u gs cs)
  | propose (gp : decide (0 ≤ gv) = true) (ne : (Z.cur != M.cur) = false) (fr : Fresh gs cs gv 0) (inv : NeverInv Z u (gs ++ [gv]) (cs ++ [0]))
  | again (gp : decide (0 ≤ gv) = false) (ne : (Z.cur != M.cur) = true) (k4 : (kd == 4) = false) (k5 : (kd == 5) = false) (inv : NeverInv Z 0 gs cs)
  | answered (gp : decide (0 ≤ gv) = false) (ne : (Z.cur != M.cur) = true) (k4 : (kd == 4) = true) (k5 : (kd == 5) = false) (a0 : 0 ≤ av) (a1 : av ≤ 1) (lt : av < Z.send) (fr : Fresh gs cs Z.cur av) (inv : NeverInv Z (av + 1) (gs ++ [Z.cur]) (cs ++ [av]))
  | opened (gp : decide (0 ≤ gv) = false) (ne : (Z.cur != M.cur) = true) (k4 : (kd == 4) = false) (k5 : (kd == 5) = true) (inv : NeverInv Z 1 gs cs)
theorem bneq (a b : Int) (h : a = b) : (a != b) = false := by simp [h]
theorem bnne (a b : Int) (h : a ≠ b) : (a != b) = true := by simp [h]
theorem topG_eq (L : Ln) : topG L = if L.cur < L.next then L.next else L.cur := rfl
theorem Turn.nev {M Z : Ln} {o : Ask} {gv av u : Int} {gs cs : List Int} (h : Turn M o Z gv av) (hi : NeverInv M u gs cs) : NevCase M Z o.kind gv av u gs cs := by
  have ht := topG_bd M
  have u0 := hi.u0
  have u1 := hi.u1
  cases h with
  | stay => exact .quiet (by simp) (bneq _ _ rfl) hi
  | again h hok ht1 =>
    refine .again (by simp) (bnne _ _ (by simp only [Ln.keep]; omega)) (kne _ _ (by omega)) (kne _ _ (by omega)) (hi.same (Int.le_refl _) (Int.le_refl _) fun x y h1 h2 h3 => ?_)
    have hz := topG_bd (M.keep (topG M + 1) M.next 0 0 M.sec M.nano)
    simp only [Ln.keep] at hz ⊢
    exact ⟨by omega, fun e => by omega, fun e => by omega⟩
  | reserve h hok x hx hx1 hb =>
    have hg := upF_gt x o.b hb hx1
    exact .quiet (by simp) (bneq _ _ rfl) (hi.same u0 (by simp only [Ln.keep]; omega) fun x y h1 h2 h3 => ⟨h1, h2, h3⟩)
  | propose h hok ht1 =>
    have hk := ok_iff.1 hok
    refine .propose (decide_eq_true (by omega)) (bneq _ _ rfl) (fun j hj ⟨e1, _⟩ => ?_) (hi.more u0 u1 (fun x y h1 h2 h3 => ?_) ?_)
    · have := (hi.all j hj).1; omega
    · have hz := topG_bd (M.keep M.cur (topG M + 1) M.send M.ceil M.sec M.nano)
      simp only [Ln.keep] at hz ⊢
      exact ⟨by omega, h2, h3⟩
    · have hz := topG_bd (M.keep M.cur (topG M + 1) M.send M.ceil M.sec M.nano)
      simp only [Ln.keep] at hz ⊢
      exact ⟨by omega, fun e => by omega, fun _ => trivial⟩
  | answered h hok x hx hx1 hb hc hst hl2 =>
    have hlt := upF_gt (if x ≤ M.next then 1 else 0) o.b hb (by split <;> omega)
    have hz := topG_bd (M.keep x M.next (upF (if x ≤ M.next then 1 else 0) o.b) (upF o.c o.b) o.ss o.sn)
    simp only [Ln.keep] at hz
    refine .answered (by simp) (bnne _ _ (by simp only [Ln.keep]; omega)) (keq _ _ h) (kne _ _ (by omega)) (by split <;> omega) (by split <;> omega) hlt (fun j hj ⟨e1, e2⟩ => ?_) (hi.more (by split <;> omega) (by simp only [Ln.keep]; omega) (fun y z h1 h2 h3 => ?_) ?_)
    · obtain ⟨a1, a2, a3⟩ := hi.all j hj
      simp only [Ln.keep] at e1
      have := a3 (by omega)
      by_cases hn : x ≤ M.next
      · rw [if_pos hn] at e2; omega
      · omega
    · simp only [Ln.keep]
      refine ⟨by omega, fun e => ?_, fun e => h3 (by omega)⟩
      have := h3 (by omega)
      by_cases hn : x ≤ M.next
      · rw [if_pos hn]; omega
      · omega
    · simp only [Ln.keep]
      exact ⟨by omega, fun _ => by omega, fun e => by omega⟩
  | opened h hok x hx hx1 hb hc =>
    have hlt := upF_gt 1 o.b hb (by omega)
    have hz := topG_bd (M.keep x M.next (upF 1 o.b) (upF o.c o.b) M.sec M.nano)
    simp only [Ln.keep] at hz
    refine .opened (by simp) (bnne _ _ (by simp only [Ln.keep]; omega)) (kne _ _ (by omega)) (keq _ _ h) (hi.same (by omega) (by simp only [Ln.keep]; omega) fun y z h1 h2 h3 => ?_)
    simp only [Ln.keep]
    exact ⟨by omega, fun e => by have := h3 (by omega); omega, fun e => h3 (by omega)⟩
  | raise h hok x hx hx1 hb =>
    exact .quiet (by simp) (bneq _ _ rfl) (hi.same u0 u1 fun x y h1 h2 h3 => ⟨h1, h2, h3⟩)
/-- What was accepted lies below the ceiling. -/
def CeilInv (M : Ln) (xs : List Int) : Prop := ∀ x ∈ xs, 0 ≤ x ∧ x < M.ceil
inductive CeilCase (M Z : Ln) (kd : Int) (c : Int) (xs : List Int) : Prop
  | same (ne : (Z.cur != M.cur) = false) (inv : CeilInv Z xs)
  | none (ne : (Z.cur != M.cur) = true) (k1 : (kd != 1) = false) (inv : CeilInv Z [])
  | one (ne : (Z.cur != M.cur) = true) (k1 : (kd != 1) = true) (inv : CeilInv Z [c])
theorem CeilInv.mono {M Z : Ln} {xs : List Int} (h : CeilInv M xs) (hz : M.ceil ≤ Z.ceil) : CeilInv Z xs := fun x hx => by have := h x hx; omega
theorem CeilInv.app {M : Ln} {xs : List Int} {c : Int} (h : CeilInv M xs) (h0 : 0 ≤ c) (h1 : c < M.ceil) : CeilInv M (xs ++ [c]) := by
  intro x hx
  rcases List.mem_append.1 hx with hx | hx
  · exact h x hx
  · simp at hx; subst hx; exact ⟨h0, h1⟩
theorem Turn.ceil {M Z : Ln} {o : Ask} {gv av : Int} {xs : List Int} (h : Turn M o Z gv av) (ho : o.fits) (hi : CeilInv M xs) : CeilCase M Z o.kind o.c xs := by
  have ht := topG_bd M
  have c0 := ho.c0
  cases h with
  | stay => exact .same (bneq _ _ rfl) hi
  | again h hok ht1 => exact .none (bnne _ _ (by simp only [Ln.keep]; omega)) (bneq _ _ h) (fun x hx => by simp at hx)
  | reserve h hok x hx hx1 hb => exact .same (bneq _ _ rfl) (hi.mono (Int.le_refl _))
  | propose h hok ht1 => exact .same (bneq _ _ rfl) (hi.mono (Int.le_refl _))
  | answered h hok x hx hx1 hb hc hst hl2 =>
    have := upF_gt o.c o.b hb hc
    exact .one (bnne _ _ (by simp only [Ln.keep]; omega)) (bnne _ _ (by omega)) (fun x hx => by simp at hx; subst hx; exact ⟨c0, this⟩)
  | opened h hok x hx hx1 hb hc =>
    have := upF_gt o.c o.b hb hc
    exact .one (bnne _ _ (by simp only [Ln.keep]; omega)) (bnne _ _ (by omega)) (fun x hx => by simp at hx; subst hx; exact ⟨c0, this⟩)
  | raise h hok x hx hx1 hb =>
    have := upF_gt x o.b hb hx1
    exact .same (bneq _ _ rfl) (hi.mono (by simp only [Ln.keep]; omega))
end Go.Proofs.Ytihndipgdogebaa
