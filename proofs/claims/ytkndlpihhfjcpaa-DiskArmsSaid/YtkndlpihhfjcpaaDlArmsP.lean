/- What stands for a number among faults that may be armed; a flush where nothing pends. No program in sight. -/
import Derived.Test.YtkndlpihhfjcpaaDkArm
namespace Go.Proofs.Ytkndlpihhfjcpaa
open Go.RowKit
def valK (k : Int) : Int := if k = 1 then 104 else if k = 2 then 103 else 0
theorem kindAt_some {l : List (Int × Int)} (hok : Dk.armOk l = true) {j : Nat} {f : Int × Int} {i : Int} (hj : l[j]? = some f) (hf : f.1 = i) : Dk.kindAt l i = f.2 := by
  unfold Dk.kindAt
  cases h : l.find? (fun g => g.1 == i) with
  | none =>
    have := List.find?_eq_none.1 h f (List.mem_of_getElem? hj)
    simp [hf] at this
  | some g =>
    have h1 := List.find?_some h
    simp only [beq_iff_eq] at h1
    obtain ⟨j', hj'⟩ := List.mem_iff_getElem?.1 (List.mem_of_find?_eq_some h)
    rw [armOk_def, List.all_eq_true] at hok
    obtain ⟨f1, f2⟩ := f
    obtain ⟨g1, g2⟩ := g
    simp only at hf h1
    subst hf
    subst h1
    rcases Nat.lt_trichotomy j j' with hlt | rfl | hlt
    · have h2 := hok j' (List.mem_range.2 (List.getElem?_eq_some_iff.1 hj').1)
      rw [armGood_twice hj' hj hlt] at h2
      cases h2
    · rw [hj] at hj'
      cases hj'
      rfl
    · have h2 := hok j (List.mem_range.2 (List.getElem?_eq_some_iff.1 hj).1)
      rw [armGood_twice hj hj' hlt] at h2
      cases h2
theorem kindAt_none {l : List (Int × Int)} {i : Int} (h : ∀ (j : Nat) (f : Int × Int), l[j]? = some f → f.1 ≠ i) : Dk.kindAt l i = 0 := by
  unfold Dk.kindAt
  have : l.find? (fun g => g.1 == i) = none := by
    rw [List.find?_eq_none]
    intro f hf
    obtain ⟨j, hj⟩ := List.mem_iff_getElem?.1 hf
    have := h j f hj
    simpa using this
  rw [this]
/-- What the law reckons with: of the first q faults. -/
def WantQ (l : List (Int × Int)) (i : Int) (q : Nat) (x : Int) : Prop := (∃ (j : Nat) (f : Int × Int), j < q ∧ l[j]? = some f ∧ f.1 = i ∧ x = valK f.2) ∨ ((∀ (j : Nat) (f : Int × Int), j < q → l[j]? = some f → f.1 ≠ i) ∧ x = 0)
theorem wantQ_zero (l : List (Int × Int)) (i : Int) : WantQ l i 0 0 := Or.inr ⟨fun j _f h => absurd h (Nat.not_lt_zero j), rfl⟩
theorem wantQ_hit {l : List (Int × Int)} {i : Int} {q : Nat} {f : Int × Int} (h : l[q]? = some f) (hf : f.1 = i) : WantQ l i (q + 1) (valK f.2) := Or.inl ⟨q, f, Nat.lt_succ_self q, h, hf, rfl⟩
theorem wantQ_miss {l : List (Int × Int)} {i x : Int} {q : Nat} {f : Int × Int} (hw : WantQ l i q x) (h : l[q]? = some f) (hf : ¬ f.1 = i) : WantQ l i (q + 1) x := by
  rcases hw with ⟨j, g, h1, h2, h3, h4⟩ | ⟨h1, h2⟩
  · exact Or.inl ⟨j, g, by omega, h2, h3, h4⟩
  · refine Or.inr ⟨fun j g hj hg => ?_, h2⟩
    by_cases hjq : j = q
    · subst hjq
      rw [h] at hg
      cases hg
      exact hf
    · exact h1 j g (by omega) hg
theorem wantQ_all {l : List (Int × Int)} {i x : Int} {n : Nat} (hn : l.length = n) (hok : Dk.armOk l = true) (h : WantQ l i n x) : x = valK (Dk.kindAt l i) := by
  rcases h with ⟨j, f, _, h2, h3, h4⟩ | ⟨h1, h2⟩
  · rw [kindAt_some hok h2 h3]; exact h4
  · rw [kindAt_none (fun j f hj => h1 j f (by have := (List.getElem?_eq_some_iff.1 hj).1; omega) hj)]
    exact h2
/-- A device on which nothing pends, so armed. -/
structure Arms (D : Dk) (l : List (Int × Int)) (on : Bool) (done : Nat) : Prop where
  ps : D.ps = []
  fs : D.fs = l
  off : D.off = !on
  done : D.done = done
theorem arms_e {D : Dk} {l : List (Int × Int)} {on : Bool} {n : Nat} (h : Arms D l on n) : D.opE = if on then valK (Dk.kindAt l ((n + 1 : Nat) : Int)) else 104 := by
  unfold Dk.opE
  rw [h.off, h.fs, h.done]
  cases on <;> simp [valK]
theorem arms_flush {D : Dk} {l : List (Int × Int)} {on : Bool} {n : Nat} (h : Arms D l on n) : Arms D.flushD l (on && decide (¬ Dk.kindAt l ((n + 1 : Nat) : Int) = 1)) (if on then n + 1 else n) := by
  have hps : D.flushD.ps = [] := by
    unfold Dk.flushD
    split
    · rfl
    · rw [Dk.opD_ps]; exact h.ps
  have hfs : D.flushD.fs = l := by
    unfold Dk.flushD
    split <;> simp only [Dk.opD_fs] <;> exact h.fs
  have ho : D.flushD.off = D.opD.off := by unfold Dk.flushD; split <;> rfl
  have hd : D.flushD.done = D.opD.done := by unfold Dk.flushD; split <;> rfl
  refine ⟨hps, hfs, ?_, ?_⟩
  · rw [ho]
    unfold Dk.opD
    rw [h.off, h.fs, h.done]
    cases on <;> simp [h.off]
  · rw [hd]
    unfold Dk.opD
    rw [h.off]
    cases on <;> simp [h.done]
end Go.Proofs.Ytkndlpihhfjcpaa
