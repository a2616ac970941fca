/- A lane in a box that a loop turns, the key's bytes in the bag beside it. -/
import Derived.Test.YtihndipgdogebaaLaneLoop
import Derived.Test.YtihndipgdogebaaBagApp
namespace Go.Proofs.Ytihndipgdogebaa
open Go.RowKit
/-- Bytes that are read, in a block that nothing else of the bag takes. -/
def It.key (ao : Option Addr) (l : List (BitVec 8)) : It where
  ats k := ∃ a, ao = some a ∧ a.block = k
  holds W := Rd W ao l ∧ ∀ a, ao = some a → a.block < W.heap.size
  lt := by
    rintro W k ⟨_, h⟩ ⟨a, ha, rfl⟩
    exact h a ha
  keep := by
    rintro W W' ⟨h, hl⟩ hk
    have lt' : ∀ b, b < W.heap.size → W'.heap[b]? = W.heap[b]? → b < W'.heap.size := by
      intro b hb he
      rw [Array.getElem?_eq_getElem hb] at he
      exact (Array.getElem?_eq_some_iff.1 he).1
    refine ⟨?_, fun a ha => lt' a.block (hl a ha) (hk _ ⟨a, ha, rfl⟩)⟩
    rcases h with rfl | ⟨b, o, rfl, hc⟩
    · exact Rd.nil _ _
    · refine Or.inr ⟨b, o, rfl, fun i hi => ?_⟩
      have h2 := hk b ⟨_, rfl, rfl⟩
      rw [← hc i hi]
      simp only [World.cell?, h2]
namespace Bag
variable {w W W' : World} {l : List It}
theorem keyRd (h : Bag w W l) (i : Nat) {ao : Option Addr} {m : List (BitVec 8)} (hi : l[i]? = some (.key ao m)) : Rd W ao m := (h.holds i _ hi).1
theorem keyLt (h : Bag w W l) (i : Nat) {ao : Option Addr} {m : List (BitVec 8)} (hi : l[i]? = some (.key ao m)) : ∀ a, ao = some a → a.block < W.heap.size := (h.holds i _ hi).2
theorem add (h : Bag w W l) {x : It} (hx : x.holds W) (hn : ∀ k, x.ats k → w.heap.size ≤ k) (ho : ∀ (j : Nat) (y : It), l[j]? = some y → x.off y) : Bag w W (x :: l) := by
  refine ⟨h.below, ?_, ?_, ?_⟩
  · rintro (_ | i) y hy
    · simp at hy; subst hy; exact hx
    · exact h.holds i y (by simpa using hy)
  · rintro (_ | i) y k hy hk
    · simp at hy; subst hy; exact hn k hk
    · exact h.new i y k (by simpa using hy) hk
  · rintro (_ | i) (_ | j) y z hy hz hij
    · exact absurd rfl hij
    · simp at hy; subst hy
      exact ho j z (by simpa using hz)
    · simp at hz; subst hz
      exact It.off_symm (ho i y (by simpa using hy))
    · exact h.off i j y z (by simpa using hy) (by simpa using hz) (by omega)
theorem swap {x y : It} (h : Bag w W (x :: y :: l)) : Bag w W (y :: x :: l) := by
  refine h.sub (fun i => match i with | 0 => 1 | 1 => 0 | i + 2 => i + 2) ?_ ?_
  · rintro (_ | _ | i) z hz
    · simpa using hz
    · simpa using hz
    · simpa using hz
  · rintro (_ | _ | i) (_ | _ | j) _ _ h <;> first | rfl | (simp at h; try omega)
/-- The answer of a call by number joins the bag, the key of the lane behind it in the place of the key ahead. -/
theorem step {b : Nat} {cs : Array Value} {t : TypeId} {ar : Option Addr} {k1 : List (BitVec 8)} {wr wc : World} {Z : Ln} {p : Value} (h : Bag w wr (.box b cs t :: .key ar k1 :: l)) (hs : StepBox wr ar Z p wc) :
    ∃ g ar2 cr2, p = .pointer (some ⟨g, 0, none⟩) ∧ Bag w wc (.box g (Z.cells ar2 cr2) 27 :: .key ar2 Z.key :: .box b cs t :: l) := by
  obtain ⟨g, ar2, cr2, rfl, hg, hx, hrd, hat, hb⟩ := hs
  have hsz := h.size
  have h' := h.call hb
  refine ⟨g, ar2, cr2, rfl, ?_⟩
  have hkey : (It.key ar2 Z.key).holds wc := ⟨hrd, fun a ha => (hat a ha).2.1⟩
  have hold : ∀ (j : Nat) (y : It), (It.box b cs t :: It.key ar k1 :: l)[j]? = some y → ∀ k, y.ats k → k < wr.heap.size := fun j y hy k hk => h.lt j hy k hk
  have hk2 : Bag w wc (.key ar2 Z.key :: .box b cs t :: l) := by
    by_cases hc : ∃ a, ar2 = some a ∧ some a = ar
    · obtain ⟨a, ha, ha2⟩ := hc
      have e : ar2 = ar := ha.trans ha2
      have h2 := h'.turn (W' := wc) 1 (x := .key ar k1) rfl (S := fun _ => False) (Only.refl _ _) (fun _ h => h.elim) (y := .key ar2 Z.key) hkey (fun k ⟨a, ha, hk⟩ => Or.inl ⟨a, by rw [← e]; exact ha, hk⟩)
      simp only [List.set_cons_succ, List.set_cons_zero] at h2
      exact h2.swap
    · have h2 := h'.erase 1
      simp only [List.eraseIdx_cons_succ, List.eraseIdx_cons_zero] at h2
      have fresh : ∀ k, (It.key ar2 Z.key).ats k → wr.heap.size ≤ k := by
        rintro k ⟨a, ha, rfl⟩
        rcases (hat a ha).1 with h1 | h1
        · exact absurd ⟨a, ha, h1⟩ hc
        · exact h1
      refine h2.add hkey (fun k hk => Nat.le_trans hsz (fresh k hk)) ?_
      intro j y hy k hk1 hk2
      have := fresh k hk1
      have hlt : k < wr.heap.size := by
        match j, hy with
        | 0, hy => exact hold 0 y (by simpa using hy) k hk2
        | j + 1, hy => exact hold (j + 2) y (by simpa using hy) k hk2
      omega
  refine hk2.add hx (fun k hk => by rw [show k = g from hk]; omega) ?_
  intro j y hy k hk1 hk2'
  obtain rfl : k = g := hk1
  match j, hy with
  | 0, hy =>
    simp at hy; subst hy
    obtain ⟨a, ha, hk⟩ := hk2'
    exact (hat a ha).2.2 hk
  | 1, hy =>
    have := hold 0 y (by simpa using hy) k hk2'; omega
  | j + 2, hy =>
    have := hold (j + 2) y (by simpa using hy) k hk2'; omega
end Bag
end Go.Proofs.Ytihndipgdogebaa
