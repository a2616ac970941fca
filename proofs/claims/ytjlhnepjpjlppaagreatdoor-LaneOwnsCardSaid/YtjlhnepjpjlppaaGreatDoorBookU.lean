/- A Book in use, beside other things of a bag. -/
import Derived.Test.YtjlhnepjpjlppaaGreatDoorBookM
namespace Go.Proofs.YtjlhnepjpjlppaaGreatDoor
open Go.RowKit
theorem bookIts_app (p : Nat) (base : Int) (vB vW : Value) (es : List Ent) (cs : List Cop) (rest : List It) : bookIts p base vB vW es cs rest = bookIts p base vB vW es cs [] ++ rest := by simp [bookIts]
theorem Booked.bag {w W : World} {p n : Nat} {rest : List It} (h : Booked w W p n rest) : Bag w W rest := by
  obtain ⟨vB, vW, es, cs, h1, h2, h3, h4⟩ := h
  rw [bookIts_app] at h4
  exact h4.right
theorem Booked.call {w W W' : World} {p n : Nat} {rest : List It} (h : Booked w W p n rest) (hb : Below W.heap.size W W') : Booked w W' p n rest := by
  obtain ⟨vB, vW, es, cs, h1, h2, h3, h4⟩ := h
  exact ⟨vB, vW, es, cs, h1, h2, h3, h4.call hb⟩
theorem Booked.perm {w W : World} {p n : Nat} {rest rest' : List It} (h : Booked w W p n rest) (hp : rest.Perm rest') : Booked w W p n rest' := by
  obtain ⟨vB, vW, es, cs, h1, h2, h3, h4⟩ := h
  rw [bookIts_app] at h4
  refine ⟨vB, vW, es, cs, h1, h2, h3, ?_⟩
  rw [bookIts_app]
  exact h4.perm (hp.append_left _)
theorem Booked.tail {w W : World} {p n : Nat} {x : It} {rest : List It} (h : Booked w W p n (x :: rest)) : Booked w W p n rest := by
  obtain ⟨vB, vW, es, cs, h1, h2, h3, h4⟩ := h
  rw [bookIts_app] at h4
  refine ⟨vB, vW, es, cs, h1, h2, h3, ?_⟩
  rw [bookIts_app]
  have h5 := (h4.perm List.perm_middle).erase 0
  simpa using h5
theorem Booked.le {w W : World} {p n m : Nat} {rest : List It} (h : Booked w W p n rest) (hn : n ≤ m) : Booked w W p m rest := by
  obtain ⟨vB, vW, es, cs, h1, h2, h3, h4⟩ := h
  exact ⟨vB, vW, es, cs, h1, h2, by omega, h4⟩
theorem Booked.front {w W W' : World} {p n : Nat} {x : It} {rest : List It} (h : Booked w W p n rest) (f : ∀ l, Bag w W l → Bag w W' (x :: l)) : Booked w W' p n (x :: rest) := by
  obtain ⟨vB, vW, es, cs, h1, h2, h3, h4⟩ := h
  refine ⟨vB, vW, es, cs, h1, h2, h3, ?_⟩
  have h5 := f _ h4
  rw [bookIts_app] at h5 ⊢
  exact h5.perm List.perm_middle.symm
theorem Booked.mine {w W W' : World} {p n : Nat} {rest : List It} (h : Booked w W p n rest) (hb : Below W.heap.size W W') {e : TypeId} {ao : Option Addr} {cap : Nat} {m : List (BitVec 8)} (hm : Mine W' W.heap.size e ao cap m) : Booked w W' p n (.mine e ao cap m :: rest) := h.front fun _ hl => hl.mine hb hm
theorem Booked.alloc {w W : World} {p n : Nat} {rest : List It} (h : Booked w W p n rest) (cs : Array Value) (t : TypeId) : Booked w (W.alloc (.cells cs t (0, 0))) p n (.box W.heap.size cs t :: rest) := h.front fun _ hl => hl.alloc cs t
theorem Booked.below {w W : World} {p n : Nat} {rest : List It} (h : Booked w W p n rest) : Below w.heap.size w W := h.bag.below
/-- A Book as it is made. -/
theorem Bag.booked {w W : World} {p : Nat} {l : List It} (h : Bag w W (.box p (bookCells 0 0 (.slice none 0 0) (.slice none 0 0) (.slice none 0 0)) 50 :: l)) : Booked w W p 0 l := by
  refine ⟨.slice none 0 0, .slice none 0 0, [], [], by simp, rfl, Nat.le_refl _, ?_⟩
  have h1 := (h.nil 22 1).nil 22 1
  refine h1.perm ?_
  unfold bookIts It.bk It.ls
  simp only [List.map_nil, List.nil_append, List.length_nil]
  exact ((List.Perm.swap _ _ _).cons _).trans (List.Perm.swap _ _ _)
end Go.Proofs.YtjlhnepjpjlppaaGreatDoor
