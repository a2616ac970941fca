/- Small laws on memory: what a store into another block, or a new block, leaves standing. No program in sight. -/
import Derived.Test.YthaiibfnjgfgjaaDoorMem
namespace Go.Proofs.YthaiibfnjgfgjaaDoor
open Go.RowKit
theorem Rd.setCell {w : World} {ao : Option Addr} {l : List (BitVec 8)} (h : Rd w ao l) (g i : Nat) (v : Value) (hne : ∀ a, ao = some a → a.block ≠ g) : Rd (w.setCell ⟨g, i, none⟩ v) ao l :=
  h.only (Only.setCell w g i v) hne
theorem Own.setCell {w : World} {b cap : Nat} {e : TypeId} {l : List (BitVec 8)} (h : Own w b cap e l) (g i : Nat) (v : Value) (hne : b ≠ g) : Own (w.setCell ⟨g, i, none⟩ v) b cap e l :=
  h.only (Only.setCell w g i v) hne
theorem Own.alloc {w : World} {b cap : Nat} {e : TypeId} {l : List (BitVec 8)} (h : Own w b cap e l) (o : Obj) : Own (w.alloc o) b cap e l :=
  h.kept (alloc_old w o b h.lt)
theorem alloc_size (w : World) (o : Obj) : (w.alloc o).heap.size = w.heap.size + 1 := by show (w.heap.push o).size = _; simp
theorem alloc_get (w : World) (o : Obj) (k : Nat) : (w.alloc o).heap[k]? = if k = w.heap.size then some o else w.heap[k]? := by
  show (w.heap.push o)[k]? = _
  rw [Array.getElem?_push]
theorem below_push {w W : World} {o : Obj} (h : Below w.heap.size w W) : Below w.heap.size w (W.alloc o) := h.alloc h.size o
theorem cell_far (w : World) (g i p j : Nat) (v : Value) (h : p ≠ g) : (w.setCell ⟨g, i, none⟩ v).cell? ⟨p, j, none⟩ = w.cell? ⟨p, j, none⟩ := by
  simp only [World.cell?, heap_setCell_other w ⟨g, i, none⟩ p v h]
theorem cell_drew (w : World) (a : Addr) : w.drew.cell? a = w.cell? a := rfl
/-- Bytes of the call's own: nil, or a row of its own from block B on. -/
def Mine (w : World) (B : Nat) (e : TypeId) (ao : Option Addr) (cap : Nat) (l : List (BitVec 8)) : Prop :=
  (l = [] ∧ ao = none ∧ cap = 0) ∨ ∃ g, ao = some ⟨g, 0, none⟩ ∧ B ≤ g ∧ Own w g cap e l
theorem Mine.rd {w : World} {B : Nat} {e : TypeId} {ao : Option Addr} {cap : Nat} {l : List (BitVec 8)} (h : Mine w B e ao cap l) : Rd w ao l := by
  rcases h with ⟨rfl, rfl, rfl⟩ | ⟨g, rfl, _, ho⟩
  · exact Rd.nil _ _
  · exact ho.rd
theorem Mine.le {w : World} {B : Nat} {e : TypeId} {ao : Option Addr} {cap : Nat} {l : List (BitVec 8)} (h : Mine w B e ao cap l) : l.length ≤ cap := by
  rcases h with ⟨rfl, rfl, rfl⟩ | ⟨g, rfl, _, cur, _, rfl, h, _⟩
  · simp
  · exact h
theorem Mine.from {w : World} {B B' : Nat} {e : TypeId} {ao : Option Addr} {cap : Nat} {l : List (BitVec 8)} (h : Mine w B e ao cap l) (hB : B' ≤ B) : Mine w B' e ao cap l := by
  rcases h with h | ⟨g, rfl, hg, ho⟩
  · exact Or.inl h
  · exact Or.inr ⟨g, rfl, by omega, ho⟩
theorem Mine.at {w : World} {B : Nat} {e : TypeId} {ao : Option Addr} {cap : Nat} {l : List (BitVec 8)} (h : Mine w B e ao cap l) : ∀ a, ao = some a → B ≤ a.block := by
  rcases h with ⟨rfl, rfl, rfl⟩ | ⟨g, rfl, hg, ho⟩
  · intro a h; cases h
  · intro a h; cases h; exact hg
theorem Mine.lt {w : World} {B : Nat} {e : TypeId} {ao : Option Addr} {cap : Nat} {l : List (BitVec 8)} (h : Mine w B e ao cap l) : ∀ a, ao = some a → a.block < w.heap.size := by
  rcases h with ⟨rfl, rfl, rfl⟩ | ⟨g, rfl, hg, ho⟩
  · intro a h; cases h
  · intro a h; cases h; exact ho.lt
theorem Mine.only {S : Nat → Prop} {w w' : World} {B : Nat} {e : TypeId} {ao : Option Addr} {cap : Nat} {l : List (BitVec 8)} (h : Mine w B e ao cap l) (hb : Only S w w') (hS : ∀ a, ao = some a → ¬ S a.block) : Mine w' B e ao cap l := by
  rcases h with h | ⟨g, rfl, hg, ho⟩
  · exact Or.inl h
  · exact Or.inr ⟨g, rfl, hg, ho.only hb (hS _ rfl)⟩
theorem Mine.setCell {w : World} {B : Nat} {e : TypeId} {ao : Option Addr} {cap : Nat} {l : List (BitVec 8)} (h : Mine w B e ao cap l) (g i : Nat) (v : Value) (hg : g < B) : Mine (w.setCell ⟨g, i, none⟩ v) B e ao cap l :=
  h.only (Only.setCell w g i v) fun a ha => by have := h.at a ha; omega
theorem Mine.below {w w' : World} {B : Nat} {e : TypeId} {ao : Option Addr} {cap : Nat} {l : List (BitVec 8)} (h : Mine w B e ao cap l) (hb : Below w.heap.size w w') : Mine w' B e ao cap l := by
  rcases h with h | ⟨g, rfl, hg, ho⟩
  · exact Or.inl h
  · exact Or.inr ⟨g, rfl, hg, ho.below hb ho.lt⟩
theorem owns_mine {w : World} {B e : Nat} {v : Value} {l : List (BitVec 8)} (h : w.ownsRow B e 1 v l.length (bts l)) : ∃ ao cap, v = .slice ao l.length cap ∧ Mine w B e ao cap l := by
  obtain ⟨_, h2⟩ := h
  rcases h2 with ⟨rfl, h0⟩ | ⟨g, cap, cur, rfl, hg, hh, hc, hm, hs, ht⟩
  · exact ⟨none, 0, by rw [h0], Or.inl ⟨List.length_eq_zero_iff.1 h0, rfl, rfl⟩⟩
  · exact ⟨_, _, rfl, Or.inr ⟨g, rfl, hg, cur, hh, by simpa using hs, hc, by simpa using ht⟩⟩
/-- What a chain of stores into new blocks leaves standing. -/
theorem Below.set {B : Nat} {w w' : World} (h : Below B w w') (g i : Nat) (v : Value) (hg : B ≤ g) : Below B w (w'.setCell ⟨g, i, none⟩ v) := h.setCell hg v
end Go.Proofs.YthaiibfnjgfgjaaDoor
