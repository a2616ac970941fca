/- append of one element onto a list of a bag. No program in sight. -/
import Derived.Test.YthaiibfnjgfgjaaDoorBag
import Derived.Deep.AppendLies
namespace Go.Proofs.YthaiibfnjgfgjaaDoor
open Go.RowKit
theorem It.lst_of {W : World} {base e size n : Nat} {v : Value} {xs : List Value} (h : W.ownsRow base e size v n xs) : (It.lst e size v n xs).holds W := by
  obtain ⟨h1, h2⟩ := h
  refine ⟨h1, ?_⟩
  rcases h2 with h2 | ⟨g, cap, cur, rfl, hg, h3⟩
  · exact Or.inl h2
  · exact Or.inr ⟨g, cap, cur, rfl, Nat.zero_le _, h3⟩
theorem Bag.lst {w W : World} {l : List It} (h : Bag w W l) (k : Nat) {e size n : Nat} {v : Value} {xs : List Value} (hk : l[k]? = some (.lst e size v n xs)) : W.ownsRow 0 e size v n xs := h.holds k _ hk
/-- A nil list stands in any bag. -/
theorem Bag.nil {w W : World} {l : List It} (h : Bag w W l) (e size : Nat) : Bag w W (.lst e size (.slice none 0 0) 0 [] :: l) :=
  h.cons (Below.refl _ W) ⟨by simp, Or.inl ⟨rfl, rfl⟩⟩ (by rintro k ⟨_, _, h⟩; cases h)
theorem Bag.append {P : Program} {w W : World} {l : List It} {ops : Array Oper} {rest : List Oper} {o : Oper} {a : Act} {Q : Exit → Act → World → Prop} (hgd : o.guard = none) (s x : Operand) (t : TypeId)
    (ho : o.op = .call { callee := .builtin .append, args := #[s, x], argTypes := #[t, t] })
    (e : TypeId) (i : TypeInfo) (z : Value) (bytes : Nat) (ht : P.underlying t = some (.slice e)) (hi : P.info? e = some i) (hz : i.zero = some z) (hsize : i.size = 1) (hby : i.bytes = bytes) (hzs : z.cells.size = 1)
    (k : Nat) (v : Value) (n : Nat) (xs : List Value) (hB : Bag w W l) (hk : l[k]? = some (.lst e 1 v n xs)) (hs : a.eval s = v)
    (ad : Addr) (hx : a.eval x = .slice (some ad) 1 1) (u : Value) (hu : W.cell? ad = some u) (h1 : u.oneCell' = true) (hn : n + 1 ≤ maxLen) (hbytes : (n + 1) * bytes ≤ 140737488355328)
    (h : ∀ g cap W', Bag w W' (l.set k (.lst e 1 (.slice (some ⟨g, 0, none⟩) (n + 1) cap) (n + 1) (xs ++ [u]))) → W.heap.size ≤ W'.heap.size → wpList P ops Q rest (a.put o.dst (.slice (some ⟨g, 0, none⟩) (n + 1) cap)) W') :
    wpList P ops Q (o :: rest) a W := by
  have hown := hB.lst k hk
  refine wpList_append_lies (P := P) W hgd s x t ho 0 e i z 1 bytes ht hi hz hsize hby hzs (by decide) v n xs hs hown ad 1 1 [u] hx rfl ?_ ?_ (by decide) hn hbytes (Nat.zero_le _) _ rfl ?_
  · intro j y hj
    match j with
    | 0 =>
      simp at hj; subst hj
      rw [← hu]
      obtain ⟨b, o, sp⟩ := ad
      rfl
    | j + 1 => simp at hj
  · intro y hy
    simp at hy; subst hy; exact h1
  · intro g cap W' h2 h3 h4 h5
    refine h g cap W' (hB.turn k hk (S := fun b => v.ownBlock = some b) ⟨h3.os, h3.tape, h3.output, h3.size, fun b hb hne => h3.block b hb fun e => hne e.symm⟩ ?_ (It.lst_of h2) ?_) h3.size
    · intro b hb
      rcases hown.2 with ⟨rfl, _⟩ | ⟨g', cap', cur, rfl, _⟩
      · cases hb
      · simp only [Value.ownBlock, Option.some.injEq] at hb
        subst hb
        exact ⟨_, _, rfl⟩
    · rintro b ⟨n', cap', hb⟩
      simp only [Value.slice.injEq, Option.some.injEq, Addr.mk.injEq] at hb
      obtain ⟨⟨rfl, _⟩, _⟩ := hb
      rcases h4 with h4 | h4
      · left
        rcases hown.2 with ⟨rfl, _⟩ | ⟨g', cap', cur, rfl, _⟩
        · cases h4
        · simp only [Value.ownBlock, Option.some.injEq] at h4
          subst h4
          exact ⟨_, _, rfl⟩
      · right; omega
/-- An element of a list. -/
theorem Bag.elem {w W : World} {l : List It} (h : Bag w W l) (k : Nat) {e n : Nat} {v : Value} {xs : List Value} (hk : l[k]? = some (.lst e 1 v n xs)) (j : Nat) (hj : j < n) :
    ∃ g cap, v = .slice (some ⟨g, 0, none⟩) n cap ∧ W.cell? ⟨g, j, none⟩ = xs[j]? ∧ W.frozen? ⟨g, j, none⟩ = false := by
  obtain ⟨h1, h2⟩ := h.lst k hk
  rcases h2 with ⟨_, h0⟩ | ⟨g, cap, cur, rfl, _, hh, hc, _, hs, ht⟩
  · omega
  · refine ⟨g, cap, rfl, ?_, frozen_of_row W g j cur e hh⟩
    rw [cell_of_row W g j cur e (0, 0) hh, ← ht]
    simp only [Nat.mul_one]
    rw [List.getElem?_take_of_lt hj, Array.getElem?_toList]
theorem Bag.lstLen {w W : World} {l : List It} (h : Bag w W l) (k : Nat) {e n : Nat} {v : Value} {xs : List Value} (hk : l[k]? = some (.lst e 1 v n xs)) : xs.length = n := by
  have := (h.lst k hk).1
  omega
theorem Bag.lstForm {w W : World} {l : List It} (h : Bag w W l) (k : Nat) {e n : Nat} {v : Value} {xs : List Value} (hk : l[k]? = some (.lst e 1 v n xs)) : ∃ ao cap, v = .slice ao n cap ∧ n ≤ cap := by
  rcases (h.lst k hk).2 with ⟨rfl, rfl⟩ | ⟨g, cap, cur, rfl, _, _, hc, _⟩
  · exact ⟨none, 0, rfl, Nat.le_refl _⟩
  · exact ⟨_, cap, rfl, hc⟩
end Go.Proofs.YthaiibfnjgfgjaaDoor
