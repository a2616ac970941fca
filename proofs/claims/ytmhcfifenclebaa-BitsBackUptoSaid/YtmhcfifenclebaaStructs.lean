/- An argument that is a slice of structs whose fields are one cell each. No program in sight. -/
import Derived.Test.YtmhcfifenclebaaGlue
import Derived.Deep.Fields
namespace Go.Proofs.Ytmhcfifenclebaa
open Go.RowKit Go.ChangeShapes Go.WideShapes Go.ChangeAt
theorem open_structs {H : Type} {enc : TypeId × Value → H} {P : Program} {W : World} {base : Nat} {t e : TypeId} {fs : Array Field} {v : Value} {d : DataW H} {p : List MemPlace}
    (ht : P.underlying t = some (.slice e)) (he : P.underlying e = some (.struct fs)) (hone : ∀ (i : Nat) (f : Field), fs[i]? = some f → f.offset = i ∧ P.cellsOf f.type = 1) (hC : P.cellsOf e = fs.size) (hpos : 0 < fs.size)
    (hval : Value.okWide P W .any base t v) (h : DataW.Trod enc P W 0 (fun _ => true) true t v d p) :
    ∃ (ao : Option Addr) (len cap n : Nat) (V : Nat → Nat → Value) (D : Nat → Nat → DataW H × List MemPlace), v = .slice ao len cap ∧ len ≤ cap ∧ ((d = .nil ∧ len = 0) ∨ ∃ el sp, d = .slice el sp ∧ el.length = len) ∧
      (0 < len → ∃ b o, ao = some ⟨b, o, none⟩ ∧ ∀ i, i < len → ∀ (j : Nat) (f : Field), fs[j]? = some f → W.cell? ⟨b, o + (i * fs.size + j), none⟩ = some (V i j) ∧ DataW.trod enc P W 0 (fun _ => true) true n f.type [V i j] = some (D i j)) := by
  obtain ⟨a0, len, cap, rfl⟩ := okWide_slice ht hval
  obtain ⟨fuel, hf⟩ := h
  rcases Deep.open_slice ht hf with ⟨hcs, hx⟩ | ⟨a, len', cap', m, n, D, Pl, hcs, _, hl, hm, hmm, hx, hel⟩
  · simp [Value.cells] at hcs
    obtain ⟨rfl, rfl, rfl⟩ := hcs
    simp only [Prod.mk.injEq] at hx
    exact ⟨none, 0, 0, 0, fun _ _ => .bool false, fun _ _ => (.nil, []), rfl, Nat.le_refl _, Or.inl ⟨hx.1, rfl⟩, fun h => by omega⟩
  · simp [Value.cells] at hcs
    obtain ⟨rfl, rfl, rfl⟩ := hcs
    simp only [Prod.mk.injEq] at hx
    simp only [if_true] at hmm
    subst hmm
    have hel' : ∀ i, i < len → ∃ q : List Value × List (DataW H × List MemPlace), W.cells? 0 (a.add (i * P.cellsOf e)) (P.cellsOf e) = some q.1 ∧ ∀ (j : Nat) (f : Field), fs[j]? = some f → DataW.trod enc P W 0 (fun _ => true) true (n - 1) f.type [q.1.getD j (.bool false)] = some (q.2.getD j (.nil, [])) := by
      intro i hi
      obtain ⟨cs', h1, h2⟩ := hel i (by omega)
      obtain ⟨_, hlen, _⟩ := World.cells?_some h1
      obtain ⟨xs, k, hk, _, _, hxl, hfd⟩ := DataW.trod_struct he h2
      refine ⟨(cs', xs), h1, fun j f hj => ?_⟩
      have hlt : j < fs.size := (Array.getElem?_eq_some_iff.1 hj).1
      obtain ⟨ho, hc1⟩ := hone j f hj
      have g := hfd j f hj
      rw [ho, hc1, Deep.take1_drop cs' j (.bool false) (by omega), show k = n - 1 by omega] at g
      rw [g, List.getElem?_eq_getElem (by omega)]
      simp [List.getD, List.getElem?_eq_getElem (show j < xs.length by omega)]
    obtain ⟨q, hq⟩ := Deep.choose_lt hel'
    refine ⟨some a, len, _, n - 1, fun i j => (q i).1.getD j (.bool false), fun i j => (q i).2.getD j (.nil, []), rfl, hl, Or.inr ⟨_, _, hx.1, by simp⟩, fun hp => ?_⟩
    have key : ∀ i, i < len → ∀ (j : Nat) (f : Field), fs[j]? = some f → W.cell? (a.add (i * fs.size + j)) = some ((q i).1.getD j (.bool false)) := by
      intro i hi j f hj
      obtain ⟨h1, _⟩ := hq i hi
      obtain ⟨_, hlen, hcell⟩ := World.cells?_some h1
      have hlt : j < fs.size := (Array.getElem?_eq_some_iff.1 hj).1
      have e0 := hcell j (by omega)
      rw [Deep.add_add, hC] at e0
      rw [e0, List.getElem?_eq_getElem (by omega)]
      simp [List.getD, List.getElem?_eq_getElem (show j < (q i).1.length by omega)]
    obtain ⟨b, off, spot⟩ := a
    obtain ⟨f0, hf0⟩ : ∃ f, fs[0]? = some f := ⟨fs[0], Array.getElem?_eq_getElem hpos⟩
    have hspot : spot = none := by simpa [Addr.add] using World.cell?_spot (key 0 hp 0 f0 hf0)
    subst hspot
    refine ⟨b, off, rfl, fun i hi j f hj => ⟨?_, (hq i hi).2 j f hj⟩⟩
    have := key i hi j f hj
    rwa [Addr.add_lit] at this
end Go.Proofs.Ytmhcfifenclebaa
