/- A list of counters that comes in. -/
import Derived.Test.YtihndipgdogebaaLaneOps
namespace Go.Proofs.Ytihndipgdogebaa
open Go.RowKit Go.ChangeShapes Go.WideShapes Go.ChangeAt
/-- From an address on stand these counters. -/
def Ru (w : World) (ao : Option Addr) (l : List Int) : Prop := l = [] ∨ ∃ b o, ao = some ⟨b, o, none⟩ ∧ ∀ i, i < l.length → w.cell? ⟨b, o + i, none⟩ = some (.int .u64 (l.getD i 0))
theorem Ru.on {w w' : World} {ao : Option Addr} {l : List Int} (h : Ru w ao l) (hb : Below w.heap.size w w') : Ru w' ao l := by
  rcases h with rfl | ⟨b, o, rfl, hc⟩
  · exact Or.inl rfl
  · refine Or.inr ⟨b, o, rfl, fun i hi => ?_⟩
    exact (hb.cell (p := ⟨b, o + i, none⟩) (lt_of_cell (hc i hi))).trans (hc i hi)
theorem Ru.num {w : World} {b o : Nat} {l : List Int} (h : Ru w (some ⟨b, o, none⟩) l) {k : Nat} (hk : k < l.length) {x : Int} (he : l.getD k 0 = x) : w.cell? ⟨b, o + k, none⟩ = some (.int .u64 x) := by
  rcases h with rfl | ⟨b', o', h1, hc⟩
  · simp at hk
  · cases h1
    rw [← he]
    exact hc k hk
theorem open_u64s {H : Type} {enc : TypeId × Value → H} {P : Program} {W : World} {base : Nat} {t e : TypeId} {v : Value} {d : DataW H} {p : List MemPlace}
    (ht : P.underlying t = some (.slice e)) (he : P.underlying e = some (.int .u64)) (hc : P.cellsOf e = 1) (hval : Value.okWide P W .any base t v) (h : DataW.Trod enc P W 0 (fun _ => true) true t v d p) :
    ∃ (ao : Option Addr) (l : List Int) (cap : Nat), v = .slice ao l.length cap ∧ l.length ≤ cap ∧ cap ≤ maxLen ∧ Ru W ao l ∧ (∀ x ∈ l, 0 ≤ x ∧ x ≤ 18446744073709551615) := by
  obtain ⟨a0, len, cap, rfl⟩ := okWide_slice ht hval
  obtain ⟨fuel, hf⟩ := h
  rcases open_ints ht he hc hf with ⟨hcs, hx⟩ | ⟨a, len', cap', zs, hcs, _, hl, hm, hz, hx, hcell, hwz⟩
  · simp [Value.cells] at hcs
    obtain ⟨rfl, rfl, rfl⟩ := hcs
    exact ⟨none, [], 0, rfl, by simp, by simp, Or.inl rfl, fun _ h => by simp at h⟩
  · simp [Value.cells] at hcs
    obtain ⟨rfl, rfl, rfl⟩ := hcs
    simp only [if_true] at hz
    have hll : (zs.take len).length = len := by simp; omega
    refine ⟨some a, zs.take len, cap, by rw [hll], by rw [hll]; exact hl, hm, ?_, fun x hx => by have := bounds_u64 (hwz x (List.mem_of_mem_take hx)); omega⟩
    rcases Nat.eq_zero_or_pos len with h0 | h0
    · rw [h0]; exact Or.inl rfl
    · obtain ⟨b, off, spot⟩ := a
      have hspot : spot = none := by simpa [Addr.add] using World.cell?_spot (hcell 0 (by omega))
      subst hspot
      refine Or.inr ⟨b, off, rfl, fun i hi => ?_⟩
      rw [hll] at hi
      have e1 := hcell i (by omega)
      rw [Addr.add_lit] at e1
      rw [e1]
      simp [List.getD, hi]
end Go.Proofs.Ytihndipgdogebaa
