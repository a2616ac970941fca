/- The law's scripts (Op) in memory. -/
import Derived.Test.YtmhcfifenclebaaProg
import Derived.Test.YtmhcfifenclebaaBv
namespace Go.Proofs.Ytmhcfifenclebaa
open Go.RowKit
/-- From an address on stand these calls: kind, number, second. -/
def Ro (w : World) (ao : Option Addr) (l : List (Int × Int × Bool)) : Prop := l = [] ∨ ∃ b o, ao = some ⟨b, o, none⟩ ∧ ∀ i, i < l.length →
  w.cell? ⟨b, o + i * 3, none⟩ = some (.int .i64 (l.getD i (0, 0, false)).1) ∧ w.cell? ⟨b, o + i * 3 + 1, none⟩ = some (.int .i64 (l.getD i (0, 0, false)).2.1) ∧ w.cell? ⟨b, o + i * 3 + 2, none⟩ = some (.bool (l.getD i (0, 0, false)).2.2)
theorem Ro.on {w w' : World} {ao : Option Addr} {l : List (Int × Int × Bool)} (h : Ro w ao l) (hb : Below w.heap.size w w') : Ro w' ao l := by
  rcases h with rfl | ⟨b, o, rfl, hc⟩
  · exact Or.inl rfl
  · refine Or.inr ⟨b, o, rfl, fun i hi => ?_⟩
    obtain ⟨h0, h1, h2⟩ := hc i hi
    exact ⟨(hb.cell (p := ⟨b, _, none⟩) (lt_of_rd h0)).trans h0, (hb.cell (p := ⟨b, _, none⟩) (lt_of_rd h1)).trans h1, (hb.cell (p := ⟨b, _, none⟩) (lt_of_rd h2)).trans h2⟩
end Go.Proofs.Ytmhcfifenclebaa
