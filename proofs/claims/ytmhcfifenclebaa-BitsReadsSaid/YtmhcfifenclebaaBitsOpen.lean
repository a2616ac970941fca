/- The opening of a script. -/
import Derived.Test.YtmhcfifenclebaaPlainGlue
import Derived.Test.YtmhcfifenclebaaStructs
import Derived.Test.YtmhcfifenclebaaBitsOps
namespace Go.Proofs.Ytmhcfifenclebaa
open Go.RowKit Go.ChangeShapes Go.WideShapes Go.ChangeAt
def boolOf : Value → Bool
  | .bool b => b
  | _ => false
theorem open_ops {H : Type} {enc : TypeId × Value → H} {W : World} {base : Nat} {v : Value} {d : DataW H} {p : List MemPlace}
    (hval : Value.okWide Try.prog W .any base 43 v) (h : DataW.Trod enc Try.prog W 0 (fun _ => true) true 43 v d p) :
    ∃ (so : Option Addr) (s : List (Int × Int × Bool)) (cap : Nat), v = .slice so s.length cap ∧ Ro W so s := by
  obtain ⟨so, len, cap, n, V, D, rfl, _, _, hx⟩ := open_structs Try.underlying43 Try.underlying47 (Deep.hone_of (by kernel_rfl)) (by kernel_rfl) (by decide) hval h
  refine ⟨so, (List.range len).map fun i => (intOf (V i 0), intOf (V i 1), boolOf (V i 2)), cap, by simp, ?_⟩
  rcases Nat.eq_zero_or_pos len with rfl | hp
  · exact Or.inl rfl
  · obtain ⟨b, o, rfl, hc⟩ := hx hp
    refine Or.inr ⟨b, o, rfl, fun i hi => ?_⟩
    simp only [List.length_map, List.length_range] at hi
    obtain ⟨c0, t0⟩ := hc i hi 0 _ rfl
    obtain ⟨c1, t1⟩ := hc i hi 1 _ rfl
    obtain ⟨c2, t2⟩ := hc i hi 2 _ rfl
    obtain ⟨z0, e0, _⟩ := DataW.trod_int Try.underlying3 t0
    obtain ⟨z1, e1, _⟩ := DataW.trod_int Try.underlying3 t1
    obtain ⟨z2, e2, _⟩ := DataW.trod_bool Try.underlying4 t2
    simp only [List.cons.injEq, and_true] at e0 e1 e2
    have hg : ((List.range len).map fun i => (intOf (V i 0), intOf (V i 1), boolOf (V i 2))).getD i (0, 0, false) = (z0, z1, z2) := by
      simp [List.getD, hi, e0, e1, e2, intOf, boolOf]
    rw [hg]
    rw [e0] at c0
    rw [e1] at c1
    rw [e2] at c2
    exact ⟨c0, c1, c2⟩
end Go.Proofs.Ytmhcfifenclebaa
