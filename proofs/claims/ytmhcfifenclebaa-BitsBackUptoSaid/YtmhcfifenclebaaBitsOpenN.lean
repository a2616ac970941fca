/- The opening of a list of numbers with their widths. -/
import Derived.Test.YtmhcfifenclebaaPlainGlue
import Derived.Test.YtmhcfifenclebaaStructs
import Derived.Test.YtmhcfifenclebaaBitsBack1
namespace Go.Proofs.Ytmhcfifenclebaa
open Go.RowKit Go.ChangeShapes Go.WideShapes Go.ChangeAt
theorem open_numbers {H : Type} {enc : TypeId × Value → H} {W : World} {base : Nat} {v : Value} {d : DataW H} {p : List MemPlace}
    (hval : Value.okWide Try.prog W .any base 28 v) (h : DataW.Trod enc Try.prog W 0 (fun _ => true) true 28 v d p) :
    ∃ (so : Option Addr) (s : List (BitVec 64 × Int)) (cap : Nat), v = .slice so s.length cap ∧ Nm W so s ∧ s.length ≤ cap := by
  obtain ⟨so, len, cap, n, V, D, rfl, hlc, _, hx⟩ := open_structs Try.underlying28 Try.underlying32 (Deep.hone_of (by kernel_rfl)) (by kernel_rfl) (by decide) hval h
  refine ⟨so, (List.range len).map fun i => (BitVec.ofNat 64 (intOf (V i 0)).toNat, intOf (V i 1)), cap, by simp, ?_, by simpa using hlc⟩
  rcases Nat.eq_zero_or_pos len with rfl | hp
  · exact Or.inl rfl
  · obtain ⟨b, o, rfl, hc⟩ := hx hp
    refine Or.inr ⟨b, o, rfl, fun i hi => ?_⟩
    simp only [List.length_map, List.length_range] at hi
    obtain ⟨c0, t0⟩ := hc i hi 0 _ rfl
    obtain ⟨c1, t1⟩ := hc i hi 1 _ rfl
    obtain ⟨z0, e0, _, w0⟩ := DataW.trod_int Try.underlying23 t0
    obtain ⟨z1, e1, _⟩ := DataW.trod_int Try.underlying3 t1
    simp only [List.cons.injEq, and_true] at e0 e1
    have hb := bounds_u64 w0
    have hg : ((List.range len).map fun i => (BitVec.ofNat 64 (intOf (V i 0)).toNat, intOf (V i 1))).getD i (0#64, 0) = (BitVec.ofNat 64 z0.toNat, z1) := by
      simp [List.getD, hi, e0, e1, intOf]
    rw [hg, ← n64_of z0 hb.1 (by omega)]
    rw [e0] at c0
    rw [e1] at c1
    exact ⟨c0, c1⟩
end Go.Proofs.Ytmhcfifenclebaa
