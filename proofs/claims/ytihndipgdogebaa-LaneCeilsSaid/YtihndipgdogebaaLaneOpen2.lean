/- The numbers that come in beside a lane. -/
import Derived.Test.YtihndipgdogebaaLaneOpen
namespace Go.Proofs.Ytihndipgdogebaa
open Go.RowKit Go.ChangeShapes Go.WideShapes Go.ChangeAt
theorem cells_numbers : Try.prog.cellsOf 37 = 6 := by kernel_rfl
theorem tread_numbers {H : Type} {enc : TypeId × Value → H} {W : World} {n : Nat} {c0 c1 c2 c3 c4 c5 : Value} {x : DataW H × List MemPlace} (hf : DataW.trod enc Try.prog W 0 (fun _ => true) true n 37 [c0, c1, c2, c3, c4, c5] = some x) :
    ∃ g b c at1 ss sn : Int, c0 = .int .i64 g ∧ c1 = .int .i64 b ∧ c2 = .int .u64 c ∧ c3 = .int .u64 at1 ∧ c4 = .int .i64 ss ∧ c5 = .int .i64 sn ∧ (0 ≤ c ∧ c ≤ 18446744073709551615) ∧ (0 ≤ at1 ∧ at1 ≤ 18446744073709551615) ∧ ss ≤ 9223372036854775807 ∧ (-9223372036854775808 ≤ g ∧ g ≤ 9223372036854775807) := by
  obtain ⟨xs, k, _, hx, _, hlen, hg⟩ := DataW.trod_struct Try.underlying37 hf
  match xs, hlen with
  | [y0, y1, y2, y3, y4], _ =>
    have h0 := hg 0 _ rfl
    have h1 := hg 1 _ rfl
    have h2 := hg 2 _ rfl
    have h3 := hg 3 _ rfl
    have h4 := hg 4 _ rfl
    simp only [cells_int, cells_u64, cells_stamp, List.drop_zero, List.drop_succ_cons, List.take_succ_cons, List.take_zero, List.getElem_toArray, List.getElem_cons_zero, List.getElem_cons_succ, List.getElem?_cons_zero, List.getElem?_cons_succ] at h0 h1 h2 h3 h4
    obtain ⟨g, rfl, hg0, hg1⟩ := tread_int h0
    obtain ⟨b, rfl, _, _⟩ := tread_int h1
    obtain ⟨c, rfl, hc0, hc1⟩ := tread_u64 h2
    obtain ⟨at1, rfl, ha0, ha1⟩ := tread_u64 h3
    obtain ⟨ss, sn, rfl, rfl, hs, _⟩ := tread_stamp h4
    exact ⟨g, b, c, at1, ss, sn, rfl, rfl, rfl, rfl, rfl, rfl, ⟨hc0, hc1⟩, ⟨ha0, ha1⟩, hs, hg0, hg1⟩
theorem open_lanenumbers {H : Type} {enc : TypeId × Value → H} {W : World} {base : Nat} {v : Value} {d : DataW H} {p : List MemPlace}
    (hval : Value.okWide Try.prog W .any base 37 v) (h : DataW.Trod enc Try.prog W 0 (fun _ => true) true 37 v d p) :
    ∃ g b c at1 ss sn : Int, v = .agg #[.int .i64 g, .int .i64 b, .int .u64 c, .int .u64 at1, .int .i64 ss, .int .i64 sn] ∧ (0 ≤ c ∧ c ≤ 18446744073709551615) ∧ (0 ≤ at1 ∧ at1 ≤ 18446744073709551615) ∧ ss ≤ 9223372036854775807 := by
  obtain ⟨cs, rfl, hsz⟩ := okWide_struct Try.underlying37 hval
  obtain ⟨l⟩ := cs
  match l, hsz.trans cells_numbers with
  | [c0, c1, c2, c3, c4, c5], _ =>
    obtain ⟨fuel, hf⟩ := h
    obtain ⟨g, b, c, at1, ss, sn, rfl, rfl, rfl, rfl, rfl, rfl, hc, ha, hs, _⟩ := tread_numbers hf
    exact ⟨g, b, c, at1, ss, sn, rfl, hc, ha, hs⟩
end Go.Proofs.Ytihndipgdogebaa
