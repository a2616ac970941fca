/- A lane that comes in; a list of bytes, numbers, stamps inside a struct. -/
import Derived.Test.YtjlhnepjpjlppaaGreatDoorZLc
import Derived.Test.YtjlhnepjpjlppaaGreatDoorTabGlue3
import Derived.Lib.SmallJoins
namespace Go.Proofs.YtjlhnepjpjlppaaGreatDoor
set_option maxRecDepth 100000
open Go.RowKit Go.ChangeShapes Go.WideShapes Go.ChangeAt
/-- A slice of bytes, read as a field. -/
theorem tread_bytes {H : Type} {enc : TypeId × Value → H} {P : Program} {W : World} {t e : TypeId} {n : Nat} {cs : List Value} {x : DataW H × List MemPlace}
    (ht : P.underlying t = some (.slice e)) (he : P.underlying e = some (.int .u8)) (hc : P.cellsOf e = 1) (hf : DataW.trod enc P W 0 (fun _ => true) true n t cs = some x) :
    ∃ (ao : Option Addr) (l : List (BitVec 8)) (cap : Nat), cs = [.slice ao l.length cap] ∧ Rd W ao l ∧ (ao = none → cap = 0) ∧ l.length ≤ cap ∧ cap ≤ maxLen := by
  rcases open_ints ht he hc hf with ⟨hcs, hx⟩ | ⟨a, len', cap', zs, hcs, _, hl, hm, hz, hx, hcell, hwz⟩
  · exact ⟨none, [], 0, hcs, Rd.nil _ _, fun _ => rfl, by simp, by simp⟩
  · simp only [if_true] at hz
    obtain ⟨l, hlz⟩ : ∃ l : List (BitVec 8), zs.take len' = l.map n8 := by
      refine ⟨(zs.take len').map fun z => BitVec.ofNat 8 z.toNat, ?_⟩
      rw [List.map_map]
      conv => lhs; rw [← List.map_id (zs.take len')]
      refine List.map_congr_left fun z hz => ?_
      have := bounds_u8 (hwz z (List.mem_of_mem_take hz))
      exact n8_of z this.1 (by omega)
    have hll : l.length = len' := by
      have := congrArg List.length hlz
      simp at this
      omega
    refine ⟨some a, l, cap', by rw [hll]; exact hcs, ?_, (fun h => by cases h), by omega, hm⟩
    rcases Nat.eq_zero_or_pos l.length with h0 | h0
    · rw [List.length_eq_zero_iff.1 h0]; exact Rd.nil _ _
    · obtain ⟨b, off, spot⟩ := a
      have hspot : spot = none := by simpa [Addr.add] using World.cell?_spot (hcell 0 (by omega))
      subst hspot
      refine Or.inr ⟨b, off, rfl, fun i hi => ?_⟩
      have e1 := hcell i (by omega)
      rw [Addr.add_lit] at e1
      rw [e1]
      have e2 : (zs.take len')[i]? = (l.map n8)[i]? := by rw [hlz]
      rw [List.getElem?_take_of_lt (by omega), List.getElem?_map, List.getElem?_eq_getElem hi] at e2
      simp only [List.getD, e2, List.getElem?_eq_getElem hi, Option.map_some, Option.getD_some]
theorem cells_bytes : Tryz.prog.cellsOf 22 = 1 := by kernel_rfl
theorem cells_u64 : Tryz.prog.cellsOf 23 = 1 := by kernel_rfl
theorem cells_stamp : Tryz.prog.cellsOf 25 = 2 := by kernel_rfl
theorem cells_lane : Tryz.prog.cellsOf 27 = 8 := by kernel_rfl
theorem tread_int {H : Type} {enc : TypeId × Value → H} {W : World} {n : Nat} {v : Value} {x : DataW H × List MemPlace} (hf : DataW.trod enc Tryz.prog W 0 (fun _ => true) true n 3 [v] = some x) :
    ∃ z, v = .int .i64 z ∧ -9223372036854775808 ≤ z ∧ z ≤ 9223372036854775807 := by
  obtain ⟨z, h, _, hw⟩ := DataW.trod_int Tryz.underlying3 hf
  simp at h
  exact ⟨z, h, bounds_i64 hw⟩
theorem tread_u64 {H : Type} {enc : TypeId × Value → H} {W : World} {n : Nat} {v : Value} {x : DataW H × List MemPlace} (hf : DataW.trod enc Tryz.prog W 0 (fun _ => true) true n 23 [v] = some x) :
    ∃ z, v = .int .u64 z ∧ 0 ≤ z ∧ z ≤ 18446744073709551615 := by
  obtain ⟨z, h, _, hw⟩ := DataW.trod_int Tryz.underlying23 hf
  simp at h
  have := bounds_u64 hw
  exact ⟨z, h, this.1, by omega⟩
theorem tread_stamp {H : Type} {enc : TypeId × Value → H} {W : World} {n : Nat} {v0 v1 : Value} {x : DataW H × List MemPlace} (hf : DataW.trod enc Tryz.prog W 0 (fun _ => true) true n 25 [v0, v1] = some x) :
    ∃ s m, v0 = .int .i64 s ∧ v1 = .int .i64 m ∧ s ≤ 9223372036854775807 ∧ m ≤ 9223372036854775807 := by
  obtain ⟨xs, k, _, hx, _, hlen, hg⟩ := DataW.trod_struct Tryz.underlying25 hf
  match xs, hlen with
  | [y0, y1], _ =>
    have h0 := hg 0 _ rfl
    have h1 := hg 1 _ rfl
    simp only [cells_int, List.drop_zero, List.drop_succ_cons, List.take_succ_cons, List.take_zero, List.getElem_toArray, List.getElem_cons_zero, List.getElem_cons_succ, List.getElem?_cons_zero, List.getElem?_cons_succ] at h0 h1
    obtain ⟨s, rfl, _, hs⟩ := tread_int h0
    obtain ⟨m, rfl, _, hm⟩ := tread_int h1
    exact ⟨s, m, rfl, rfl, hs, hm⟩
theorem open_lane {H : Type} {enc : TypeId × Value → H} {W : World} {base : Nat} {v : Value} {d : DataW H} {p : List MemPlace}
    (hval : Value.okWide Tryz.prog W .any base 27 v) (h : DataW.Trod enc Tryz.prog W 0 (fun _ => true) true 27 v d p) :
    ∃ (L : Ln) (ao : Option Addr) (cap : Nat), v = L.val ao cap ∧ Rd W ao L.key ∧ L.key.length ≤ cap ∧ cap ≤ maxLen ∧ (L.key.length ≤ 140737488351232 → L.fits) ∧ L.sec ≤ 9223372036854775807 := by
  obtain ⟨cs, rfl, hsz⟩ := okWide_struct Tryz.underlying27 hval
  obtain ⟨l⟩ := cs
  match l, hsz.trans cells_lane with
  | [c0, c1, c2, c3, c4, c5, c6, c7], _ =>
    obtain ⟨fuel, hf⟩ := h
    obtain ⟨xs, n, _, hx, _, hlen, hg⟩ := DataW.trod_struct Tryz.underlying27 hf
    match xs, hlen with
    | [y0, y1, y2, y3, y4, y5, y6], _ =>
      have h0 := hg 0 _ rfl
      have h1 := hg 1 _ rfl
      have h2 := hg 2 _ rfl
      have h3 := hg 3 _ rfl
      have h4 := hg 4 _ rfl
      have h5 := hg 5 _ rfl
      have h6 := hg 6 _ rfl
      simp only [Value.cells, cells_int, cells_bytes, cells_u64, cells_stamp, List.drop_zero, List.drop_succ_cons, List.take_succ_cons, List.take_zero, List.getElem_toArray, List.getElem_cons_zero, List.getElem_cons_succ, List.getElem?_cons_zero, List.getElem?_cons_succ] at h0 h1 h2 h3 h4 h5 h6
      obtain ⟨ao, key, cap, hc, hr, _, hkc, hcm⟩ := tread_bytes Tryz.underlying22 Tryz.underlying5 cells_u8 h0
      simp only [List.cons.injEq, and_true] at hc
      subst hc
      obtain ⟨side, rfl, _, _⟩ := tread_int h1
      obtain ⟨cur, rfl, hc0, hc1⟩ := tread_int h2
      obtain ⟨next, rfl, hn0, hn1⟩ := tread_int h3
      obtain ⟨send, rfl, hs0, hs1⟩ := tread_u64 h4
      obtain ⟨ceil, rfl, he0, he1⟩ := tread_u64 h5
      obtain ⟨sec, nano, rfl, rfl, hsec, _⟩ := tread_stamp h6
      exact ⟨⟨key, side, cur, next, send, ceil, sec, nano⟩, ao, cap, rfl, hr, hkc, hcm, fun hk => ⟨hk, hc0, hc1, hn0, hn1, hs0, hs1, he0, he1, hsec⟩, hsec⟩
theorem cells_numbers : Tryz.prog.cellsOf 29 = 6 := by kernel_rfl
theorem tread_numbers {H : Type} {enc : TypeId × Value → H} {W : World} {n : Nat} {c0 c1 c2 c3 c4 c5 : Value} {x : DataW H × List MemPlace} (hf : DataW.trod enc Tryz.prog W 0 (fun _ => true) true n 29 [c0, c1, c2, c3, c4, c5] = some x) :
    ∃ g b c at1 ss sn : Int, c0 = .int .i64 g ∧ c1 = .int .i64 b ∧ c2 = .int .u64 c ∧ c3 = .int .u64 at1 ∧ c4 = .int .i64 ss ∧ c5 = .int .i64 sn ∧ (0 ≤ c ∧ c ≤ 18446744073709551615) ∧ (0 ≤ at1 ∧ at1 ≤ 18446744073709551615) ∧ ss ≤ 9223372036854775807 ∧ (-9223372036854775808 ≤ g ∧ g ≤ 9223372036854775807) := by
  obtain ⟨xs, k, _, hx, _, hlen, hg⟩ := DataW.trod_struct Tryz.underlying29 hf
  match xs, hlen with
  | [y0, y1, y2, y3, y4], _ =>
    have h0 := hg 0 _ rfl
    have h1 := hg 1 _ rfl
    have h2 := hg 2 _ rfl
    have h3 := hg 3 _ rfl
    have h4 := hg 4 _ rfl
    simp only [cells_int, cells_u64, cells_stamp, List.drop_zero, List.drop_succ_cons, List.take_succ_cons, List.take_zero, List.getElem_toArray, List.getElem_cons_zero, List.getElem_cons_succ, List.getElem?_cons_zero, List.getElem?_cons_succ] at h0 h1 h2 h3 h4
    obtain ⟨g, rfl, hg0, hg1⟩ := tread_int h0
    obtain ⟨b, rfl, _, _⟩ := tread_int h1
    obtain ⟨c, rfl, hc0, hc1⟩ := tread_u64 h2
    obtain ⟨at1, rfl, ha0, ha1⟩ := tread_u64 h3
    obtain ⟨ss, sn, rfl, rfl, hs, _⟩ := tread_stamp h4
    exact ⟨g, b, c, at1, ss, sn, rfl, rfl, rfl, rfl, rfl, rfl, ⟨hc0, hc1⟩, ⟨ha0, ha1⟩, hs, hg0, hg1⟩
theorem open_lanenumbers {H : Type} {enc : TypeId × Value → H} {W : World} {base : Nat} {v : Value} {d : DataW H} {p : List MemPlace}
    (hval : Value.okWide Tryz.prog W .any base 29 v) (h : DataW.Trod enc Tryz.prog W 0 (fun _ => true) true 29 v d p) :
    ∃ g b c at1 ss sn : Int, v = .agg #[.int .i64 g, .int .i64 b, .int .u64 c, .int .u64 at1, .int .i64 ss, .int .i64 sn] ∧ (0 ≤ c ∧ c ≤ 18446744073709551615) ∧ (0 ≤ at1 ∧ at1 ≤ 18446744073709551615) ∧ ss ≤ 9223372036854775807 := by
  obtain ⟨cs, rfl, hsz⟩ := okWide_struct Tryz.underlying29 hval
  obtain ⟨l⟩ := cs
  match l, hsz.trans cells_numbers with
  | [c0, c1, c2, c3, c4, c5], _ =>
    obtain ⟨fuel, hf⟩ := h
    obtain ⟨g, b, c, at1, ss, sn, rfl, rfl, rfl, rfl, rfl, rfl, hc, ha, hs, _⟩ := tread_numbers hf
    exact ⟨g, b, c, at1, ss, sn, rfl, hc, ha, hs⟩
end Go.Proofs.YtjlhnepjpjlppaaGreatDoor
