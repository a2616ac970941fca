/- A sector that comes in. -/
import Derived.Test.YtinfhlepjmollaaGreatDoorTabGlue4
import Derived.Test.YtinfhlepjmollaaGreatDoorSecMay
import Derived.Lib.SmallJoins
namespace Go.Proofs.YtinfhlepjmollaaGreatDoor
open Go.RowKit Go.ChangeShapes Go.WideShapes Go.ChangeAt
set_option maxRecDepth 20000
/-- A slice of bytes, read as a field. -/
theorem tread_bytes {H : Type} {enc : TypeId × Value → H} {P : Program} {W : World} {t e : TypeId} {n : Nat} {cs : List Value} {x : DataW H × List MemPlace}
    (ht : P.underlying t = some (.slice e)) (he : P.underlying e = some (.int .u8)) (hc : P.cellsOf e = 1) (hf : DataW.trod enc P W 0 (fun _ => true) true n t cs = some x) :
    ∃ (ao : Option Addr) (l : List (BitVec 8)) (cap : Nat), cs = [.slice ao l.length cap] ∧ Rd W ao l ∧ (ao = none → cap = 0) ∧ l.length ≤ cap ∧ cap ≤ maxLen ∧ ((x.1 = .nil ∧ l = []) ∨ ∃ el sp, x.1 = .slice el sp ∧ el.length = l.length) := by
  rcases open_ints ht he hc hf with ⟨hcs, hx⟩ | ⟨a, len', cap', zs, hcs, _, hl, hm, hz, hx, hcell, hwz⟩
  · exact ⟨none, [], 0, hcs, Rd.nil _ _, fun _ => rfl, by simp, by simp, Or.inl ⟨by rw [hx], rfl⟩⟩
  · simp only [if_true] at hz
    obtain ⟨l, hlz⟩ : ∃ l : List (BitVec 8), zs.take len' = l.map n8 := by
      refine ⟨(zs.take len').map fun z => BitVec.ofNat 8 z.toNat, ?_⟩
      rw [List.map_map]
      conv => lhs; rw [← List.map_id (zs.take len')]
      refine List.map_congr_left fun z hz => ?_
      have := bounds_u8 (hwz z (List.mem_of_mem_take hz))
      exact n8_of z this.1 (by omega)
    have hll : l.length = len' := by
      have := congrArg List.length hlz
      simp at this
      omega
    refine ⟨some a, l, cap', by rw [hll]; exact hcs, ?_, (fun h => by cases h), by omega, hm, Or.inr ⟨_, _, by rw [hx], by simp only [lits, List.length_map, List.length_take]; omega⟩⟩
    rcases Nat.eq_zero_or_pos l.length with h0 | h0
    · rw [List.length_eq_zero_iff.1 h0]; exact Rd.nil _ _
    · obtain ⟨b, off, spot⟩ := a
      have hspot : spot = none := by simpa [Addr.add] using World.cell?_spot (hcell 0 (by omega))
      subst hspot
      refine Or.inr ⟨b, off, rfl, fun i hi => ?_⟩
      have e1 := hcell i (by omega)
      rw [Addr.add_lit] at e1
      rw [e1]
      have e2 : (zs.take len')[i]? = (l.map n8)[i]? := by rw [hlz]
      rw [List.getElem?_take_of_lt (by omega), List.getElem?_map, List.getElem?_eq_getElem hi] at e2
      simp only [List.getD, e2, List.getElem?_eq_getElem hi, Option.map_some, Option.getD_some]
theorem cells_bytes : Tryz.prog.cellsOf 44 = 1 := by kernel_rfl
theorem cells_string : Tryz.prog.cellsOf 9 = 1 := by kernel_rfl
theorem cells_sector : Tryz.prog.cellsOf 46 = 5 := by kernel_rfl
theorem tread_int {H : Type} {enc : TypeId × Value → H} {W : World} {n : Nat} {v : Value} {x : DataW H × List MemPlace} (hf : DataW.trod enc Tryz.prog W 0 (fun _ => true) true n 3 [v] = some x) :
    ∃ z, v = .int .i64 z ∧ -9223372036854775808 ≤ z ∧ z ≤ 9223372036854775807 := by
  obtain ⟨z, h, _, hw⟩ := DataW.trod_int Tryz.underlying3 hf
  simp at h
  exact ⟨z, h, bounds_i64 hw⟩
theorem tread_string {H : Type} {enc : TypeId × Value → H} {W : World} {n : Nat} {v : Value} {x : DataW H × List MemPlace} (hf : DataW.trod enc Tryz.prog W 0 (fun _ => true) true n 9 [v] = some x) :
    ∃ l, v = .string (str l) := by
  obtain ⟨s, h, _, _⟩ := DataW.trod_string Tryz.underlying9 hf
  simp at h
  exact ⟨_, by rw [h, ← str_of s]⟩
/-- A string that comes in. -/
theorem open_str {H : Type} {enc : TypeId × Value → H} {W : World} {base : Nat} {v : Value} {d : DataW H} {p : List MemPlace}
    (hval : Value.okWide Tryz.prog W .any base 9 v) (h : DataW.Trod enc Tryz.prog W 0 (fun _ => true) true 9 v d p) : ∃ l, v = .string (str l) ∧ p = [] := by
  obtain ⟨s, rfl, rfl, rfl, _⟩ := ChangeMaps.open_string Tryz.underlying9 hval h
  exact ⟨_, by rw [← str_of s], rfl⟩
theorem open_sector {H : Type} {enc : TypeId × Value → H} {W : World} {base : Nat} {v : Value} {d : DataW H} {p : List MemPlace}
    (hval : Value.okWide Tryz.prog W .any base 46 v) (h : DataW.Trod enc Tryz.prog W 0 (fun _ => true) true 46 v d p) :
    ∃ (S : Sec) (ao : Option Addr) (cap : Nat), v = S.val ao cap ∧ Rd W ao S.body ∧ (ao = none → cap = 0) ∧ S.body.length ≤ cap ∧ cap ≤ maxLen ∧ (S.body.length ≤ 140737488351232 → S.fits) ∧
      ∃ d0 d1 d2 d3 d4, d = .agg [d0, d1, d2, d3, d4] ∧ ((d4 = .nil ∧ S.body = []) ∨ ∃ el sp, d4 = .slice el sp ∧ el.length = S.body.length) := by
  obtain ⟨cs, rfl, hsz⟩ := okWide_struct Tryz.underlying46 hval
  obtain ⟨l⟩ := cs
  match l, hsz.trans cells_sector with
  | [c0, c1, c2, c3, c4], _ =>
    obtain ⟨fuel, hf⟩ := h
    obtain ⟨xs, n, _, hx, _, hlen, hg⟩ := DataW.trod_struct Tryz.underlying46 hf
    match xs, hlen with
    | [y0, y1, y2, y3, y4], _ =>
      have h0 := hg 0 _ rfl
      have h1 := hg 1 _ rfl
      have h2 := hg 2 _ rfl
      have h3 := hg 3 _ rfl
      have h4 := hg 4 _ rfl
      simp only [Value.cells, cells_int, cells_bytes, cells_string, List.drop_zero, List.drop_succ_cons, List.take_succ_cons, List.take_zero, List.getElem_toArray, List.getElem_cons_zero, List.getElem_cons_succ, List.getElem?_cons_zero, List.getElem?_cons_succ] at h0 h1 h2 h3 h4
      obtain ⟨tag, rfl⟩ := tread_string h0
      obtain ⟨e, rfl, he0, he1⟩ := tread_int h1
      obtain ⟨q, rfl, hq0, hq1⟩ := tread_int h2
      obtain ⟨pl, rfl, hp0, hp1⟩ := tread_int h3
      obtain ⟨ao, body, cap, hc, hr, hn, hkc, hcm, hd⟩ := tread_bytes Tryz.underlying44 Tryz.underlying5 cells_u8 h4
      simp only [List.cons.injEq, and_true] at hc
      subst hc
      simp only [Prod.mk.injEq] at hx
      exact ⟨⟨tag, e, q, pl, body⟩, ao, cap, rfl, hr, hn, hkc, hcm, fun hk => ⟨hk, he0, he1, hq0, hq1, hp0, hp1⟩, y0.1, y1.1, y2.1, y3.1, y4.1, hx.1, hd⟩
/-- Its body's length, by the form's own reach. -/
theorem len_sector {H : Type} {ts : List TypeId} {ds : List (DataW H)} (hs : (DataW.weightsEach Tryz.prog ts ds).all (· ≤ reachBytes) = true) {j : Nat} {d : DataW H} {S : Sec}
    (ht : ts[j]? = some 46) (hd : ds[j]? = some d) (h : ∃ d0 d1 d2 d3 d4, d = .agg [d0, d1, d2, d3, d4] ∧ ((d4 = .nil ∧ S.body = []) ∨ ∃ el sp, d4 = .slice el sp ∧ el.length = S.body.length)) : S.body.length ≤ 140737488351232 := by
  obtain ⟨d0, d1, d2, d3, d4, rfl, hc⟩ := h
  rcases hc with ⟨_, h0⟩ | ⟨el, sp, rfl, hl⟩
  · rw [h0]; simp
  · have hw : ∀ n ∈ (DataW.slice el sp).weights Tryz.prog 44, n ∈ (DataW.agg [d0, d1, d2, d3, .slice el sp]).weights Tryz.prog 46 := by
      intro n hn
      simp only [DataW.weights, Tryz.underlying46]
      refine DataW.weights_mem_each (j := 4) rfl rfl n ?_
      simpa only [DataW.weights] using hn
    have hm : (el.length + sp.length) * Tryz.prog.bytesOf 5 ∈ (DataW.slice el sp).weights Tryz.prog 44 := by
      simp only [DataW.weights, Tryz.underlying44]
      exact List.mem_cons_self
    have h5 := of_decide_eq_true (List.all_eq_true.1 hs _ (DataW.weights_mem_each ht hd _ (hw _ hm)))
    rw [bytes_u8] at h5
    have h6 : reachBytes = 140737488351232 := rfl
    rw [h6, hl] at h5
    have h7 : (S.body.length + sp.length) * 1 ≤ 140737488351232 := h5
    omega
end Go.Proofs.YtinfhlepjmollaaGreatDoor
