/- A slice of sectors that comes in. -/
import Derived.Test.YtinfhlepjmollaaGreatDoorSecOpenZ
import Derived.Test.YtinfhlepjmollaaGreatDoorSecWOwn
import Derived.Deep.Fields
namespace Go.Proofs.YtinfhlepjmollaaGreatDoor
open Go.RowKit Go.ChangeShapes Go.WideShapes Go.ChangeAt
set_option maxRecDepth 20000
theorem weightsAll_mem {H : Type} {P : Program} {e : TypeId} : ∀ {l : List (DataW H)} {i : Nat} {d : DataW H}, l[i]? = some d → ∀ n ∈ d.weights P e, n ∈ DataW.weightsAll P e l
  | a :: r, 0, d, hd, n, hn => by
    simp only [List.getElem?_cons_zero, Option.some.injEq] at hd
    subst hd
    simp only [DataW.weightsAll, List.mem_append]
    exact Or.inl hn
  | a :: r, i + 1, d, hd, n, hn => by
    simp only [List.getElem?_cons_succ] at hd
    simp only [DataW.weightsAll, List.mem_append]
    exact Or.inr (weightsAll_mem hd n hn)
  | [], i, d, hd, n, hn => by simp at hd
theorem tread_sector {H : Type} {enc : TypeId × Value → H} {W : World} {n : Nat} {cs : List Value} {x : DataW H × List MemPlace} (hl : cs.length = 5) (hf : DataW.trod enc Tryz.prog W 0 (fun _ => true) true n 46 cs = some x) :
    ∃ (S : Sec) (ao : Option Addr) (cap : Nat), cs = [.string (str S.tag), .int .i64 S.epoch, .int .i64 S.seq, .int .i64 S.place, .slice ao S.body.length cap] ∧ Rd W ao S.body ∧ (ao = none → cap = 0) ∧ S.body.length ≤ cap ∧ (S.body.length ≤ 140737488351232 → S.fits) ∧
      ∃ d0 d1 d2 d3 d4, x.1 = .agg [d0, d1, d2, d3, d4] ∧ ((d4 = .nil ∧ S.body = []) ∨ ∃ el sp, d4 = .slice el sp ∧ el.length = S.body.length) := by
  match cs, hl with
  | [c0, c1, c2, c3, c4], _ =>
    obtain ⟨xs, n, _, hx, _, hlen, hg⟩ := DataW.trod_struct Tryz.underlying46 hf
    match xs, hlen with
    | [y0, y1, y2, y3, y4], _ =>
      have h0 := hg 0 _ rfl
      have h1 := hg 1 _ rfl
      have h2 := hg 2 _ rfl
      have h3 := hg 3 _ rfl
      have h4 := hg 4 _ rfl
      simp only [List.getElem?_cons_zero, List.getElem?_cons_succ] at h0 h1 h2 h3 h4
      obtain ⟨tag, rfl⟩ := tread_string h0
      obtain ⟨e, rfl, he0, he1⟩ := tread_int h1
      obtain ⟨q, rfl, hq0, hq1⟩ := tread_int h2
      obtain ⟨pl, rfl, hp0, hp1⟩ := tread_int h3
      obtain ⟨ao, body, cap, hc, hr, hn, hkc, hcm, hd⟩ := tread_bytes Tryz.underlying44 Tryz.underlying5 cells_u8 h4
      obtain rfl : c4 = .slice ao body.length cap := by
        have hc' : List.take (Tryz.prog.cellsOf 44) [c4] = [.slice ao body.length cap] := hc
        rw [cells_bytes] at hc'
        simpa using hc'
      exact ⟨⟨tag, e, q, pl, body⟩, ao, cap, rfl, hr, hn, hkc, fun hk => ⟨hk, he0, he1, hq0, hq1, hp0, hp1⟩, y0.1, y1.1, y2.1, y3.1, y4.1, by rw [hx]; rfl, hd⟩
theorem open_secs {H : Type} {enc : TypeId × Value → H} {W : World} {base : Nat} {v : Value} {d : DataW H} {p : List MemPlace} {ts : List TypeId} {ds : List (DataW H)} {j : Nat}
    (hs : (DataW.weightsEach Tryz.prog ts ds).all (· ≤ reachBytes) = true) (ht : ts[j]? = some 22) (hd : ds[j]? = some d)
    (hval : Value.okWide Tryz.prog W .any base 22 v) (h : DataW.Trod enc Tryz.prog W 0 (fun _ => true) true 22 v d p) :
    ∃ (l : List (Sec × Option Addr × Nat)) (ao : Option Addr) (cap : Nat), v = .slice ao l.length cap ∧ Rs W ao l := by
  obtain ⟨a0, len, cap, rfl⟩ := okWide_slice Tryz.underlying22 hval
  obtain ⟨fuel, hf⟩ := h
  rcases Deep.open_slice Tryz.underlying22 hf with ⟨hcs, hx⟩ | ⟨a, len', cap', m, n, D, Pl, hcs, _, hl, hm, hmm, hx, hel⟩
  · simp [Value.cells] at hcs
    obtain ⟨rfl, rfl, rfl⟩ := hcs
    exact ⟨[], none, 0, rfl, fun i S aB cB hi => by simp at hi⟩
  · simp [Value.cells] at hcs
    obtain ⟨rfl, rfl, rfl⟩ := hcs
    simp only [Prod.mk.injEq] at hx
    simp only [if_true] at hmm
    subst hmm
    have hel' : ∀ i, i < len → ∃ q : Sec × Option Addr × Nat, W.cells? 0 (a.add (i * 5)) 5 = some [.string (str q.1.tag), .int .i64 q.1.epoch, .int .i64 q.1.seq, .int .i64 q.1.place, .slice q.2.1 q.1.body.length q.2.2] ∧ q.1.fits ∧ Rd W q.2.1 q.1.body ∧ (q.2.1 = none → q.2.2 = 0) ∧ q.1.body.length ≤ q.2.2 := by
      intro i hi
      obtain ⟨cs', h1, h2⟩ := hel i (by omega)
      rw [cells_sector] at h1
      obtain ⟨_, hlen, _⟩ := World.cells?_some h1
      obtain ⟨S, ao, c, rfl, hr, hn, hc, hfit, d0, d1, d2, d3, d4, hD, hd4⟩ := tread_sector hlen h2
      refine ⟨(S, ao, c), h1, hfit ?_, hr, hn, hc⟩
      rcases hd4 with ⟨_, h0⟩ | ⟨el, sp, rfl, hle⟩
      · rw [h0]; simp
      · have hm0 : (el.length + sp.length) * Tryz.prog.bytesOf 5 ∈ (DataW.slice el sp).weights Tryz.prog 44 := by
          simp only [DataW.weights, Tryz.underlying44]
          exact List.mem_cons_self
        have hm1 : (el.length + sp.length) * Tryz.prog.bytesOf 5 ∈ (D i).weights Tryz.prog 46 := by
          have e0 : D i = .agg [d0, d1, d2, d3, .slice el sp] := hD
          rw [e0]
          simp only [DataW.weights, Tryz.underlying46]
          refine DataW.weights_mem_each (j := 4) rfl rfl _ ?_
          simpa only [DataW.weights] using hm0
        have hm2 : (el.length + sp.length) * Tryz.prog.bytesOf 5 ∈ d.weights Tryz.prog 22 := by
          rw [hx.1]
          simp only [DataW.weights, Tryz.underlying22]
          refine List.mem_cons_of_mem _ (List.mem_append_left _ (weightsAll_mem (i := i) (d := D i) ?_ _ hm1))
          rw [List.getElem?_map, List.getElem?_range hi]
          rfl
        have h5 := of_decide_eq_true (List.all_eq_true.1 hs _ (DataW.weights_mem_each ht hd _ hm2))
        rw [bytes_u8] at h5
        have h6 : reachBytes = 140737488351232 := rfl
        rw [h6, hle] at h5
        have h7 : (S.body.length + sp.length) * 1 ≤ 140737488351232 := h5
        omega
    haveI : Inhabited Sec := ⟨⟨[], 0, 0, 0, []⟩⟩
    obtain ⟨q, hq⟩ := Deep.choose_lt hel'
    refine ⟨(List.range len).map q, some a, m, by simp, ?_⟩
    intro i S aB cB hi
    rw [List.getElem?_map] at hi
    have hlt : i < len := by
      rcases Nat.lt_or_ge i len with h | h
      · exact h
      · rw [List.getElem?_eq_none (by simpa using h)] at hi; cases hi
    rw [List.getElem?_range hlt] at hi
    simp only [Option.map_some, Option.some.injEq] at hi
    obtain ⟨h1, h2, h3, h4, h5⟩ := hq i hlt
    rw [hi] at h1 h2 h3 h4 h5
    obtain ⟨_, _, hcell⟩ := World.cells?_some h1
    obtain ⟨b, off, spot⟩ := a
    have k0 := hcell 0 (by omega)
    have k1 := hcell 1 (by omega)
    have k2 := hcell 2 (by omega)
    have k3 := hcell 3 (by omega)
    have k4 := hcell 4 (by omega)
    have hspot : spot = none := by
      obtain ⟨_, _, hc0⟩ := World.cells?_some (hq 0 (by omega)).1
      have h0 := World.cell?_spot (hc0 0 (by omega))
      simpa [Addr.add] using h0
    subst hspot
    simp only [Addr.add_lit, List.getElem?_cons_zero, List.getElem?_cons_succ, Nat.add_zero] at k0 k1 k2 k3 k4
    exact ⟨b, off, rfl, k0, k1, k2, k3, k4, h2, h3, h4, h5⟩
end Go.Proofs.YtinfhlepjmollaaGreatDoor
