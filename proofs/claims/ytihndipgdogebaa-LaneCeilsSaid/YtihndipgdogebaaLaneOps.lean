/- A list of calls that comes in. -/
import Derived.Test.YtihndipgdogebaaLaneOpen2
import Derived.Test.YtihndipgdogebaaLaneStep
namespace Go.Proofs.Ytihndipgdogebaa
open Go.RowKit Go.ChangeShapes Go.WideShapes Go.ChangeAt
def Ask.none : Ask := ⟨0, 0, 0, 0, 0, 0, 0⟩
instance : Inhabited Ask := ⟨Ask.none⟩
/-- From an address on stand these calls. -/
def Ro (w : World) (ao : Option Addr) (l : List Ask) : Prop := l = [] ∨ ∃ b o, ao = some ⟨b, o, none⟩ ∧ ∀ i, i < l.length →
  w.cell? ⟨b, o + i * 7, none⟩ = some (.int .i64 (l.getD i Ask.none).kind) ∧ w.cell? ⟨b, o + i * 7 + 1, none⟩ = some (.int .i64 (l.getD i Ask.none).g) ∧ w.cell? ⟨b, o + i * 7 + 2, none⟩ = some (.int .i64 (l.getD i Ask.none).b) ∧ w.cell? ⟨b, o + i * 7 + 3, none⟩ = some (.int .u64 (l.getD i Ask.none).c) ∧ w.cell? ⟨b, o + i * 7 + 4, none⟩ = some (.int .u64 (l.getD i Ask.none).at1) ∧ w.cell? ⟨b, o + i * 7 + 5, none⟩ = some (.int .i64 (l.getD i Ask.none).ss) ∧ w.cell? ⟨b, o + i * 7 + 6, none⟩ = some (.int .i64 (l.getD i Ask.none).sn)
theorem lt_of_cell {w : World} {b o : Nat} {v : Value} (h : w.cell? ⟨b, o, none⟩ = some v) : b < w.heap.size := by
  by_cases hb : b < w.heap.size
  · exact hb
  · simp [World.cell?, Array.getElem?_eq_none (Nat.le_of_not_lt hb)] at h
theorem Ro.on {w w' : World} {ao : Option Addr} {l : List Ask} (h : Ro w ao l) (hb : Below w.heap.size w w') : Ro w' ao l := by
  rcases h with rfl | ⟨b, o, rfl, hc⟩
  · exact Or.inl rfl
  · refine Or.inr ⟨b, o, rfl, fun i hi => ?_⟩
    have h := hc i hi
    have hlt := lt_of_cell h.1
    have k : ∀ j, w'.cell? ⟨b, j, none⟩ = w.cell? ⟨b, j, none⟩ := fun j => hb.cell hlt
    simp only [k]
    exact h
theorem cells_op : Try.prog.cellsOf 57 = 7 := by kernel_rfl
theorem open_ops {H : Type} {enc : TypeId × Value → H} {W : World} {base : Nat} {v : Value} {d : DataW H} {p : List MemPlace}
    (hval : Value.okWide Try.prog W .any base 53 v) (h : DataW.Trod enc Try.prog W 0 (fun _ => true) true 53 v d p) :
    ∃ (ao : Option Addr) (l : List Ask) (cap : Nat), v = .slice ao l.length cap ∧ l.length ≤ cap ∧ cap ≤ maxLen ∧ Ro W ao l ∧ ∀ i, i < l.length → (l.getD i Ask.none).fits := by
  obtain ⟨a0, len, cap, rfl⟩ := okWide_slice Try.underlying53 hval
  obtain ⟨fuel, hf⟩ := h
  rcases Deep.open_slice Try.underlying53 hf with ⟨hcs, hx⟩ | ⟨a, len', cap', m, n, D, Pl, hcs, _, hl, hm, hmm, hx, hel⟩
  · simp [Value.cells] at hcs
    obtain ⟨rfl, rfl, rfl⟩ := hcs
    exact ⟨none, [], 0, rfl, by simp, by simp, Or.inl rfl, fun i hi => by simp at hi⟩
  · simp [Value.cells] at hcs
    obtain ⟨rfl, rfl, rfl⟩ := hcs
    simp only [if_true] at hmm
    subst hmm
    have key : ∀ i, i < len → ∃ A : Ask, A.fits ∧ W.cells? 0 (a.add (i * 7)) 7 = some [.int .i64 A.kind, .int .i64 A.g, .int .i64 A.b, .int .u64 A.c, .int .u64 A.at1, .int .i64 A.ss, .int .i64 A.sn] := by
      intro i hi
      obtain ⟨cs', h1, h2⟩ := hel i (by omega)
      rw [cells_op] at h1
      obtain ⟨_, hlen, _⟩ := World.cells?_some h1
      obtain ⟨xs, k, _, hx2, _, hxl, hg⟩ := DataW.trod_struct Try.underlying57 h2
      match cs', hlen, xs, hxl with
      | [c0, c1, c2, c3, c4, c5, c6], _, [y0, y1], _ =>
        have h0 := hg 0 _ rfl
        have h3 := hg 1 _ rfl
        simp only [cells_int, cells_numbers, List.drop_zero, List.drop_succ_cons, List.take_succ_cons, List.take_zero, List.getElem_toArray, List.getElem_cons_zero, List.getElem_cons_succ, List.getElem?_cons_zero, List.getElem?_cons_succ] at h0 h3
        obtain ⟨kd, rfl, _, _⟩ := tread_int h0
        obtain ⟨g, b, c, at1, ss, sn, rfl, rfl, rfl, rfl, rfl, rfl, hc, ha, hs, _⟩ := tread_numbers h3
        exact ⟨⟨kd, g, b, c, at1, ss, sn⟩, ⟨hc.1, hc.2, ha.1, ha.2, hs⟩, h1⟩
    obtain ⟨A, hA⟩ := Deep.choose_lt key
    refine ⟨some a, (List.range len).map A, _, by simp, by simpa using hl, hm, ?_, ?_⟩
    · rcases Nat.eq_zero_or_pos len with h0 | hp
      · subst h0; exact Or.inl rfl
      · obtain ⟨b, off, spot⟩ := a
        have hspot : spot = none := by
          obtain ⟨_, _, hcell⟩ := World.cells?_some (hA 0 hp).2
          have := hcell 0 (by simp)
          simpa [Addr.add] using World.cell?_spot this
        subst hspot
        refine Or.inr ⟨b, off, rfl, fun i hi => ?_⟩
        have hi' : i < len := by simpa using hi
        obtain ⟨_, _, hcell⟩ := World.cells?_some (hA i hi').2
        have hgd : ((List.range len).map A).getD i Ask.none = A i := by simp [List.getD, hi']
        rw [hgd]
        have cc : ∀ j, j < 7 → W.cell? ⟨b, off + i * 7 + j, none⟩ = [Value.int .i64 (A i).kind, .int .i64 (A i).g, .int .i64 (A i).b, .int .u64 (A i).c, .int .u64 (A i).at1, .int .i64 (A i).ss, .int .i64 (A i).sn][j]? := by
          intro j hj
          have e0 := hcell j (by simpa using hj)
          rw [Deep.add_add, Addr.add_lit] at e0
          rw [← e0, Nat.add_assoc]
        exact ⟨cc 0 (by omega), cc 1 (by omega), cc 2 (by omega), cc 3 (by omega), cc 4 (by omega), cc 5 (by omega), cc 6 (by omega)⟩
    · intro i hi
      have hi' : i < len := by simpa using hi
      have hgd : ((List.range len).map A).getD i Ask.none = A i := by simp [List.getD, hi']
      rw [hgd]
      exact (hA i hi').1
end Go.Proofs.Ytihndipgdogebaa
