/- The document's device, as one thing of a bag. No program in sight. -/
import Derived.Test.YtkndlpihhfjcpaaDkTell
namespace Go.Proofs.Ytkndlpihhfjcpaa
open Go.RowKit
/-- Where the document's device lies: its lists, where each sector and each write lies (none: zeros), all rows that it ever held. -/
structure RLay where
  lv : Value
  pv : Value
  fv : Value
  es : List (Option (Nat × Nat))
  hs : List (Nat × Nat)
  P : List (Nat × Nat × List (BitVec 8))
def svo : Option (Nat × Nat) → Value
  | none => .slice none 0 0
  | some x => .slice (some ⟨x.1, 0, none⟩) 512 x.2
/-- A sector's value stands for these bytes. -/
def StE (P : List (Nat × Nat × List (BitVec 8))) (x : Option (Nat × Nat)) (l : List (BitVec 8)) : Prop := (x = none ∧ l = Dk.zs) ∨ ∃ y, x = some y ∧ (y.1, y.2, l) ∈ P
def AllE (P : List (Nat × Nat × List (BitVec 8))) (es : List (Option (Nat × Nat))) (ls : List (List (BitVec 8))) : Prop := es.length = ls.length ∧ ∀ (i : Nat) (x : Option (Nat × Nat)) (l : List (BitVec 8)), es[i]? = some x → ls[i]? = some l → StE P x l
def AllP (P : List (Nat × Nat × List (BitVec 8))) (hs : List (Nat × Nat)) (ps : List (Nat × List (BitVec 8))) : Prop := hs.length = ps.length ∧ ∀ (i : Nat) (x : Nat × Nat) (p : Nat × List (BitVec 8)), hs[i]? = some x → ps[i]? = some p → (x.1, x.2, p.2) ∈ P
def hcs (ps : List (Nat × List (BitVec 8))) (hs : List (Nat × Nat)) : List Value := prs (fun x => .int .i64 (x.1 : Nat)) (fun x => svo (some x.2)) ((ps.map Prod.fst).zip hs)
theorem hcs_get {ps : List (Nat × List (BitVec 8))} {hs : List (Nat × Nat)} {j : Nat} {p : Nat × List (BitVec 8)} {h : Nat × Nat} (hp : ps[j]? = some p) (hq : hs[j]? = some h) : (hcs ps hs)[j * 2]? = some (.int .i64 (p.1 : Nat)) ∧ (hcs ps hs)[j * 2 + 1]? = some (svo (some h)) := by
  refine prs_get _ _ _ j (p.1, h) ?_
  rw [List.getElem?_zip_eq_some]
  exact ⟨by rw [List.getElem?_map, hp]; rfl, hq⟩
theorem hcs_app {ps : List (Nat × List (BitVec 8))} {hs : List (Nat × Nat)} (h : hs.length = ps.length) (p : Nat × List (BitVec 8)) (q : Nat × Nat) : hcs (ps ++ [p]) (hs ++ [q]) = hcs ps hs ++ [.int .i64 (p.1 : Nat), svo (some q)] := by
  unfold hcs
  rw [List.map_append, List.zip_append (by simp [h]), prs_app]
  rfl
theorem AllE.mono {P : List (Nat × Nat × List (BitVec 8))} {es : List (Option (Nat × Nat))} {ls : List (List (BitVec 8))} (h : AllE P es ls) (x : Nat × Nat × List (BitVec 8)) : AllE (x :: P) es ls :=
  ⟨h.1, fun i y l hy hl => by
    rcases h.2 i y l hy hl with h1 | ⟨z, h1, h2⟩
    · exact Or.inl h1
    · exact Or.inr ⟨z, h1, List.mem_cons_of_mem _ h2⟩⟩
theorem AllP.mono {P : List (Nat × Nat × List (BitVec 8))} {hs : List (Nat × Nat)} {ps : List (Nat × List (BitVec 8))} (h : AllP P hs ps) (x : Nat × Nat × List (BitVec 8)) : AllP (x :: P) hs ps :=
  ⟨h.1, fun i y l hy hl => List.mem_cons_of_mem _ (h.2 i y l hy hl)⟩
theorem AllP.nil (P : List (Nat × Nat × List (BitVec 8))) : AllP P [] [] := ⟨rfl, by intro i x p h; simp at h⟩
theorem AllE.set {P : List (Nat × Nat × List (BitVec 8))} {es : List (Option (Nat × Nat))} {ls : List (List (BitVec 8))} (h : AllE P es ls) (a : Nat) {y : Nat × Nat} {l : List (BitVec 8)} (hy : (y.1, y.2, l) ∈ P) : AllE P (es.set a (some y)) (ls.set a l) := by
  refine ⟨by simp [h.1], fun i x m hx hm => ?_⟩
  by_cases hi : a = i
  · subst hi
    have hl : a < es.length := by have := (List.getElem?_eq_some_iff.1 hx).1; simpa using this
    rw [List.getElem?_set_self hl] at hx
    rw [List.getElem?_set_self (by rw [← h.1]; exact hl)] at hm
    cases hx; cases hm
    exact Or.inr ⟨y, rfl, hy⟩
  · rw [List.getElem?_set_ne hi] at hx hm
    exact h.2 i x m hx hm
theorem AllP.push {P : List (Nat × Nat × List (BitVec 8))} {hs : List (Nat × Nat)} {ps : List (Nat × List (BitVec 8))} (h : AllP P hs ps) (y : Nat × Nat) (p : Nat × List (BitVec 8)) : AllP ((y.1, y.2, p.2) :: P) (hs ++ [y]) (ps ++ [p]) := by
  refine ⟨by simp [h.1], fun i x q hx hq => ?_⟩
  by_cases hi : i < hs.length
  · rw [List.getElem?_append_left hi] at hx
    rw [List.getElem?_append_left (by rw [← h.1]; exact hi)] at hq
    exact List.mem_cons_of_mem _ (h.2 i x q hx hq)
  · have hi0 : i = hs.length := by
      have := (List.getElem?_eq_some_iff.1 hx).1
      simp at this; omega
    subst hi0
    rw [List.getElem?_append_right (Nat.le_refl _)] at hx
    rw [List.getElem?_append_right (by rw [h.1]; exact Nat.le_refl _)] at hq
    simp [h.1] at hx hq
    subst hx hq
    exact List.mem_cons_self
def Dk.rbox (D : Dk) (R : RLay) (q : Nat) : It := .box q #[.int .i64 (D.ls.length : Nat), R.lv, R.pv, .bool (!D.off), R.fv, .int .i64 (D.done : Nat), .int .i64 (D.claim : Nat)] 92
def rkl (q : Nat) (R : RLay) (D : Dk) (rest : List It) : List It :=
  D.rbox R q :: .lst 37 1 R.lv D.ls.length (R.es.map svo) :: .lst 89 2 R.pv D.ps.length (hcs D.ps R.hs) :: .lst 29 2 R.fv D.fs.length (fcs D.fs) :: .pool 5 R.P :: .fact (AllE R.P R.es D.ls ∧ AllP R.P R.hs D.ps) :: rest
def It.ref (q : Nat) (R : RLay) (D : Dk) : It := .grp (rkl q R D [])
theorem ref_iff {w W : World} {q : Nat} {R : RLay} {D : Dk} {rest : List It} : Bag w W (.ref q R D :: rest) ↔ Bag w W (rkl q R D rest) := Bag.grp_iff
section
variable {w W : World} {q : Nat} {R : RLay} {D : Dk} {rest : List It}
theorem rkCells (h : Bag w W (rkl q R D rest)) : W.cell? ⟨q, 0, none⟩ = some (.int .i64 (D.ls.length : Nat)) ∧ W.cell? ⟨q, 1, none⟩ = some R.lv ∧ W.cell? ⟨q, 2, none⟩ = some R.pv ∧ W.cell? ⟨q, 3, none⟩ = some (.bool (!D.off)) ∧ W.cell? ⟨q, 4, none⟩ = some R.fv ∧ W.cell? ⟨q, 5, none⟩ = some (.int .i64 (D.done : Nat)) ∧ W.cell? ⟨q, 6, none⟩ = some (.int .i64 (D.claim : Nat)) ∧ ∀ i, W.frozen? ⟨q, i, none⟩ = false :=
  cells7 (h.box 0 rfl)
theorem rkE (h : Bag w W (rkl q R D rest)) : AllE R.P R.es D.ls := (h.factOf 5 rfl).1
theorem rkP (h : Bag w W (rkl q R D rest)) : AllP R.P R.hs D.ps := (h.factOf 5 rfl).2
theorem rkLv (h : Bag w W (rkl q R D rest)) (hn : 1 ≤ D.ls.length) : ∃ g cap, R.lv = .slice (some ⟨g, 0, none⟩) D.ls.length cap ∧ D.ls.length ≤ cap ∧ (∀ i, W.frozen? ⟨g, i, none⟩ = false) ∧ ∀ (j : Nat) (x : Option (Nat × Nat)), R.es[j]? = some x → W.cell? ⟨g, j, none⟩ = some (svo x) := by
  have hE := rkE h
  obtain ⟨h1, h2⟩ := h.lst 1 rfl
  rcases h2 with ⟨_, h0⟩ | ⟨g, cap, cur, h3, _, hh, hc, _, hs, ht⟩
  · omega
  · refine ⟨g, cap, h3, hc, fun i => frozen_of_row W g i _ _ hh, fun j x hj => ?_⟩
    have hjl : j < D.ls.length := by have := (List.getElem?_eq_some_iff.1 hj).1; rw [hE.1] at this; exact this
    rw [cell_of_row W g j cur _ (0, 0) hh]
    have : (cur.toList.take (D.ls.length * 1))[j]? = (R.es.map svo)[j]? := by rw [ht]
    rw [List.getElem?_take_of_lt (by omega), List.getElem?_map, hj, Array.getElem?_toList] at this
    exact this
theorem rkPv (h : Bag w W (rkl q R D rest)) : ∃ ao cap, R.pv = .slice ao D.ps.length cap ∧ D.ps.length ≤ cap ∧ (0 < D.ps.length → ∃ g, ao = some ⟨g, 0, none⟩ ∧ ∀ (j : Nat) (p : Nat × List (BitVec 8)) (x : Nat × Nat), D.ps[j]? = some p → R.hs[j]? = some x → W.cell? ⟨g, j * 2, none⟩ = some (.int .i64 (p.1 : Nat)) ∧ W.cell? ⟨g, j * 2 + 1, none⟩ = some (svo (some x))) := by
  obtain ⟨ao, cap, h1, h2⟩ := h.lstForm2 2 rfl
  refine ⟨ao, cap, h1, h2, fun h0 => ?_⟩
  obtain ⟨g, cap', h3, _, h4⟩ := h.lstAt2 2 rfl h0
  rw [h1] at h3
  simp only [Value.slice.injEq, true_and] at h3
  obtain ⟨rfl, rfl⟩ := h3
  refine ⟨g, rfl, fun j p x hp hx => ?_⟩
  have hjl : j < D.ps.length := (List.getElem?_eq_some_iff.1 hp).1
  obtain ⟨e1, e2⟩ := h4 j hjl
  obtain ⟨c1, c2⟩ := hcs_get hp hx
  exact ⟨e1.trans c1, e2.trans c2⟩
theorem rkFv (h : Bag w W (rkl q R D rest)) : ∃ ao cap, R.fv = .slice ao D.fs.length cap ∧ D.fs.length ≤ cap ∧ Fd W ao D.fs := fdOf (h.holds 3 _ rfl)
theorem rkPut3 (h : Bag w W (rkl q R D rest)) (b : Bool) : Bag w (W.setCell ⟨q, 3, none⟩ (.bool (!b))) (rkl q R { D with off := b } rest) := h.put 0 rfl 3 _
theorem rkPut5 (h : Bag w W (rkl q R D rest)) (n : Nat) : Bag w (W.setCell ⟨q, 5, none⟩ (.int .i64 (n : Nat))) (rkl q R { D with done := n } rest) := h.put 0 rfl 5 _
theorem rkPut6 (h : Bag w W (rkl q R D rest)) (n : Nat) : Bag w (W.setCell ⟨q, 6, none⟩ (.int .i64 (n : Nat))) (rkl q R { D with claim := n } rest) := h.put 0 rfl 6 _
end
theorem owns512 {w : World} {B e n : Nat} {v : Value} {l : List (BitVec 8)} (h : w.ownsRow B e 1 v n (bts l)) (hl : l.length = n) (h0 : 0 < n) : ∃ g cap, v = .slice (some ⟨g, 0, none⟩) n cap ∧ n ≤ cap ∧ B ≤ g ∧ Own w g cap e l := by
  subst hl
  obtain ⟨ao, cap, rfl, hm⟩ := owns_mine h
  have hle := hm.le
  rcases hm with ⟨h1, _⟩ | ⟨g, rfl, hg, ho⟩
  · rw [h1] at h0; simp at h0
  · exact ⟨g, cap, rfl, hle, hg, ho⟩
/-- The document's copy of a sector. -/
theorem bytes512 (ao : Option Addr) (l : List (BitVec 8)) (c : Nat) (w : World) (hl : l.length = 512) (hr : Rd w ao l) :
   Calls Try.prog 32 #[.slice ao 512 c] w fun e w' => ∃ g cap, e = .returned (.slice (some ⟨g, 0, none⟩) 512 cap) ∧ w.heap.size ≤ g ∧ Own w' g cap 5 l ∧ Below w.heap.size w w' := by
  refine (bytesOf' ao l 512 c w hl (by omega) hr).mono ?_
  rintro e w' ⟨v, rfl, hown, hb⟩
  obtain ⟨g, cap, rfl, _, hg, hO⟩ := owns512 hown hl (by omega)
  exact ⟨g, cap, rfl, hg, hO, hb⟩
end Go.Proofs.Ytkndlpihhfjcpaa
