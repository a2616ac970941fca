/- A list of bytes is handed to the Book. -/
import Derived.Test.YtjlhnepjpjlppaaGreatDoorBookE
namespace Go.Proofs.YtjlhnepjpjlppaaGreatDoor
open Go.RowKit
theorem ownsMineN {w : World} {B e : Nat} {v : Value} {n : Nat} {l : List (BitVec 8)} (h : w.ownsRow B e 1 v n (bts l)) (hn : l.length = n) : ∃ ao cap, v = .slice ao n cap ∧ Mine w B e ao cap l := by
  subst hn
  exact owns_mine h
theorem bkPut2 {w W : World} {l : List It} {p : Nat} {base pass : Int} {vB vW vG : Value} (h : Bag w W (.bk p base pass vB vW vG :: l)) (v : Value) : Bag w (W.setCell ⟨p, 2, none⟩ v) (.bk p base pass v vW vG :: l) := h.put 0 rfl 2 v
theorem bkPut3 {w W : World} {l : List It} {p : Nat} {base pass : Int} {vB vW vG : Value} (h : Bag w W (.bk p base pass vB vW vG :: l)) (v : Value) : Bag w (W.setCell ⟨p, 3, none⟩ v) (.bk p base pass vB v vG :: l) := h.put 0 rfl 3 v
set_option maxRecDepth 100000 in
set_option maxHeartbeats 2000000 in
theorem bookBytes0 (w W : World) (p : Nat) (base pass : Int) (vB vW vG : Value) (vs us : List Value) (rest : List It) (ao : Option Addr) (cap : Nat) (l : List (BitVec 8)) (hv : vs.length ≤ 1000000) (hu : us.length ≤ 1000000) (hl : l.length ≤ 1000000)
   (hB : Bag w W (.bk p base pass vB vW vG :: .ls 22 vB vs :: .ls 22 vW us :: .mine 5 ao cap l :: rest)) :
   Calls Tryz.prog 9 #[.pointer (some ⟨p, 0, none⟩), .slice ao l.length cap] W fun e W' => (∃ v, e = .returned v) ∧ ∃ vB' vW' aC cC,
     Bag w W' (.mine 5 aC cC l :: .bk p base pass vB' vW' vG :: .ls 22 vB' (vs ++ [.slice ao l.length cap]) :: .ls 22 vW' (us ++ [.slice aC l.length cC]) :: .mine 5 ao cap l :: rest) := by
  obtain ⟨is, his, hsz0, hsz1, hsz2⟩ := info_sl_parts
  obtain ⟨aB, cB, rfl, hcB⟩ := lsForm hB 1 rfl
  obtain ⟨aW, cW, rfl, hcW⟩ := lsForm hB 2 rfl
  obtain ⟨b2, f2⟩ := bkCell hB 2 (.slice aB vs.length cB) rfl
  obtain ⟨b3, f3⟩ := bkCell hB 3 (.slice aW us.length cW) rfl
  have hpl : p < W.heap.size := World.block_lt_of_cell? W _ b2
  obtain ⟨n, hn⟩ : ∃ n, vs.length = n := ⟨_, rfl⟩
  obtain ⟨m, hm⟩ : ∃ m, us.length = m := ⟨_, rfl⟩
  obtain ⟨q, hq⟩ : ∃ q, l.length = q := ⟨_, rfl⟩
  rw [hn] at hv hcB b2 hB
  rw [hm] at hu hcW b3 hB
  rw [hq] at hl
  have HN := Lib.hid hn
  have HM := Lib.hid hm
  have HQ := Lib.hid hq
  have HB := Lib.hid hB
  clear hB hn hm hq
  rw [HQ.out]
  go_enter Tryz.func9, Tryz.ntmps9
  go_wp2_with (at_builtin; refine Bag.append rfl (.tmp 8) (.tmp 10) 32 rfl 22 is _ 24 Tryz.underlying32 his hsz0 hsz1 hsz2 rfl 1 _ _ _ (HB.out.call ((Below.refl _ W).alloc (Nat.le_refl _) (.cells #[.slice ao q cap] 22))) rfl rfl ⟨W.heap.size, 0, none⟩ rfl (.slice ao q cap) ?_ rfl ?_ ?_ ?_; exact cell_new1 W _ _ _; (unfold maxLen; rw [HN.out]; omega); (rw [HN.out]; omega); intro g1 c1 W1 hB1 hs1; simp only [List.set_cons_succ, List.set_cons_zero] at hB1; rw [HN.out] at hB1; rw [HN.out]; have HB1 := Lib.hid hB1; obtain ⟨y2, z2⟩ := bkCell hB1 2 (.slice aB n cB) rfl; clear hB1)
  have HB2 := Lib.hid (show Bag w (W1.setCell ⟨p, 2, none⟩ (.slice (some ⟨g1, 0, none⟩) (n + 1) c1)) (.bk p base pass (.slice (some ⟨g1, 0, none⟩) (n + 1) c1) (.slice aW m cW) vG :: .ls 22 (.slice (some ⟨g1, 0, none⟩) (n + 1) c1) (vs ++ [.slice ao q cap]) :: .ls 22 (.slice aW m cW) us :: .mine 5 ao cap l :: rest) by
    have h0 := bkPut2 HB1.out (.slice (some ⟨g1, 0, none⟩) (n + 1) c1)
    unfold It.ls
    rw [show (vs ++ [Value.slice ao q cap]).length = n + 1 by rw [List.length_append, HN.out]; rfl]
    exact h0)
  generalize (W1.setCell ⟨p, 2, none⟩ (.slice (some ⟨g1, 0, none⟩) (n + 1) c1)) = W2 at *
  clear HB HB1 b2 f2 b3 f3 y2 z2 hs1 hpl
  obtain ⟨b3, f3⟩ := bkCell HB2.out 3 (.slice aW m cW) rfl
  have hpl : p < W2.heap.size := World.block_lt_of_cell? W2 _ b3
  go_region_law (first
    | (go_simp; go_at_call 21; refine (bytesOf' ao l q cap _ HQ.out (by rw [HQ.out]; omega) (HB2.out.drew.mineRd 3 rfl)).mono ?_; rintro e W3 ⟨v3, rfl, ho, hb⟩; obtain ⟨aC, cC, rfl, hmC⟩ := ownsMineN ho HQ.out; have HB3 := Lib.hid (HB2.out.drew.mine hb hmC); obtain ⟨b3', f3'⟩ := bkCell (HB2.out.drew.call hb) 3 (.slice aW m cW) rfl; have hpl' : p < W3.heap.size := World.block_lt_of_cell? W3 _ b3'; clear ho hmC hb)
    | (refine Bag.appendStep rfl _ _ 32 rfl 22 is _ 24 Tryz.underlying32 his hsz0 hsz1 hsz2 rfl 3 _ _ (HB3.out.call ((Below.refl _ W3).alloc (Nat.le_refl _) (.cells #[.slice aC q cC] 22))) rfl rfl ⟨W3.heap.size, 0, none⟩ rfl _ (cell_new1 W3 (.slice aC q cC) 22 (0, 0)) rfl (by rw [HM.out]; simp only [maxLen]; omega) (by rw [HM.out]; omega) ?_; intro gG cG' W4 hB4 hsz; simp only [List.set_cons_succ, List.set_cons_zero] at hB4; rw [HM.out] at hB4; rw [HM.out]; have z4 : W4.cell? ⟨p, 3, none⟩ = some (.slice aW m cW) := cell_of_row W4 p 3 _ _ _ (hB4.box 1 rfl); have zf : W4.frozen? ⟨p, 3, none⟩ = false := frozen_of_row W4 p 3 _ _ (hB4.box 1 rfl)))
  all_goals
    have h5 : Bag w (W4.setCell ⟨p, 3, none⟩ (.slice (some ⟨gG, 0, none⟩) (m + 1) cG')) (.mine 5 aC cC l :: .bk p base pass (.slice (some ⟨g1, 0, none⟩) (n + 1) c1) (.slice (some ⟨gG, 0, none⟩) (m + 1) cG') vG :: .ls 22 (.slice (some ⟨g1, 0, none⟩) (n + 1) c1) (vs ++ [.slice ao q cap]) :: .ls 22 (.slice (some ⟨gG, 0, none⟩) (m + 1) cG') (us ++ [.slice aC q cC]) :: .mine 5 ao cap l :: rest) := hB4.put 1 rfl 3 _
    refine bodyPost_end (results_none rfl _ _ _) rfl ?_
    exact ⟨⟨_, rfl⟩, _, _, aC, cC, h5⟩
/-- A list as it is handed to the Book. -/
def Ent.of (ao : Option Addr) (cap : Nat) (l : List (BitVec 8)) : Ent := ⟨ao, cap, l, none, 0, []⟩
theorem mine_ent {w W : World} {e : TypeId} {ao : Option Addr} {cap : Nat} {l : List (BitVec 8)} {x : It} {r : List It} (h : Bag w W (x :: .mine e ao cap l :: r)) : Bag w W (x :: It.ent e (.of ao cap l) :: r) := by
  refine Bag.mid (l1 := [x]) (l2 := r) h (Only.refl _ _) (S := fun _ => False) (fun _ hk => hk.elim) ⟨Bag.midAt (l1 := [x]) (l2 := r) h, Or.inl ⟨rfl, rfl, rfl⟩, fun _ _ _ hb => by cases hb⟩ ?_
  rintro j (⟨a, ha, rfl⟩ | ⟨a, ha, rfl⟩)
  · exact Or.inl ⟨a, ha, rfl⟩
  · cases ha
/-- What the Book holds: its own block, its lists, every list that was handed to it, every copy. -/
def bookIts (p : Nat) (base : Int) (vB vW : Value) (es : List Ent) (cs : List Cop) (rest : List It) : List It := .bk p base 0 vB vW (.slice none 0 0) :: .ls 22 vB (es.map Ent.v) :: .ls 22 vW (cs.map Cop.v) :: (es.map (It.ent 5) ++ (cs.map (It.cop 5) ++ rest))
/-- A Book in use: n lists at most, each of at most 1000000 bytes; the copies hold the same bytes. -/
def Booked (w W : World) (p n : Nat) (rest : List It) : Prop := ∃ vB vW es cs, (∀ E ∈ es, Raw E ∧ E.l.length ≤ 1000000) ∧ es.map Ent.l = cs.map Cop.l ∧ es.length ≤ n ∧ Bag w W (bookIts p 0 vB vW es cs rest)
theorem perm_new {α : Type} (c b v u m : α) (e d r : List α) : (c :: b :: v :: u :: m :: (e ++ (d ++ r))).Perm (b :: v :: u :: ((e ++ [m]) ++ ((d ++ [c]) ++ r))) := by
  have h1 : ((e ++ [m]) ++ ((d ++ [c]) ++ r)).Perm (c :: m :: (e ++ (d ++ r))) := by
    have e1 : ((e ++ [m]) ++ ((d ++ [c]) ++ r)) = (e ++ m :: d) ++ c :: r := by simp
    rw [e1]
    refine List.perm_middle.trans (List.Perm.cons c ?_)
    rw [List.append_assoc]
    exact List.perm_middle
  have h2 : (b :: v :: u :: ((e ++ [m]) ++ ((d ++ [c]) ++ r))).Perm (b :: v :: u :: c :: m :: (e ++ (d ++ r))) := ((h1.cons u).cons v).cons b
  have h3 : (b :: v :: u :: c :: m :: (e ++ (d ++ r))).Perm (b :: v :: c :: u :: m :: (e ++ (d ++ r))) := ((List.Perm.swap c u _).cons v).cons b
  have h4 : (b :: v :: c :: u :: m :: (e ++ (d ++ r))).Perm (b :: c :: v :: u :: m :: (e ++ (d ++ r))) := (List.Perm.swap c v _).cons b
  exact (((h2.trans h3).trans h4).trans (List.Perm.swap c b _)).symm
theorem perm_mine {α : Type} (b v u m : α) (e d r : List α) : (b :: v :: u :: (e ++ (d ++ m :: r))).Perm (b :: v :: u :: m :: (e ++ (d ++ r))) := by
  have h1 : (e ++ (d ++ m :: r)).Perm (m :: (e ++ (d ++ r))) := by
    rw [← List.append_assoc, ← List.append_assoc]
    exact List.perm_middle
  exact ((h1.cons u).cons v).cons b
theorem perm_to4 {α : Type} (a b c m : α) (r : List α) : (a :: b :: c :: m :: r).Perm (m :: a :: b :: c :: r) :=
  (((List.Perm.swap m c r).cons b).cons a).trans (((List.Perm.swap m b _).cons a).trans (List.Perm.swap m a _))
/-- A list of one's own is handed to the Book. -/
theorem bookBytes (w W : World) (p n : Nat) (rest : List It) (ao : Option Addr) (cap : Nat) (l : List (BitVec 8)) (hl : l.length ≤ 1000000) (hn : n < 1000000) (h : Booked w W p n (.mine 5 ao cap l :: rest)) :
   Calls Tryz.prog 9 #[.pointer (some ⟨p, 0, none⟩), .slice ao l.length cap] W fun e W' => (∃ v, e = .returned v) ∧ Booked w W' p (n + 1) rest := by
  obtain ⟨vB, vW, es, cs, h1, h2, h3, h4⟩ := h
  have hc : cs.length = es.length := by have := congrArg List.length h2; simpa using this.symm
  refine (bookBytes0 w W p 0 0 vB vW _ (es.map Ent.v) (cs.map Cop.v) _ ao cap l (by rw [List.length_map]; omega) (by rw [List.length_map]; omega) hl (h4.perm (perm_mine _ _ _ _ _ _ _))).mono ?_
  rintro e W' ⟨he, vB', vW', aC, cC, hB⟩
  refine ⟨he, vB', vW', es ++ [Ent.of ao cap l], cs ++ [(Cop.mk aC cC l)], ?_, by simp [h2, Ent.of], by simp; omega, ?_⟩
  · intro E hE
    rcases List.mem_append.1 hE with hE | hE
    · exact h1 E hE
    · simp only [List.mem_singleton] at hE
      subst hE
      exact ⟨⟨rfl, rfl, rfl⟩, hl⟩
  · have h5 : Bag w W' (It.cop 5 (Cop.mk aC cC l) :: .bk p 0 0 vB' vW' (.slice none 0 0) :: .ls 22 vB' ((es ++ [Ent.of ao cap l]).map Ent.v) :: .ls 22 vW' ((cs ++ [(Cop.mk aC cC l)]).map Cop.v) :: .mine 5 ao cap l :: (es.map (It.ent 5) ++ (cs.map (It.cop 5) ++ rest))) := by
      rw [List.map_append, List.map_append]
      exact hB
    have h6 := (h5.perm (perm_new _ _ _ _ _ _ _ _))
    have h7 := h6.perm (l' := It.cop 5 (Cop.mk aC cC l) :: .mine 5 ao cap l :: .bk p 0 0 vB' vW' (.slice none 0 0) :: .ls 22 vB' ((es ++ [Ent.of ao cap l]).map Ent.v) :: .ls 22 vW' ((cs ++ [(Cop.mk aC cC l)]).map Cop.v) :: (es.map (It.ent 5) ++ (cs.map (It.cop 5) ++ rest))) ((perm_new _ _ _ _ _ _ _ _).symm.trans (List.Perm.cons _ (perm_to4 _ _ _ _ _)))
    have h8 := mine_ent h7
    have h9 := h8.perm ((List.Perm.cons _ (perm_to4 _ _ _ _ _).symm).trans (perm_new _ _ _ _ _ _ _ _))
    unfold bookIts
    rw [List.map_append, List.map_append, List.map_append, List.map_append]
    rw [List.map_append, List.map_append] at h9
    exact h9
theorem bookDoneB (w W : World) (p n : Nat) (rest : List It) (hn : n ≤ 1000000) (h : Booked w W p n rest) :
   Calls Tryz.prog 14 #[.pointer (some ⟨p, 0, none⟩)] W fun e W' => e = .returned (.bool true) ∧ Bag w W' rest := by
  obtain ⟨vB, vW, es, cs, h1, h2, h3, h4⟩ := h
  exact bookFinish w W p 0 vB vW es cs rest h1 h2 (by omega) (by omega) h4
theorem bookDone (w W : World) (p n : Nat) (rest : List It) (hn : n ≤ 1000000) (h : Booked w W p n rest) :
   Calls Tryz.prog 14 #[.pointer (some ⟨p, 0, none⟩)] W fun e W' => e = .returned (.bool true) ∧ Below w.heap.size w W' := by
  exact (bookDoneB w W p n rest hn h).mono fun e W' h => ⟨h.1, h.2.below⟩
end Go.Proofs.YtjlhnepjpjlppaaGreatDoor
