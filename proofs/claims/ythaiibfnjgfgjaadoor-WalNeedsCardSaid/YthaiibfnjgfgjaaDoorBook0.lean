/- A bag's things in another order; a kept list with what it was grown to; append of one byte, whatever happens. No program in sight. -/
import Derived.Test.YthaiibfnjgfgjaaDoorBagKey
import Derived.Deep.AppendSrc
namespace Go.Proofs.YthaiibfnjgfgjaaDoor
open Go.RowKit
theorem bag_iff {w W : World} {l : List It} : Bag w W l ↔ Below w.heap.size w W ∧ (∀ x ∈ l, x.holds W) ∧ (∀ x ∈ l, ∀ k, x.ats k → w.heap.size ≤ k) ∧ l.Pairwise It.off := by
  constructor
  · intro h
    refine ⟨h.below, fun x hx => ?_, fun x hx k hk => ?_, ?_⟩
    · obtain ⟨i, hi⟩ := List.mem_iff_getElem?.1 hx
      exact h.holds i x hi
    · obtain ⟨i, hi⟩ := List.mem_iff_getElem?.1 hx
      exact h.new i x k hi hk
    · rw [List.pairwise_iff_getElem]
      intro i j hi hj hij
      exact h.off i j _ _ (List.getElem?_eq_getElem hi) (List.getElem?_eq_getElem hj) (by omega)
  · rintro ⟨h1, h2, h3, h4⟩
    refine ⟨h1, fun i x hx => h2 x (List.mem_iff_getElem?.2 ⟨i, hx⟩), fun i x k hx hk => h3 x (List.mem_iff_getElem?.2 ⟨i, hx⟩) k hk, ?_⟩
    rw [List.pairwise_iff_getElem] at h4
    intro i j x y hx hy hij
    obtain ⟨hi, rfl⟩ := List.getElem?_eq_some_iff.1 hx
    obtain ⟨hj, rfl⟩ := List.getElem?_eq_some_iff.1 hy
    rcases Nat.lt_or_gt_of_ne hij with h | h
    · exact h4 i j hi hj h
    · exact It.off_symm (h4 j i hj hi h)
theorem Bag.perm {w W : World} {l l' : List It} (h : Bag w W l) (hp : l.Perm l') : Bag w W l' := by
  obtain ⟨h1, h2, h3, h4⟩ := bag_iff.1 h
  refine bag_iff.2 ⟨h1, fun x hx => h2 x (hp.mem_iff.2 hx), fun x hx => h3 x (hp.mem_iff.2 hx), ?_⟩
  exact (hp.pairwise_iff (fun h => It.off_symm h)).1 h4
/-- One thing out of many. -/
theorem Bag.mid {w W W' : World} {l1 l2 : List It} {x y : It} (h : Bag w W (l1 ++ x :: l2)) {S : Nat → Prop} (ho : Only S W W') (hS : ∀ k, S k → x.ats k) (hy : y.holds W') (hk : ∀ k, y.ats k → x.ats k ∨ W.heap.size ≤ k) : Bag w W' (l1 ++ y :: l2) := by
  have hx : (l1 ++ x :: l2)[l1.length]? = some x := by simp
  have := h.turn l1.length hx ho hS hy hk
  simpa using this
theorem Bag.midAt {w W : World} {l1 l2 : List It} {x : It} (h : Bag w W (l1 ++ x :: l2)) : x.holds W := h.holds l1.length x (by simp)
/-- A kept list, and what it was grown to (it may lie in the same block). -/
structure Ent where
  ao : Option Addr
  cap : Nat
  l : List (BitVec 8)
  go : Option Addr
  gc : Nat
  m : List (BitVec 8)
def Ent.v (E : Ent) : Value := .slice E.ao E.l.length E.cap
def Ent.g (E : Ent) : Value := .slice E.go E.m.length E.gc
def It.ent (e : TypeId) (E : Ent) : It where
  ats k := (∃ a, E.ao = some a ∧ a.block = k) ∨ ∃ a, E.go = some a ∧ a.block = k
  holds W := Mine W 0 e E.ao E.cap E.l ∧ Mine W 0 e E.go E.gc E.m ∧ ∀ a b, E.ao = some a → E.go = some b → a.block = b.block → E.l.length ≤ E.m.length
  lt := by
    rintro W k ⟨h1, h2, _⟩ (⟨a, ha, rfl⟩ | ⟨a, ha, rfl⟩)
    · exact h1.lt a ha
    · exact h2.lt a ha
  keep := by
    rintro W W' ⟨h1, h2, h3⟩ hk
    refine ⟨?_, ?_, h3⟩
    · rcases h1 with h | ⟨g, h4, hg, ho⟩
      · exact Or.inl h
      · exact Or.inr ⟨g, h4, hg, ho.kept (hk g (Or.inl ⟨_, h4, rfl⟩))⟩
    · rcases h2 with h | ⟨g, h4, hg, ho⟩
      · exact Or.inl h
      · exact Or.inr ⟨g, h4, hg, ho.kept (hk g (Or.inr ⟨_, h4, rfl⟩))⟩
/-- A byte behind the bytes of a row, in its room. -/
theorem Own.room {w : World} {g cap : Nat} {e : TypeId} {m : List (BitVec 8)} (h : Own w g cap e m) (x : BitVec 8) (hr : m.length < cap) : Own (w.setCell ⟨g, m.length, none⟩ (.int .u8 (n8 x))) g cap e (m ++ [x]) := by
  obtain ⟨cur, h1, h2, h3, h4⟩ := h
  refine ⟨_, heap_setCell_same w g m.length cur e _ h1, by simp [h2], by simp; omega, ?_⟩
  rw [bts_append, ← h4]
  have hlt : m.length < cur.toList.length := by simp; omega
  simp only [Array.toList_setIfInBounds, List.length_append, List.length_singleton]
  rw [List.take_succ_eq_append_getElem (by simpa using hlt)]
  congr 1
  · rw [List.take_set_of_le (Nat.le_refl _)]
  · simp [bts]
theorem Own.past {w : World} {g cap : Nat} {e : TypeId} {l : List (BitVec 8)} (h : Own w g cap e l) (i : Nat) (v : Value) (hi : l.length ≤ i) : Own (w.setCell ⟨g, i, none⟩ v) g cap e l := by
  obtain ⟨cur, h1, h2, h3, h4⟩ := h
  refine ⟨_, heap_setCell_same w g i cur e _ h1, by simp [h2], h3, ?_⟩
  rw [← h4]
  simp only [Array.toList_setIfInBounds]
  rw [List.take_set_of_le hi]
/-- append of one byte onto what a list was grown to. -/
theorem entAppend {P : Program} {W : World} (t ty e : TypeId) (i : TypeInfo) (ht : P.underlying t = some (.slice e)) (hi : P.info? e = some i) (hz : i.zero = some (.int .u8 0)) (hsize : i.size = 1) (hby : i.bytes = 1)
    (E : Ent) (h : (It.ent e E).holds W) (ad : Addr) (x : BitVec 8) (hx : W.cell? ad = some (.int .u8 (n8 x))) (hn : E.m.length + 1 ≤ 140737488355328) :
    ∃ go gc W', (Builtin.append_ #[t, t] ty #[E.g, .slice (some ad) 1 1]).run P W = .ok (.slice go (E.m.length + 1) gc) W' ∧ (It.ent e { E with go := go, gc := gc, m := E.m ++ [x] }).holds W' ∧ Only (It.ent e E).ats W W' ∧ ∀ a, go = some a → (E.go = some a ∨ W.heap.size ≤ a.block) := by
  obtain ⟨h1, h2, h3⟩ := h
  have hsrc : ∀ w, w.cell? ad = some (.int .u8 (n8 x)) → Src P i.size t (.slice (some ad) 1 1) 1 [.int .u8 (n8 x)] w := by
    intro w hw
    refine Src.ofSlice w ht ad 1 1 _ (by rw [hsize]; rfl) ?_ ?_
    · intro j u hj
      match j with
      | 0 =>
        simp at hj; subst hj
        obtain ⟨b, o, sp⟩ := ad
        exact hw
      | j + 1 => simp at hj
    · intro u hu
      simp at hu; subst hu; rfl
  have grow : ∀ (base : Option Addr) (cap : Nat), (E.go = base ∧ E.gc = cap) → cap < E.m.length + 1 → (Builtin.firstCells i.size E.m.length (.slice base E.m.length cap)).run P W.drew = .ok (bts E.m).toArray W.drew →
      ∃ go gc W', (Builtin.append_ #[t, t] ty #[E.g, .slice (some ad) 1 1]).run P W = .ok (.slice go (E.m.length + 1) gc) W' ∧ (It.ent e { E with go := go, gc := gc, m := E.m ++ [x] }).holds W' ∧ Only (It.ent e E).ats W W' ∧ ∀ a, go = some a → (E.go = some a ∨ W.heap.size ≤ a.block) := by
    rintro base cap ⟨rfl, rfl⟩ hc hold
    have hfit : Builtin.nextslicecap (E.m.length + 1) E.gc * i.bytes ≤ 281474976710656 := by rw [hby]; exact growslice_fits (by omega) (by omega)
    have hr := run_append_grow_src (P := P) W t t ty e i (.int .u8 0) ht hi hz E.go E.m.length E.gc (bts E.m) hold (.slice (some ad) 1 1) 1 _ (hsrc W hx) hc (by omega) hfit
    have hge := grownCap_ge W (E.m.length + 1) E.gc e
    have hb : Below W.heap.size W (W.drew.alloc (.cells ((bts E.m ++ [Value.int .u8 (n8 x)]).toArray ++ Builtin.zeroCells (Value.int .u8 0).cells (grownCap W (E.m.length + 1) E.gc e - (E.m.length + 1))) e)) := (Below.refl _ W).drew.alloc (Nat.le_refl _) _
    refine ⟨_, _, _, hr, ⟨h1.below hb, Or.inr ⟨W.heap.size, rfl, Nat.zero_le _, ⟨_, heap_alloc_new W.drew _, ?_, by simpa using hge, ?_⟩⟩, ?_⟩, Only.of_below hb, ?_⟩
    · have hz1 : (Value.int IntKind.u8 0).cells.size = 1 := rfl
      simp only [Array.size_append, List.size_toArray, size_zeroCells, hz1, List.length_append, bts_length, List.length_singleton]
      omega
    · simp only [Array.toList_append, bts_append]
      have e1 : bts [x] = [Value.int .u8 (n8 x)] := rfl
      rw [e1]
      refine List.take_left' ?_
      simp [bts_length]
    · intro a b ha hb2 hab
      cases hb2
      have := h1.lt a ha
      simp only at hab
      omega
    · intro a ha
      cases ha
      exact Or.inr (Nat.le_refl _)
  rcases h2 with ⟨hm, hg, hc⟩ | ⟨b, hg, _, ho⟩
  · refine grow none 0 ⟨hg, hc⟩ (by omega) ?_
    rw [hm]
    exact run_firstCells_none W.drew i.size 0 0 0
  · have ho' := ho
    obtain ⟨cur, c1, c2, c3, c4⟩ := ho
    by_cases hroom : E.m.length + 1 ≤ E.gc
    · have hcell : ∀ j, j < 1 → (W.cell? ⟨b, 0 + E.m.length * i.size + j, none⟩).isSome = true := by
        intro j hj
        rw [hsize, cell_of_row W b _ _ _ _ c1, Array.getElem?_eq_getElem (by omega)]
        rfl
      have hr := run_append_room_src (P := P) W t t ty e i ht hi b 0 E.m.length E.gc (.slice (some ad) 1 1) 1 [.int .u8 (n8 x)] (hsrc W hx) hroom (by simpa using hcell) (fun j _ => frozen_of_row W b _ _ _ c1)
      rw [← hg, hsize] at hr
      simp only [Nat.zero_add, Nat.mul_one, World.setCells] at hr
      refine ⟨_, _, _, hr, ⟨?_, Or.inr ⟨b, hg, Nat.zero_le _, ho'.room x (by omega)⟩, ?_⟩, (Only.setCell W b _ _).mono (fun k _ hk => Or.inr ⟨_, hg, hk.symm⟩), fun a ha => Or.inl ha⟩
      · rcases h1 with h | ⟨g, hg1, hg0, hog⟩
        · exact Or.inl h
        · refine Or.inr ⟨g, hg1, hg0, ?_⟩
          by_cases hgb : g = b
          · subst hgb
            exact hog.past _ _ (h3 _ _ hg1 hg rfl)
          · exact hog.setCell b _ _ hgb
      · intro a a' ha ha' hab
        have := h3 a a' ha ha' hab
        simp only [List.length_append]; omega
    · refine grow (some ⟨b, 0, none⟩) E.gc ⟨hg, rfl⟩ (by omega) ?_
      refine run_firstCells_some W.drew i.size E.m.length ⟨b, 0, none⟩ E.m.length E.gc (bts E.m) (by rw [hsize, bts_length, Nat.mul_one]) ?_
      intro j u hj
      have := ho'.rd.src j u hj
      exact this
end Go.Proofs.YthaiibfnjgfgjaaDoor
