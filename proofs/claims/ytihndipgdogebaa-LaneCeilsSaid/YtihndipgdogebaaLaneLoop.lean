/- A lane in a box that a loop turns by one call by number a round. -/
import Derived.Test.YtihndipgdogebaaLaneOps
import Derived.Deep.DeepCutAuto
namespace Go.Proofs.Ytihndipgdogebaa
open Go.RowKit
theorem Ro.kind {w : World} {b o : Nat} {l : List Ask} (h : Ro w (some ⟨b, o, none⟩) l) {k : Nat} (hk : k < l.length) {kd : Int} (he : (l.getD k Ask.none).kind = kd) : w.cell? ⟨b, o + k * 7, none⟩ = some (.int .i64 kd) := by
  rcases h with rfl | ⟨b', o', h1, hc⟩
  · simp at hk
  · cases h1
    rw [← he]
    exact (hc k hk).1
theorem newL_fits (key : List (BitVec 8)) (side : Int) (hl : key.length ≤ 140737488351232) : (newL key side).fits := by
  unfold newL
  split
  · exact ⟨hl, by simp, by simp, by simp, by simp, by simp, by simp, by simp, by simp, by simp⟩
  · exact fits_zero
theorem newL_len (key : List (BitVec 8)) (side : Int) (hl : key.length ≤ 140737488351232) : (newL key side).key.length ≤ 281474976710656 := by
  have := (newL_fits key side hl).len
  omega
/-- A lane in a box. -/
structure LaneBox (w wr : World) (b : Nat) (M : Ln) (ar : Option Addr) (cr : Nat) : Prop where
  bag : Bag w wr [.box b (M.cells ar cr) 27]
  rd : Rd wr ar M.key
  fits : M.fits
  lt : ∀ a, ar = some a → a.block < wr.heap.size ∧ a.block ≠ b
theorem Rd.fresh {w : World} {ao : Option Addr} {l : List (BitVec 8)} (h : Rd w ao l) (o : Obj) : Rd (w.alloc o).drew ao l := h.on (fresh1 w o).drew
theorem zbox {wr w' : World} {t : TypeId} {v0 v1 v2 v3 v4 v5 v6 v7 : Value} (hb : Below (wr.alloc (.cells #[v0, v1, v2, v3, v4, v5, v6, v7] t (0, 0))).drew.heap.size (wr.alloc (.cells #[v0, v1, v2, v3, v4, v5, v6, v7] t (0, 0))).drew w') :
    w'.cell? ⟨wr.heap.size, 0, none⟩ = some v0 ∧ w'.cell? ⟨wr.heap.size, 1, none⟩ = some v1 ∧ w'.cell? ⟨wr.heap.size, 2, none⟩ = some v2 ∧ w'.cell? ⟨wr.heap.size, 3, none⟩ = some v3 ∧ w'.cell? ⟨wr.heap.size, 4, none⟩ = some v4 ∧ w'.cell? ⟨wr.heap.size, 5, none⟩ = some v5 ∧ w'.cell? ⟨wr.heap.size, 6, none⟩ = some v6 ∧ w'.cell? ⟨wr.heap.size, 7, none⟩ = some v7 ∧ ∀ i, w'.frozen? ⟨wr.heap.size, i, none⟩ = false :=
  cells8 ((hb.block _ (by show _ < (wr.heap.push _).size; simp)).trans (heap_alloc_new wr _))
/-- The answer of a call, laid in a new box. -/
def StepBox (wr : World) (ao : Option Addr) (z : Ln) (p : Value) (wc : World) : Prop := ∃ (g : Nat) (ar : Option Addr) (cr : Nat), p = .pointer (some ⟨g, 0, none⟩) ∧ wr.heap.size ≤ g ∧ wc.heap[g]? = some (.cells (z.cells ar cr) 27 (0, 0)) ∧ Rd wc ar z.key ∧ (∀ a, ar = some a → (some a = ao ∨ wr.heap.size ≤ a.block) ∧ a.block < wc.heap.size ∧ a.block ≠ g) ∧ Below wr.heap.size wr wc
theorem step_late {wr w' : World} {ao ar : Option Addr} {cr : Nat} {Z : Ln} (hrd : Rd w' ar Z.key) (hfar : ∀ a, ar = some a → some a = ao ∨ wr.drew.heap.size ≤ a.block ∧ a.block < w'.heap.size) (hlt : ∀ a, ao = some a → a.block < wr.heap.size) (hb : Below wr.drew.heap.size wr.drew w') :
    StepBox wr ao Z (.pointer (some ⟨w'.heap.size, 0, none⟩)) (w'.alloc (.cells (Z.cells ar cr) 27 (0, 0))) := by
  have hb' : Below wr.heap.size wr w' := (Below.refl _ wr).drew.trans hb
  have hs := hb'.size
  refine ⟨_, ar, cr, rfl, hs, heap_alloc_new _ _, hrd.on (fresh1 w' _), ?_, hb'.alloc hs _⟩
  intro a ha
  rw [alloc_size]
  have h0 : wr.drew.heap.size = wr.heap.size := rfl
  rcases hfar a ha with h | h
  · have := hlt a h.symm; exact ⟨Or.inl h, by omega, by omega⟩
  · exact ⟨Or.inr (by omega), by omega, by omega⟩
theorem step_early {wr w' : World} {ao ar : Option Addr} {cr : Nat} {Z : Ln} {cs : Array Value} (hrd : Rd w' ar Z.key) (hcs : cs.size = 8) (hfar : ∀ a, ar = some a → some a = ao ∨ (wr.alloc (.cells cs 27 (0, 0))).drew.heap.size ≤ a.block ∧ a.block < w'.heap.size) (hlt : ∀ a, ao = some a → a.block < wr.heap.size)
    (hb : Below (wr.alloc (.cells cs 27 (0, 0))).drew.heap.size (wr.alloc (.cells cs 27 (0, 0))).drew w') :
    StepBox wr ao Z (.pointer (some ⟨wr.heap.size, 0, none⟩)) (Bag.setAll w' wr.heap.size 0 (Z.cells ar cr).toList) := by
  have hz : (wr.alloc (.cells cs 27 (0, 0))).drew.heap.size = wr.heap.size + 1 := alloc_size _ _
  have hb' : Below wr.heap.size wr w' := (fresh1 wr _).drew.trans (hb.mono (by rw [hz]; omega))
  have hs := hb.size
  rw [hz] at hs
  have hx : w'.heap[wr.heap.size]? = some (.cells cs 27 (0, 0)) := (hb.block _ (by rw [hz]; omega)).trans (heap_alloc_new wr _)
  have ho := Bag.setAll_only wr.heap.size (Z.cells ar cr).toList 0 w'
  have hsz := ho.size
  have hal : ∀ a, ar = some a → a.block ≠ wr.heap.size ∧ a.block < w'.heap.size := by
    intro a ha
    rcases hfar a ha with h | h
    · have := hlt a h.symm; omega
    · rw [hz] at h; omega
  refine ⟨_, ar, cr, rfl, Nat.le_refl _, ?_, hrd.only ho fun a ha => (hal a ha).1, fun a ha => ⟨(hfar a ha).imp id fun h => by rw [hz] at h; omega, Nat.lt_of_lt_of_le (hal a ha).2 hsz, (hal a ha).1⟩, hb'.trans (ho.below (B := wr.heap.size) (fun k hk => by rw [hk]; exact Nat.le_refl _) (by omega))⟩
  have hx' : w'.heap[wr.heap.size]? = some (.cells ⟨[] ++ cs.toList⟩ 27 (0, 0)) := by rw [hx]; simp
  have := Bag.setAll_heap wr.heap.size 27 (Z.cells ar cr).toList [] cs.toList w' hx' (by simp [hcs, Ln.cells])
  rw [List.nil_append] at this
  exact this
theorem step_late8 {wr w' : World} {ao ar : Option Addr} {cr : Nat} {k : List (BitVec 8)} {s c n e f x y : Int} (hrd : Rd w' ar k) (hfar : ∀ a, ar = some a → some a = ao ∨ wr.drew.heap.size ≤ a.block ∧ a.block < w'.heap.size) (hlt : ∀ a, ao = some a → a.block < wr.heap.size) (hb : Below wr.drew.heap.size wr.drew w') :
    StepBox wr ao ⟨k, s, c, n, e, f, x, y⟩ (.pointer (some ⟨w'.heap.size, 0, none⟩)) (w'.alloc (.cells #[.slice ar k.length cr, .int .i64 s, .int .i64 c, .int .i64 n, .int .u64 e, .int .u64 f, .int .i64 x, .int .i64 y] 27 (0, 0))) := step_late (Z := ⟨k, s, c, n, e, f, x, y⟩) hrd hfar hlt hb
theorem step_early8 {wr w' : World} {ao ar : Option Addr} {cr : Nat} {k : List (BitVec 8)} {s c n e f x y : Int} (hrd : Rd w' ar k) {cs : List Value} (hfar : ∀ a, ar = some a → some a = ao ∨ (wr.alloc (.cells cs.toArray 27 (0, 0))).drew.heap.size ≤ a.block ∧ a.block < w'.heap.size) (hlt : ∀ a, ao = some a → a.block < wr.heap.size)
    (hb : Below (wr.alloc (.cells cs.toArray 27 (0, 0))).drew.heap.size (wr.alloc (.cells cs.toArray 27 (0, 0))).drew w') (hcs : cs.length = 8) :
    StepBox wr ao ⟨k, s, c, n, e, f, x, y⟩ (.pointer (some ⟨wr.heap.size, 0, none⟩)) ((((((((w'.setCell ⟨wr.heap.size, 0, none⟩ (.slice ar k.length cr)).setCell ⟨wr.heap.size, 1, none⟩ (.int .i64 s)).setCell ⟨wr.heap.size, 2, none⟩ (.int .i64 c)).setCell ⟨wr.heap.size, 3, none⟩ (.int .i64 n)).setCell ⟨wr.heap.size, 4, none⟩ (.int .u64 e)).setCell ⟨wr.heap.size, 5, none⟩ (.int .u64 f)).setCell ⟨wr.heap.size, 6, none⟩ (.int .i64 x)).setCell ⟨wr.heap.size, 7, none⟩ (.int .i64 y)) := step_early (Z := ⟨k, s, c, n, e, f, x, y⟩) hrd (by simpa using hcs) hfar hlt hb
theorem Bag.one {w W : World} {l : List It} (h : Bag w W l) (i : Nat) {x : It} (hx : l[i]? = some x) : Bag w W [x] := by
  refine h.sub (fun _ => i) ?_ ?_
  · intro j y hy
    match j with
    | 0 => simp at hy; subst hy; exact hx
    | j + 1 => simp at hy
  · intro a b ha hb _
    simp at ha hb
    omega
/-- A key lies so, off the block b. -/
structure KeyAt (W : World) (ar : Option Addr) (key : List (BitVec 8)) (b : Nat) : Prop where
  rd : Rd W ar key
  off : ∀ a, ar = some a → a.block < W.heap.size ∧ a.block ≠ b
theorem KeyAt.on {W W' : World} {ar : Option Addr} {key : List (BitVec 8)} {b : Nat} (h : KeyAt W ar key b) (hb : Below W.heap.size W W') : KeyAt W' ar key b :=
  ⟨h.rd.on hb, fun a ha => ⟨Nat.lt_of_lt_of_le (h.off a ha).1 hb.size, (h.off a ha).2⟩⟩
theorem KeyAt.only {W W' : World} {ar : Option Addr} {key : List (BitVec 8)} {b : Nat} (h : KeyAt W ar key b) (hb : Only (fun k => k = b) W W') : KeyAt W' ar key b :=
  ⟨h.rd.only hb fun a ha => (h.off a ha).2, fun a ha => ⟨Nat.lt_of_lt_of_le (h.off a ha).1 hb.size, (h.off a ha).2⟩⟩
theorem LaneBox.keyAt {w wr wc : World} {b g : Nat} {M : Ln} {ar ar2 : Option Addr} {cr : Nat} {l : List (BitVec 8)} (h : LaneBox w wr b M ar cr) (hrd : Rd wc ar2 l) (hat : ∀ a, ar2 = some a → (some a = ar ∨ wr.heap.size ≤ a.block) ∧ a.block < wc.heap.size ∧ a.block ≠ g) : KeyAt wc ar2 l b := by
  have hl := h.bag.boxLt 0 rfl
  refine ⟨hrd, fun a ha => ⟨(hat a ha).2.1, ?_⟩⟩
  rcases (hat a ha).1 with h1 | h1
  · exact (h.lt a h1.symm).2
  · omega
theorem KeyAt.shut {w W : World} {l : List It} {b : Nat} {Z : Ln} {ar : Option Addr} {cs : Array Value} (h : KeyAt W ar Z.key b) (cr : Nat) (hB : Bag w W l) (i : Nat) (hi : l[i]? = some (.box b cs 27)) (hcs : cs.size = 8) (hf : Z.fits) : LaneBox w (Bag.setAll W b 0 (Z.cells ar cr).toList) b Z ar cr := by
  have h1 := hB.store i hi (Z.cells ar cr).toList hcs
  have ho := Bag.setAll_only b (Z.cells ar cr).toList 0 W
  have hil := (List.getElem?_eq_some_iff.1 hi).1
  have h2 := h.only ho
  exact ⟨h1.one i (by rw [List.getElem?_set]; simp [hil]), h2.rd, hf, h2.off⟩
end Go.Proofs.Ytihndipgdogebaa
