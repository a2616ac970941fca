/- The reference's copy of a lane. -/
import Derived.Test.YtihndipgdogebaaLane3
import Derived.Test.YtihndipgdogebaaBytes2
import Derived.Test.YtihndipgdogebaaKit
namespace Go.Proofs.Ytihndipgdogebaa
open Go.RowKit
theorem box2_heap {w w2 : World} {cs1 cs2 : Array Value} {t1 t2 : TypeId} (hb : Below ((w.alloc (.cells cs1 t1)).alloc (.cells cs2 t2)).heap.size ((w.alloc (.cells cs1 t1)).alloc (.cells cs2 t2)) w2) :
    w2.heap[w.heap.size]? = some (.cells cs1 t1 (0, 0)) ∧ w2.heap[w.heap.size + 1]? = some (.cells cs2 t2 (0, 0)) := by
  have hs : (w.alloc (.cells cs1 t1)).heap.size = w.heap.size + 1 := by show (w.heap.push _).size = _; simp
  have hs2 : ((w.alloc (.cells cs1 t1)).alloc (.cells cs2 t2)).heap.size = w.heap.size + 2 := by
    show ((w.alloc (.cells cs1 t1)).heap.push _).size = _; simp [hs]
  rw [hs2] at hb
  constructor
  · rw [hb.block _ (by omega), alloc_old _ _ _ (by omega)]
    exact heap_alloc_new w _
  · rw [hb.block _ (by omega), ← hs]
    exact heap_alloc_new _ _
theorem refLane (L : Ln) (ao : Option Addr) (cap : Nat) (w : World) (hl : L.key.length ≤ 140737488351232) (hr : Rd w ao L.key) :
   Calls Try.prog 54 #[L.val ao cap] w fun e w' => ∃ ao' cap', e = .returned (L.val ao' cap') ∧ Mine w' w.heap.size 5 ao' cap' L.key ∧ Below w.heap.size w w' := by
  obtain ⟨key, side, cur, next, send, ceil, sec, nano⟩ := L
  unfold Ln.val
  simp only at hl hr ⊢
  go_enter Try.func54, Try.ntmps54
  go_wp2_with fail
  refine (bytesOf ao key cap _ hl (hr.on (fresh2 w _ _))).mono ?_
  rintro e w1 ⟨v, rfl, hown, hb⟩
  obtain ⟨ar, cr, rfl, hm⟩ := owns_mine hown
  clear hown
  obtain ⟨x1, x2⟩ := box2_heap hb
  have a (i : Nat) := cell_of_row w1 w.heap.size i _ _ _ x1
  have b (i : Nat) := cell_of_row w1 (w.heap.size + 1) i _ _ _ x2
  have a0 := a 0
  have a1 : w1.cell? ⟨w.heap.size, 1, none⟩ = some (.int .i64 side) := a 1
  have a2 : w1.cell? ⟨w.heap.size, 2, none⟩ = some (.int .i64 cur) := a 2
  have a3 : w1.cell? ⟨w.heap.size, 3, none⟩ = some (.int .i64 next) := a 3
  have a4 : w1.cell? ⟨w.heap.size, 4, none⟩ = some (.int .u64 send) := a 4
  have a5 : w1.cell? ⟨w.heap.size, 5, none⟩ = some (.int .u64 ceil) := a 5
  have a6 : w1.cell? ⟨w.heap.size, 6, none⟩ = some (.int .i64 sec) := a 6
  have a7 : w1.cell? ⟨w.heap.size, 7, none⟩ = some (.int .i64 nano) := a 7
  have b0 : w1.cell? ⟨w.heap.size + 1, 0, none⟩ = some (.slice none 0 0) := b 0
  have b1 : w1.cell? ⟨w.heap.size + 1, 1, none⟩ = some (.int .i64 0) := b 1
  have b2 : w1.cell? ⟨w.heap.size + 1, 2, none⟩ = some (.int .i64 0) := b 2
  have b3 : w1.cell? ⟨w.heap.size + 1, 3, none⟩ = some (.int .i64 0) := b 3
  have b4 : w1.cell? ⟨w.heap.size + 1, 4, none⟩ = some (.int .u64 0) := b 4
  have b5 : w1.cell? ⟨w.heap.size + 1, 5, none⟩ = some (.int .u64 0) := b 5
  have b6 : w1.cell? ⟨w.heap.size + 1, 6, none⟩ = some (.int .i64 0) := b 6
  have b7 : w1.cell? ⟨w.heap.size + 1, 7, none⟩ = some (.int .i64 0) := b 7
  have fa (i : Nat) := frozen_of_row w1 w.heap.size i _ _ x1
  have fb (i : Nat) := frozen_of_row w1 (w.heap.size + 1) i _ _ x2
  clear a b
  have hB := (fresh2 w _ _).trans (hb.mono (by have := (fresh2 w (.cells #[.slice ao key.length cap, .int .i64 side, .int .i64 cur, .int .i64 next, .int .u64 send, .int .u64 ceil, .int .i64 sec, .int .i64 nano] 27 (0, 0)) (.cells #[.slice none 0 0, .int .i64 0, .int .i64 0, .int .i64 0, .int .u64 0, .int .u64 0, .int .i64 0, .int .i64 0] 27 (0, 0))).size; exact this))
  have hz := Lib.hid (show ((w.alloc (.cells #[.slice ao key.length cap, .int .i64 side, .int .i64 cur, .int .i64 next, .int .u64 send, .int .u64 ceil, .int .i64 sec, .int .i64 nano] 27 (0, 0))).alloc (.cells #[.slice none 0 0, .int .i64 0, .int .i64 0, .int .i64 0, .int .u64 0, .int .u64 0, .int .i64 0, .int .i64 0] 27 (0, 0))).heap.size = w.heap.size + 2 by show ((w.heap.push _).push _).size = _; simp)
  go_wp2_with fail
  refine bodyPost_ret (v := .agg #[.slice ar key.length cr, .int .i64 side, .int .i64 cur, .int .i64 next, .int .u64 send, .int .u64 ceil, .int .i64 sec, .int .i64 nano]) (by simp [results, Try.results54, go_sem, b0, b1, b2, b3, b4, b5, b6, b7]) rfl ⟨_, _, rfl, ?_, ?_⟩
  · rw [hz.out] at hm
    refine Mine.from (B := w.heap.size + 2) ?_ (by omega)
    iterate 9 (refine Mine.setCell ?_ _ _ _ (by omega))
    exact hm
  · iterate 9 (refine Below.set ?_ _ _ _ (by omega))
    exact hB
end Go.Proofs.Ytihndipgdogebaa
