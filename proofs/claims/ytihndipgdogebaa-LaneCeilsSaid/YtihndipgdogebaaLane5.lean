/- changed: a copy of the lane that the closure has changed. -/
import Derived.Test.YtihndipgdogebaaLane4
namespace Go.Proofs.Ytihndipgdogebaa
open Go.RowKit
def Ln.zero : Ln := ⟨[], 0, 0, 0, 0, 0, 0, 0⟩
/-- Its cells. -/
def Ln.cells (L : Ln) (ao : Option Addr) (cap : Nat) : Array Value :=
  #[.slice ao L.key.length cap, .int .i64 L.side, .int .i64 L.cur, .int .i64 L.next, .int .u64 L.send, .int .u64 L.ceil, .int .i64 L.sec, .int .i64 L.nano]
theorem hb_block {B : Nat} {w w' : World} (h : Below B w w') (k : Nat) (hk : k < B) : w'.heap[k]? = w.heap[k]? := h.block k hk
def Ln.keep (L : Ln) (cur next send ceil sec nano : Int) : Ln := ⟨L.key, L.side, cur, next, send, ceil, sec, nano⟩
/-- What a closure does to the lane at g. -/
def Turns (w : World) (g : Nat) (cs : Array Value) (e : Ending) (w' : World) : Prop := e = .returned (.tuple #[]) ∧ w'.heap[g]? = some (.cells cs 27 (0, 0)) ∧ Only (fun k => k = g) w w'
theorem key32 {L : Ln} (h : L.ok = true) : L.key.length = 32 := by
  simp only [Ln.ok, Bool.and_eq_true, decide_eq_true_eq] at h
  exact h.1.1.1
theorem laneChanged0 (L : Ln) (ao : Option Addr) (cap : Nat) (may : Bool) (fv : Value) (w : World) (hs : L.sec ≤ 9223372036854775807) (hno : (may && L.ok) = false) :
   Calls Try.prog 46 #[L.val ao cap, .bool may, fv] w fun e w' => e = .returned (Ln.zero.val none 0) ∧ Below w.heap.size w w' := by
  obtain ⟨key, side, cur, next, send, ceil, sec, nano⟩ := L
  unfold Ln.val Ln.zero
  simp only at hs ⊢
  have Hn := Lib.hid hno
  clear hno
  cases may with
  | false =>
    go_enter Try.func46, Try.ntmps46
    go_wp2_with fail
    refine bodyPost_ret (v := .agg #[.slice none 0 0, .int .i64 0, .int .i64 0, .int .i64 0, .int .u64 0, .int .u64 0, .int .i64 0, .int .i64 0]) (by simp [results, Try.results46, go_sem]) rfl ⟨rfl, ?_⟩
    exact fresh2 _ _ _
  | true =>
    go_enter Try.func46, Try.ntmps46
    go_wp2_with fail
    refine (laneValid ⟨key, side, cur, next, send, ceil, sec, nano⟩ ao cap hs _).mono ?_
    rintro e w1 ⟨rfl, hb⟩
    rw [show Ln.ok _ = false from Hn.out]
    obtain ⟨x1, x2⟩ := box2_heap hb
    have hB := (fresh2 w _ _).trans (hb.mono (fresh2 w _ _).size)
    clear hb
    have b0 : w1.cell? ⟨w.heap.size + 1, 0, none⟩ = some (.slice none 0 0) := cell_of_row w1 (w.heap.size + 1) 0 _ _ _ x2
    have b1 : w1.cell? ⟨w.heap.size + 1, 1, none⟩ = some (.int .i64 0) := cell_of_row w1 (w.heap.size + 1) 1 _ _ _ x2
    have b2 : w1.cell? ⟨w.heap.size + 1, 2, none⟩ = some (.int .i64 0) := cell_of_row w1 (w.heap.size + 1) 2 _ _ _ x2
    have b3 : w1.cell? ⟨w.heap.size + 1, 3, none⟩ = some (.int .i64 0) := cell_of_row w1 (w.heap.size + 1) 3 _ _ _ x2
    have b4 : w1.cell? ⟨w.heap.size + 1, 4, none⟩ = some (.int .u64 0) := cell_of_row w1 (w.heap.size + 1) 4 _ _ _ x2
    have b5 : w1.cell? ⟨w.heap.size + 1, 5, none⟩ = some (.int .u64 0) := cell_of_row w1 (w.heap.size + 1) 5 _ _ _ x2
    have b6 : w1.cell? ⟨w.heap.size + 1, 6, none⟩ = some (.int .i64 0) := cell_of_row w1 (w.heap.size + 1) 6 _ _ _ x2
    have b7 : w1.cell? ⟨w.heap.size + 1, 7, none⟩ = some (.int .i64 0) := cell_of_row w1 (w.heap.size + 1) 7 _ _ _ x2
    have bf (i : Nat) : w1.frozen? ⟨w.heap.size + 1, i, none⟩ = false := frozen_of_row w1 (w.heap.size + 1) i _ _ x2
    clear x1 x2
    go_wp2_with fail
    refine bodyPost_ret (v := .agg #[.slice none 0 0, .int .i64 0, .int .i64 0, .int .i64 0, .int .u64 0, .int .u64 0, .int .i64 0, .int .i64 0]) (by simp [results, Try.results46, go_sem, b0, b1, b2, b3, b4, b5, b6, b7]) rfl ⟨rfl, ?_⟩
    iterate 8 (refine Below.set ?_ _ _ _ (by omega))
    exact hB
set_option maxHeartbeats 800000 in
theorem laneChanged1 (L : Ln) (cur' next' send' ceil' sec' nano' : Int) (ao : Option Addr) (cap : Nat) (fc : Nat) (caps : Array Value) (w : World) (hs : L.sec ≤ 9223372036854775807) (hok : L.ok = true) (hr : Rd w ao L.key) (he : ∀ (args : Array Value) (u : World), Sem.run Try.prog (callFunc fc args) u = .ok (.enter fc args) u)
   (hf : ∀ (w1 : World) (g : Nat) (ar : Option Addr) (cr : Nat), Below w.heap.size w w1 → w.heap.size ≤ g → w1.heap[g]? = some (.cells (L.cells ar cr) 27 (0, 0)) → Calls Try.prog fc (#[.pointer (some ⟨g, 0, none⟩)] ++ caps) w1 (Turns w1 g ((L.keep cur' next' send' ceil' sec' nano').cells ar cr))) :
   Calls Try.prog 46 #[L.val ao cap, .bool true, .func (.func fc) #[] caps] w fun e w' => ∃ ao' cap', e = .returned ((L.keep cur' next' send' ceil' sec' nano').val ao' cap') ∧ Mine w' w.heap.size 5 ao' cap' L.key ∧ Below w.heap.size w w' := by
  have hl := key32 hok
  obtain ⟨key, side, cur, next, send, ceil, sec, nano⟩ := L
  unfold Ln.val
  unfold Ln.keep Ln.cells at *
  simp only at hs hr hf hl ⊢
  obtain ⟨i0, hi, hz0, hz1, hz2⟩ := info_parts info_u8
  have HL := Lib.hid hl
  have hl2 : key.length ≤ 32 := by omega
  have HO := Lib.hid hok
  have HF := Lib.hid hf
  clear hl hok hf
  go_enter Try.func46, Try.ntmps46
  go_wp2_with fail
  refine (laneValid ⟨key, side, cur, next, send, ceil, sec, nano⟩ ao cap hs _).mono ?_
  rintro e w1 ⟨rfl, hb⟩
  rw [HO.out]
  obtain ⟨x1, x2⟩ := box2_heap hb
  have hB := (fresh2 w _ _).trans (hb.mono (fresh2 w _ _).size)
  have hz : w.heap.size + 2 ≤ w1.heap.size := by
    have := hb.size
    have h2 : ((w.alloc (.cells #[.slice ao key.length cap, .int .i64 side, .int .i64 cur, .int .i64 next, .int .u64 send, .int .u64 ceil, .int .i64 sec, .int .i64 nano] 27 (0, 0))).alloc (.cells #[.slice none 0 0, .int .i64 0, .int .i64 0, .int .i64 0, .int .u64 0, .int .u64 0, .int .i64 0, .int .i64 0] 27 (0, 0))).heap.size = w.heap.size + 2 := by show ((w.heap.push _).push _).size = _; simp
    rw [h2] at this
    exact this
  clear hb
  have a0 : w1.cell? ⟨w.heap.size, 0, none⟩ = some (.slice ao key.length cap) := cell_of_row w1 (w.heap.size) 0 _ _ _ x1
  have a1 : w1.cell? ⟨w.heap.size, 1, none⟩ = some (.int .i64 side) := cell_of_row w1 (w.heap.size) 1 _ _ _ x1
  have a2 : w1.cell? ⟨w.heap.size, 2, none⟩ = some (.int .i64 cur) := cell_of_row w1 (w.heap.size) 2 _ _ _ x1
  have a3 : w1.cell? ⟨w.heap.size, 3, none⟩ = some (.int .i64 next) := cell_of_row w1 (w.heap.size) 3 _ _ _ x1
  have a4 : w1.cell? ⟨w.heap.size, 4, none⟩ = some (.int .u64 send) := cell_of_row w1 (w.heap.size) 4 _ _ _ x1
  have a5 : w1.cell? ⟨w.heap.size, 5, none⟩ = some (.int .u64 ceil) := cell_of_row w1 (w.heap.size) 5 _ _ _ x1
  have a6 : w1.cell? ⟨w.heap.size, 6, none⟩ = some (.int .i64 sec) := cell_of_row w1 (w.heap.size) 6 _ _ _ x1
  have a7 : w1.cell? ⟨w.heap.size, 7, none⟩ = some (.int .i64 nano) := cell_of_row w1 (w.heap.size) 7 _ _ _ x1
  have af (i : Nat) : w1.frozen? ⟨w.heap.size, i, none⟩ = false := frozen_of_row w1 (w.heap.size) i _ _ x1
  go_wp2_with (at_make; refine wpList_make_bytes rfl _ _ 22 rfl 5 i0 Try.underlying22 hi hz0 hz1 hz2 .i64 .i64 key.length (by go_num) (by go_num) (by omega) ?_)
  intro w2 hO hs2 hB2
  clear a0 a1 a2 a3 a4 a5 a6 a7 af
  have x1' := (hB2.block w.heap.size (by omega) (fun h => h)).trans x1
  have x2' := (hB2.block (w.heap.size + 1) (by omega) (fun h => h)).trans x2
  clear x1 x2
  have a0 : w2.cell? ⟨w.heap.size, 0, none⟩ = some (.slice ao key.length cap) := cell_of_row w2 (w.heap.size) 0 _ _ _ x1'
  have a1 : w2.cell? ⟨w.heap.size, 1, none⟩ = some (.int .i64 side) := cell_of_row w2 (w.heap.size) 1 _ _ _ x1'
  have a2 : w2.cell? ⟨w.heap.size, 2, none⟩ = some (.int .i64 cur) := cell_of_row w2 (w.heap.size) 2 _ _ _ x1'
  have a3 : w2.cell? ⟨w.heap.size, 3, none⟩ = some (.int .i64 next) := cell_of_row w2 (w.heap.size) 3 _ _ _ x1'
  have a4 : w2.cell? ⟨w.heap.size, 4, none⟩ = some (.int .u64 send) := cell_of_row w2 (w.heap.size) 4 _ _ _ x1'
  have a5 : w2.cell? ⟨w.heap.size, 5, none⟩ = some (.int .u64 ceil) := cell_of_row w2 (w.heap.size) 5 _ _ _ x1'
  have a6 : w2.cell? ⟨w.heap.size, 6, none⟩ = some (.int .i64 sec) := cell_of_row w2 (w.heap.size) 6 _ _ _ x1'
  have a7 : w2.cell? ⟨w.heap.size, 7, none⟩ = some (.int .i64 nano) := cell_of_row w2 (w.heap.size) 7 _ _ _ x1'
  have af (i : Nat) : w2.frozen? ⟨w.heap.size, i, none⟩ = false := frozen_of_row w2 (w.heap.size) i _ _ x1'
  have hr2 := (hr.on hB).only hB2 (fun _ _ h => h)
  go_wp2_with (with_reducible refine wpList_copy_bytes rfl (.tmp 20) (.tmp 22) 22 22 rfl 5 i0 Try.underlying22 hi hz1 w1.heap.size key.length key.length ao key.length cap ?hd ?hs key.length 5 (List.replicate key.length 0#8) key ?hO ?hL ?hr rfl ?hmn ?_)
  case hd => rfl
  case hs => rfl
  case hO => exact hO
  case hL => simp
  case hr => exact hr2
  case hmn => omega
  intro w3 hO3 hs3 hB3
  clear a0 a1 a2 a3 a4 a5 a6 a7 af
  have x1 := (hB3.block w.heap.size (by omega) (by omega)).trans x1'
  have x2 := (hB3.block (w.heap.size + 1) (by omega) (by omega)).trans x2'
  have hB3' : Below w.heap.size w w3 := hB.trans (((hB2.mono (T := fun k => k = w1.heap.size) (fun _ _ h => h.elim)).trans hB3).below (fun _ h => by omega) (by omega))
  have hO4 : Own w3 w1.heap.size key.length 5 key := by simpa using hO3
  clear x1' x2' hO hO3 hr hr2 hB
  have a0 : w3.cell? ⟨w.heap.size, 0, none⟩ = some (.slice ao key.length cap) := cell_of_row w3 (w.heap.size) 0 _ _ _ x1
  have a1 : w3.cell? ⟨w.heap.size, 1, none⟩ = some (.int .i64 side) := cell_of_row w3 (w.heap.size) 1 _ _ _ x1
  have a2 : w3.cell? ⟨w.heap.size, 2, none⟩ = some (.int .i64 cur) := cell_of_row w3 (w.heap.size) 2 _ _ _ x1
  have a3 : w3.cell? ⟨w.heap.size, 3, none⟩ = some (.int .i64 next) := cell_of_row w3 (w.heap.size) 3 _ _ _ x1
  have a4 : w3.cell? ⟨w.heap.size, 4, none⟩ = some (.int .u64 send) := cell_of_row w3 (w.heap.size) 4 _ _ _ x1
  have a5 : w3.cell? ⟨w.heap.size, 5, none⟩ = some (.int .u64 ceil) := cell_of_row w3 (w.heap.size) 5 _ _ _ x1
  have a6 : w3.cell? ⟨w.heap.size, 6, none⟩ = some (.int .i64 sec) := cell_of_row w3 (w.heap.size) 6 _ _ _ x1
  have a7 : w3.cell? ⟨w.heap.size, 7, none⟩ = some (.int .i64 nano) := cell_of_row w3 (w.heap.size) 7 _ _ _ x1
  have af (i : Nat) : w3.frozen? ⟨w.heap.size, i, none⟩ = false := frozen_of_row w3 (w.heap.size) i _ _ x1
  go_wp2_with fail
  have y1 := heap_setCell_same w3 w.heap.size 0 _ _ (.slice (some ⟨w1.heap.size, 0, none⟩) key.length key.length) x1
  have y2 := (heap_setCell_other w3 ⟨w.heap.size, 0, none⟩ (w.heap.size + 1) (.slice (some ⟨w1.heap.size, 0, none⟩) key.length key.length) (by simp)).trans x2
  have hO5 := hO4.setCell w.heap.size 0 (.slice (some ⟨w1.heap.size, 0, none⟩) key.length key.length) (by omega)
  have hB5 := Below.set hB3' w.heap.size 0 (.slice (some ⟨w1.heap.size, 0, none⟩) key.length key.length) (Nat.le_refl _)
  have hz5 : (w3.setCell ⟨w.heap.size, 0, none⟩ (.slice (some ⟨w1.heap.size, 0, none⟩) key.length key.length)).heap.size = w3.heap.size := by simp [World.setCell]
  refine (HF.out _ w.heap.size (some ⟨w1.heap.size, 0, none⟩) key.length hB5 (Nat.le_refl _) y1).mono ?_
  rintro e w4 ⟨rfl, z1, hB4⟩
  have z2 := (hB4.block (w.heap.size + 1) (by omega) (by omega)).trans y2
  have hO6 := hO5.only hB4 (by omega)
  have hB6 := hB5.trans (hB4.below (B := w.heap.size) (fun _ h => by omega) (by omega))
  clear y1 y2 hO5 hB5 hz5 hB4 hO4 hB3' x1 x2
  clear a0 a1 a2 a3 a4 a5 a6 a7 af
  have a0 : w4.cell? ⟨w.heap.size, 0, none⟩ = some (.slice (some ⟨w1.heap.size, 0, none⟩) key.length key.length) := cell_of_row w4 (w.heap.size) 0 _ _ _ z1
  have a1 : w4.cell? ⟨w.heap.size, 1, none⟩ = some (.int .i64 side) := cell_of_row w4 (w.heap.size) 1 _ _ _ z1
  have a2 : w4.cell? ⟨w.heap.size, 2, none⟩ = some (.int .i64 cur') := cell_of_row w4 (w.heap.size) 2 _ _ _ z1
  have a3 : w4.cell? ⟨w.heap.size, 3, none⟩ = some (.int .i64 next') := cell_of_row w4 (w.heap.size) 3 _ _ _ z1
  have a4 : w4.cell? ⟨w.heap.size, 4, none⟩ = some (.int .u64 send') := cell_of_row w4 (w.heap.size) 4 _ _ _ z1
  have a5 : w4.cell? ⟨w.heap.size, 5, none⟩ = some (.int .u64 ceil') := cell_of_row w4 (w.heap.size) 5 _ _ _ z1
  have a6 : w4.cell? ⟨w.heap.size, 6, none⟩ = some (.int .i64 sec') := cell_of_row w4 (w.heap.size) 6 _ _ _ z1
  have a7 : w4.cell? ⟨w.heap.size, 7, none⟩ = some (.int .i64 nano') := cell_of_row w4 (w.heap.size) 7 _ _ _ z1
  have af (i : Nat) : w4.frozen? ⟨w.heap.size, i, none⟩ = false := frozen_of_row w4 (w.heap.size) i _ _ z1
  have b0 : w4.cell? ⟨w.heap.size + 1, 0, none⟩ = some (.slice none 0 0) := cell_of_row w4 (w.heap.size + 1) 0 _ _ _ z2
  have b1 : w4.cell? ⟨w.heap.size + 1, 1, none⟩ = some (.int .i64 0) := cell_of_row w4 (w.heap.size + 1) 1 _ _ _ z2
  have b2 : w4.cell? ⟨w.heap.size + 1, 2, none⟩ = some (.int .i64 0) := cell_of_row w4 (w.heap.size + 1) 2 _ _ _ z2
  have b3 : w4.cell? ⟨w.heap.size + 1, 3, none⟩ = some (.int .i64 0) := cell_of_row w4 (w.heap.size + 1) 3 _ _ _ z2
  have b4 : w4.cell? ⟨w.heap.size + 1, 4, none⟩ = some (.int .u64 0) := cell_of_row w4 (w.heap.size + 1) 4 _ _ _ z2
  have b5 : w4.cell? ⟨w.heap.size + 1, 5, none⟩ = some (.int .u64 0) := cell_of_row w4 (w.heap.size + 1) 5 _ _ _ z2
  have b6 : w4.cell? ⟨w.heap.size + 1, 6, none⟩ = some (.int .i64 0) := cell_of_row w4 (w.heap.size + 1) 6 _ _ _ z2
  have b7 : w4.cell? ⟨w.heap.size + 1, 7, none⟩ = some (.int .i64 0) := cell_of_row w4 (w.heap.size + 1) 7 _ _ _ z2
  have bf (i : Nat) : w4.frozen? ⟨w.heap.size + 1, i, none⟩ = false := frozen_of_row w4 (w.heap.size + 1) i _ _ z2
  clear z1 z2
  go_wp2_with fail
  refine bodyPost_ret (v := .agg #[.slice (some ⟨w1.heap.size, 0, none⟩) key.length key.length, .int .i64 side, .int .i64 cur', .int .i64 next', .int .u64 send', .int .u64 ceil', .int .i64 sec', .int .i64 nano']) (by simp [results, Try.results46, go_sem, b0, b1, b2, b3, b4, b5, b6, b7]) rfl ⟨some ⟨w1.heap.size, 0, none⟩, key.length, rfl, ?_, ?_⟩
  · refine Mine.from (B := w.heap.size + 2) ?_ (by omega)
    iterate 8 (refine Mine.setCell ?_ _ _ _ (by omega))
    exact Or.inr ⟨_, rfl, hz, hO6⟩
  · iterate 8 (refine Below.set ?_ _ _ _ (by omega))
    exact hB6
end Go.Proofs.Ytihndipgdogebaa
