/- What the closures that are handed to changed do to a lane. -/
import Derived.Test.YtihndipgdogebaaLane5
import Derived.StillTailTactics
import Derived.Deep.RegionHeld3
namespace Go.Proofs.Ytihndipgdogebaa
open Go.RowKit
theorem lanePlain (w : World) : ∀ x, x = w → True := fun _ _ => trivial
theorem cloNew (w : World) (g : Nat) (ar : Option Addr) (cr : Nat) (key : List (BitVec 8)) (side cur next send ceil sec nano : Int) (hx : w.heap[g]? = some (.cells #[.slice ar key.length cr, .int .i64 side, .int .i64 cur, .int .i64 next, .int .u64 send, .int .u64 ceil, .int .i64 sec, .int .i64 nano] 27 (0, 0)))   : Calls Try.prog 47 #[.pointer (some ⟨g, 0, none⟩)] w (Turns w g #[.slice ar key.length cr, .int .i64 side, .int .i64 cur, .int .i64 next, .int .u64 send, .int .u64 ceil, .int .i64 sec, .int .i64 nano]) := by
  have a0 : w.cell? ⟨g, 0, none⟩ = some (.slice ar key.length cr) := cell_of_row w (g) 0 _ _ _ hx
  have a1 : w.cell? ⟨g, 1, none⟩ = some (.int .i64 side) := cell_of_row w (g) 1 _ _ _ hx
  have a2 : w.cell? ⟨g, 2, none⟩ = some (.int .i64 cur) := cell_of_row w (g) 2 _ _ _ hx
  have a3 : w.cell? ⟨g, 3, none⟩ = some (.int .i64 next) := cell_of_row w (g) 3 _ _ _ hx
  have a4 : w.cell? ⟨g, 4, none⟩ = some (.int .u64 send) := cell_of_row w (g) 4 _ _ _ hx
  have a5 : w.cell? ⟨g, 5, none⟩ = some (.int .u64 ceil) := cell_of_row w (g) 5 _ _ _ hx
  have a6 : w.cell? ⟨g, 6, none⟩ = some (.int .i64 sec) := cell_of_row w (g) 6 _ _ _ hx
  have a7 : w.cell? ⟨g, 7, none⟩ = some (.int .i64 nano) := cell_of_row w (g) 7 _ _ _ hx
  have af (i : Nat) : w.frozen? ⟨g, i, none⟩ = false := frozen_of_row w (g) i _ _ hx
  have HX := Lib.hid hx
  clear hx
  go_enter Try.func47, Try.ntmps47
  go_wp2_with fail
  go_end0
  exact And.intro rfl (And.intro HX.out (Only.refl _ _))
theorem cloAgain (w : World) (g : Nat) (ar : Option Addr) (cr : Nat) (key : List (BitVec 8)) (side cur next send ceil sec nano : Int) (hx : w.heap[g]? = some (.cells #[.slice ar key.length cr, .int .i64 side, .int .i64 cur, .int .i64 next, .int .u64 send, .int .u64 ceil, .int .i64 sec, .int .i64 nano] 27 (0, 0))) (p1 : Nat) (g1 : Int) (_hp1n : p1 ≠ g) (hp1 : w.cell? ⟨p1, 0, none⟩ = some (.int .i64 g1)) : Calls Try.prog 52 #[.pointer (some ⟨g, 0, none⟩), .pointer (some ⟨p1, 0, none⟩)] w (Turns w g #[.slice ar key.length cr, .int .i64 side, .int .i64 g1, .int .i64 next, .int .u64 0, .int .u64 0, .int .i64 sec, .int .i64 nano]) := by
  have a0 : w.cell? ⟨g, 0, none⟩ = some (.slice ar key.length cr) := cell_of_row w (g) 0 _ _ _ hx
  have a1 : w.cell? ⟨g, 1, none⟩ = some (.int .i64 side) := cell_of_row w (g) 1 _ _ _ hx
  have a2 : w.cell? ⟨g, 2, none⟩ = some (.int .i64 cur) := cell_of_row w (g) 2 _ _ _ hx
  have a3 : w.cell? ⟨g, 3, none⟩ = some (.int .i64 next) := cell_of_row w (g) 3 _ _ _ hx
  have a4 : w.cell? ⟨g, 4, none⟩ = some (.int .u64 send) := cell_of_row w (g) 4 _ _ _ hx
  have a5 : w.cell? ⟨g, 5, none⟩ = some (.int .u64 ceil) := cell_of_row w (g) 5 _ _ _ hx
  have a6 : w.cell? ⟨g, 6, none⟩ = some (.int .i64 sec) := cell_of_row w (g) 6 _ _ _ hx
  have a7 : w.cell? ⟨g, 7, none⟩ = some (.int .i64 nano) := cell_of_row w (g) 7 _ _ _ hx
  have af (i : Nat) : w.frozen? ⟨g, i, none⟩ = false := frozen_of_row w (g) i _ _ hx
  have HX := Lib.hid hx
  clear hx
  go_enter Try.func52, Try.ntmps52
  go_wp2_with fail
  go_end0
  exact And.intro rfl (And.intro (heap_setCell_same _ g 5 _ _ _ (heap_setCell_same _ g 4 _ _ _ (heap_setCell_same _ g 2 _ _ _ HX.out))) ((((((Only.refl _ _).trans (Only.setCell _ g 2 _))).trans (Only.setCell _ g 4 _))).trans (Only.setCell _ g 5 _)))
theorem cloPropose (w : World) (g : Nat) (ar : Option Addr) (cr : Nat) (key : List (BitVec 8)) (side cur next send ceil sec nano : Int) (hx : w.heap[g]? = some (.cells #[.slice ar key.length cr, .int .i64 side, .int .i64 cur, .int .i64 next, .int .u64 send, .int .u64 ceil, .int .i64 sec, .int .i64 nano] 27 (0, 0))) (p1 : Nat) (g1 : Int) (_hp1n : p1 ≠ g) (hp1 : w.cell? ⟨p1, 0, none⟩ = some (.int .i64 g1)) : Calls Try.prog 55 #[.pointer (some ⟨g, 0, none⟩), .pointer (some ⟨p1, 0, none⟩)] w (Turns w g #[.slice ar key.length cr, .int .i64 side, .int .i64 cur, .int .i64 g1, .int .u64 send, .int .u64 ceil, .int .i64 sec, .int .i64 nano]) := by
  have a0 : w.cell? ⟨g, 0, none⟩ = some (.slice ar key.length cr) := cell_of_row w (g) 0 _ _ _ hx
  have a1 : w.cell? ⟨g, 1, none⟩ = some (.int .i64 side) := cell_of_row w (g) 1 _ _ _ hx
  have a2 : w.cell? ⟨g, 2, none⟩ = some (.int .i64 cur) := cell_of_row w (g) 2 _ _ _ hx
  have a3 : w.cell? ⟨g, 3, none⟩ = some (.int .i64 next) := cell_of_row w (g) 3 _ _ _ hx
  have a4 : w.cell? ⟨g, 4, none⟩ = some (.int .u64 send) := cell_of_row w (g) 4 _ _ _ hx
  have a5 : w.cell? ⟨g, 5, none⟩ = some (.int .u64 ceil) := cell_of_row w (g) 5 _ _ _ hx
  have a6 : w.cell? ⟨g, 6, none⟩ = some (.int .i64 sec) := cell_of_row w (g) 6 _ _ _ hx
  have a7 : w.cell? ⟨g, 7, none⟩ = some (.int .i64 nano) := cell_of_row w (g) 7 _ _ _ hx
  have af (i : Nat) : w.frozen? ⟨g, i, none⟩ = false := frozen_of_row w (g) i _ _ hx
  have HX := Lib.hid hx
  clear hx
  go_enter Try.func55, Try.ntmps55
  go_wp2_with fail
  go_end0
  exact And.intro rfl (And.intro (heap_setCell_same _ g 3 _ _ _ HX.out) ((Only.refl _ _).trans (Only.setCell _ g 3 _)))
theorem cloReserve (w : World) (g : Nat) (ar : Option Addr) (cr : Nat) (key : List (BitVec 8)) (side cur next send ceil sec nano : Int) (hx : w.heap[g]? = some (.cells #[.slice ar key.length cr, .int .i64 side, .int .i64 cur, .int .i64 next, .int .u64 send, .int .u64 ceil, .int .i64 sec, .int .i64 nano] 27 (0, 0))) (p1 : Nat) (at1 : Int) (p2 : Nat) (b1 : Int) (_hp1n : p1 ≠ g) (hp1 : w.cell? ⟨p1, 0, none⟩ = some (.int .u64 at1)) (hp10 : 0 ≤ at1) (hp11 : at1 ≤ 18446744073709551615) (_hp2n : p2 ≠ g) (hp2 : w.cell? ⟨p2, 0, none⟩ = some (.int .i64 b1)) : Calls Try.prog 56 #[.pointer (some ⟨g, 0, none⟩), .pointer (some ⟨p1, 0, none⟩), .pointer (some ⟨p2, 0, none⟩)] w (Turns w g #[.slice ar key.length cr, .int .i64 side, .int .i64 cur, .int .i64 next, .int .u64 (upF at1 b1), .int .u64 ceil, .int .i64 sec, .int .i64 nano]) := by
  have a0 : w.cell? ⟨g, 0, none⟩ = some (.slice ar key.length cr) := cell_of_row w (g) 0 _ _ _ hx
  have a1 : w.cell? ⟨g, 1, none⟩ = some (.int .i64 side) := cell_of_row w (g) 1 _ _ _ hx
  have a2 : w.cell? ⟨g, 2, none⟩ = some (.int .i64 cur) := cell_of_row w (g) 2 _ _ _ hx
  have a3 : w.cell? ⟨g, 3, none⟩ = some (.int .i64 next) := cell_of_row w (g) 3 _ _ _ hx
  have a4 : w.cell? ⟨g, 4, none⟩ = some (.int .u64 send) := cell_of_row w (g) 4 _ _ _ hx
  have a5 : w.cell? ⟨g, 5, none⟩ = some (.int .u64 ceil) := cell_of_row w (g) 5 _ _ _ hx
  have a6 : w.cell? ⟨g, 6, none⟩ = some (.int .i64 sec) := cell_of_row w (g) 6 _ _ _ hx
  have a7 : w.cell? ⟨g, 7, none⟩ = some (.int .i64 nano) := cell_of_row w (g) 7 _ _ _ hx
  have af (i : Nat) : w.frozen? ⟨g, i, none⟩ = false := frozen_of_row w (g) i _ _ hx
  have HX := Lib.hid hx
  clear hx
  go_enter Try.func56, Try.ntmps56
  go_wp2_with fail
  refine (laneUp at1 b1 hp10 hp11 w).mono ?_
  rintro e w1 ⟨rfl, rfl⟩
  go_wp2_with fail
  go_end0
  exact And.intro rfl (And.intro (heap_setCell_same _ g 4 _ _ _ HX.out) ((Only.refl _ _).trans (Only.setCell _ g 4 _)))
theorem cloRaise (w : World) (g : Nat) (ar : Option Addr) (cr : Nat) (key : List (BitVec 8)) (side cur next send ceil sec nano : Int) (hx : w.heap[g]? = some (.cells #[.slice ar key.length cr, .int .i64 side, .int .i64 cur, .int .i64 next, .int .u64 send, .int .u64 ceil, .int .i64 sec, .int .i64 nano] 27 (0, 0))) (p1 : Nat) (c1 : Int) (p2 : Nat) (b1 : Int) (_hp1n : p1 ≠ g) (hp1 : w.cell? ⟨p1, 0, none⟩ = some (.int .u64 c1)) (hp10 : 0 ≤ c1) (hp11 : c1 ≤ 18446744073709551615) (_hp2n : p2 ≠ g) (hp2 : w.cell? ⟨p2, 0, none⟩ = some (.int .i64 b1)) : Calls Try.prog 58 #[.pointer (some ⟨g, 0, none⟩), .pointer (some ⟨p1, 0, none⟩), .pointer (some ⟨p2, 0, none⟩)] w (Turns w g #[.slice ar key.length cr, .int .i64 side, .int .i64 cur, .int .i64 next, .int .u64 send, .int .u64 (upF c1 b1), .int .i64 sec, .int .i64 nano]) := by
  have a0 : w.cell? ⟨g, 0, none⟩ = some (.slice ar key.length cr) := cell_of_row w (g) 0 _ _ _ hx
  have a1 : w.cell? ⟨g, 1, none⟩ = some (.int .i64 side) := cell_of_row w (g) 1 _ _ _ hx
  have a2 : w.cell? ⟨g, 2, none⟩ = some (.int .i64 cur) := cell_of_row w (g) 2 _ _ _ hx
  have a3 : w.cell? ⟨g, 3, none⟩ = some (.int .i64 next) := cell_of_row w (g) 3 _ _ _ hx
  have a4 : w.cell? ⟨g, 4, none⟩ = some (.int .u64 send) := cell_of_row w (g) 4 _ _ _ hx
  have a5 : w.cell? ⟨g, 5, none⟩ = some (.int .u64 ceil) := cell_of_row w (g) 5 _ _ _ hx
  have a6 : w.cell? ⟨g, 6, none⟩ = some (.int .i64 sec) := cell_of_row w (g) 6 _ _ _ hx
  have a7 : w.cell? ⟨g, 7, none⟩ = some (.int .i64 nano) := cell_of_row w (g) 7 _ _ _ hx
  have af (i : Nat) : w.frozen? ⟨g, i, none⟩ = false := frozen_of_row w (g) i _ _ hx
  have HX := Lib.hid hx
  clear hx
  go_enter Try.func58, Try.ntmps58
  go_wp2_with fail
  refine (laneUp c1 b1 hp10 hp11 w).mono ?_
  rintro e w1 ⟨rfl, rfl⟩
  go_wp2_with fail
  go_end0
  exact And.intro rfl (And.intro (heap_setCell_same _ g 5 _ _ _ HX.out) ((Only.refl _ _).trans (Only.setCell _ g 5 _)))
set_option maxHeartbeats 2000000 in
theorem cloOpened (w : World) (g : Nat) (ar : Option Addr) (cr : Nat) (key : List (BitVec 8)) (side cur next send ceil sec nano : Int) (hx : w.heap[g]? = some (.cells #[.slice ar key.length cr, .int .i64 side, .int .i64 cur, .int .i64 next, .int .u64 send, .int .u64 ceil, .int .i64 sec, .int .i64 nano] 27 (0, 0))) (p1 : Nat) (g1 : Int) (p2 : Nat) (b1 : Int) (p3 : Nat) (c1 : Int) (hp1n : p1 ≠ g) (hp1 : w.cell? ⟨p1, 0, none⟩ = some (.int .i64 g1)) (hp2n : p2 ≠ g) (hp2 : w.cell? ⟨p2, 0, none⟩ = some (.int .i64 b1)) (hp3n : p3 ≠ g) (hp3 : w.cell? ⟨p3, 0, none⟩ = some (.int .u64 c1)) (hp30 : 0 ≤ c1) (hp31 : c1 ≤ 18446744073709551615) : Calls Try.prog 57 #[.pointer (some ⟨g, 0, none⟩), .pointer (some ⟨p1, 0, none⟩), .pointer (some ⟨p2, 0, none⟩), .pointer (some ⟨p3, 0, none⟩)] w (Turns w g #[.slice ar key.length cr, .int .i64 side, .int .i64 g1, .int .i64 next, .int .u64 (upF 1 b1), .int .u64 (upF c1 b1), .int .i64 sec, .int .i64 nano]) := by
  have a0 : w.cell? ⟨g, 0, none⟩ = some (.slice ar key.length cr) := cell_of_row w (g) 0 _ _ _ hx
  have a1 : w.cell? ⟨g, 1, none⟩ = some (.int .i64 side) := cell_of_row w (g) 1 _ _ _ hx
  have a2 : w.cell? ⟨g, 2, none⟩ = some (.int .i64 cur) := cell_of_row w (g) 2 _ _ _ hx
  have a3 : w.cell? ⟨g, 3, none⟩ = some (.int .i64 next) := cell_of_row w (g) 3 _ _ _ hx
  have a4 : w.cell? ⟨g, 4, none⟩ = some (.int .u64 send) := cell_of_row w (g) 4 _ _ _ hx
  have a5 : w.cell? ⟨g, 5, none⟩ = some (.int .u64 ceil) := cell_of_row w (g) 5 _ _ _ hx
  have a6 : w.cell? ⟨g, 6, none⟩ = some (.int .i64 sec) := cell_of_row w (g) 6 _ _ _ hx
  have a7 : w.cell? ⟨g, 7, none⟩ = some (.int .i64 nano) := cell_of_row w (g) 7 _ _ _ hx
  have af (i : Nat) : w.frozen? ⟨g, i, none⟩ = false := frozen_of_row w (g) i _ _ hx
  have HX := Lib.hid hx
  clear hx
  go_enter Try.func57, Try.ntmps57
  go_wp2_with fail
  go_region_held3 (fun w' => w'.cell? ⟨p1, 0, none⟩ = some (.int .i64 g1) ∧ w'.cell? ⟨p2, 0, none⟩ = some (.int .i64 b1) ∧ w'.cell? ⟨p3, 0, none⟩ = some (.int .u64 c1)) ((simp only [cell_drew, cell_far _ _ _ _ _ _ hp1n, cell_far _ _ _ _ _ _ hp2n, cell_far _ _ _ _ _ _ hp3n]; exact ⟨hp1, hp2, hp3⟩))
    ((go_at_call 21; refine (laneUp _ _ (by first | assumption | omega) (by first | assumption | omega) _).mono ?_; rintro e w1 ⟨rfl, rfl⟩))
  all_goals go_wp2_with fail
  go_end0
  exact And.intro rfl (And.intro (heap_setCell_same _ g 5 _ _ _ (heap_setCell_same _ g 4 _ _ _ (heap_setCell_same _ g 2 _ _ _ HX.out))) (((((((show Only (fun k => k = g) w w.drew from ⟨rfl, rfl, rfl, Nat.le_refl _, fun _ _ _ => rfl⟩)).trans (Only.setCell _ g 2 _))).trans (Only.setCell _ g 4 _))).trans (Only.setCell _ g 5 _)))
set_option maxHeartbeats 2000000 in
theorem cloAnswered (w : World) (g : Nat) (ar : Option Addr) (cr : Nat) (key : List (BitVec 8)) (side cur next send ceil sec nano : Int) (hx : w.heap[g]? = some (.cells #[.slice ar key.length cr, .int .i64 side, .int .i64 cur, .int .i64 next, .int .u64 send, .int .u64 ceil, .int .i64 sec, .int .i64 nano] 27 (0, 0))) (p1 : Nat) (g1 : Int) (p2 : Nat) (at1 : Int) (p3 : Nat) (b1 : Int) (p4 : Nat) (c1 : Int) (p5 : Nat) (ss sn : Int) (hp1n : p1 ≠ g) (hp1 : w.cell? ⟨p1, 0, none⟩ = some (.int .i64 g1)) (hp2n : p2 ≠ g) (hp2 : w.cell? ⟨p2, 0, none⟩ = some (.int .u64 at1)) (hp20 : 0 ≤ at1) (hp21 : at1 ≤ 18446744073709551615) (hp3n : p3 ≠ g) (hp3 : w.cell? ⟨p3, 0, none⟩ = some (.int .i64 b1)) (hp4n : p4 ≠ g) (hp4 : w.cell? ⟨p4, 0, none⟩ = some (.int .u64 c1)) (hp40 : 0 ≤ c1) (hp41 : c1 ≤ 18446744073709551615) (hp5n : p5 ≠ g) (hp5 : w.cell? ⟨p5, 0, none⟩ = some (.int .i64 ss)) (hp5b : w.cell? ⟨p5, 1, none⟩ = some (.int .i64 sn)) : Calls Try.prog 60 #[.pointer (some ⟨g, 0, none⟩), .pointer (some ⟨p1, 0, none⟩), .pointer (some ⟨p2, 0, none⟩), .pointer (some ⟨p3, 0, none⟩), .pointer (some ⟨p4, 0, none⟩), .pointer (some ⟨p5, 0, none⟩)] w (Turns w g #[.slice ar key.length cr, .int .i64 side, .int .i64 g1, .int .i64 next, .int .u64 (upF at1 b1), .int .u64 (upF c1 b1), .int .i64 ss, .int .i64 sn]) := by
  have a0 : w.cell? ⟨g, 0, none⟩ = some (.slice ar key.length cr) := cell_of_row w (g) 0 _ _ _ hx
  have a1 : w.cell? ⟨g, 1, none⟩ = some (.int .i64 side) := cell_of_row w (g) 1 _ _ _ hx
  have a2 : w.cell? ⟨g, 2, none⟩ = some (.int .i64 cur) := cell_of_row w (g) 2 _ _ _ hx
  have a3 : w.cell? ⟨g, 3, none⟩ = some (.int .i64 next) := cell_of_row w (g) 3 _ _ _ hx
  have a4 : w.cell? ⟨g, 4, none⟩ = some (.int .u64 send) := cell_of_row w (g) 4 _ _ _ hx
  have a5 : w.cell? ⟨g, 5, none⟩ = some (.int .u64 ceil) := cell_of_row w (g) 5 _ _ _ hx
  have a6 : w.cell? ⟨g, 6, none⟩ = some (.int .i64 sec) := cell_of_row w (g) 6 _ _ _ hx
  have a7 : w.cell? ⟨g, 7, none⟩ = some (.int .i64 nano) := cell_of_row w (g) 7 _ _ _ hx
  have af (i : Nat) : w.frozen? ⟨g, i, none⟩ = false := frozen_of_row w (g) i _ _ hx
  have HX := Lib.hid hx
  clear hx
  go_enter Try.func60, Try.ntmps60
  go_wp2_with fail
  go_region_held3 (fun w' => w'.cell? ⟨p1, 0, none⟩ = some (.int .i64 g1) ∧ w'.cell? ⟨p2, 0, none⟩ = some (.int .u64 at1) ∧ w'.cell? ⟨p3, 0, none⟩ = some (.int .i64 b1) ∧ w'.cell? ⟨p4, 0, none⟩ = some (.int .u64 c1) ∧ w'.cell? ⟨p5, 0, none⟩ = some (.int .i64 ss) ∧ w'.cell? ⟨p5, 1, none⟩ = some (.int .i64 sn)) ((simp only [cell_drew, cell_far _ _ _ _ _ _ hp1n, cell_far _ _ _ _ _ _ hp2n, cell_far _ _ _ _ _ _ hp3n, cell_far _ _ _ _ _ _ hp4n, cell_far _ _ _ _ _ _ hp5n]; exact ⟨hp1, hp2, hp3, hp4, hp5, hp5b⟩))
    ((go_at_call 21; refine (laneUp _ _ (by first | assumption | omega) (by first | assumption | omega) _).mono ?_; rintro e w1 ⟨rfl, rfl⟩))
  all_goals go_wp2_with fail
  go_end0
  exact And.intro rfl (And.intro (heap_setCell_same _ g 7 _ _ _ (heap_setCell_same _ g 6 _ _ _ (heap_setCell_same _ g 5 _ _ _ (heap_setCell_same _ g 4 _ _ _ (heap_setCell_same _ g 2 _ _ _ HX.out))))) (((((((((((show Only (fun k => k = g) w w.drew from ⟨rfl, rfl, rfl, Nat.le_refl _, fun _ _ _ => rfl⟩)).trans (Only.setCell _ g 2 _))).trans (Only.setCell _ g 4 _))).trans (Only.setCell _ g 5 _))).trans (Only.setCell _ g 6 _))).trans (Only.setCell _ g 7 _)))
end Go.Proofs.Ytihndipgdogebaa
