/- The walk of LaneNever. -/
import Derived.Test.YtihndipgdogebaaLaneOps
import Derived.Test.YtihndipgdogebaaLaneNext
import Derived.Test.YtihndipgdogebaaLaneNev
import Derived.Test.YtihndipgdogebaaLaneUse
import Derived.Test.YtihndipgdogebaaLaneRg
import Derived.Deep.CutRange
import Derived.Deep.CutBlock
namespace Go.Proofs.Ytihndipgdogebaa
open Go.RowKit
/-- How things stand in LaneNever: the lane in its box, its key, the book; at most m entries. -/
structure NeverSt (w wr : World) (b p m : Nat) (M : Ln) (ar : Option Addr) (cr : Nat) (u : Int) (v1 v2 : Value) (gs cs : List Int) : Prop where
  bag : Bag w wr (.box b (M.cells ar cr) 27 :: .key ar M.key :: Book p v1 v2 gs cs [])
  fits : M.fits
  inv : NeverInv M u gs cs
  len : gs.length ≤ m
def NeverRel (w : World) (b p n : Nat) (s11 i : Value) (wr : World) : Prop := ∃ (k : Nat) (M : Ln) (ar : Option Addr) (cr : Nat) (u : Int) (v1 v2 : Value) (gs cs : List Int), k ≤ n ∧ k ≤ 2000 ∧ i = .int .i64 k ∧ s11 = .int .u64 u ∧ NeverSt w wr b p (k * 8) M ar cr u v1 v2 gs cs
/-- Behind the call: the answer stands beside. -/
structure NeverMid (w wr : World) (b p g m : Nat) (cs0 : Array Value) (Z : Ln) (ar : Option Addr) (cr : Nat) (u : Int) (v1 v2 : Value) (gs cs : List Int) : Prop where
  bag : Bag w wr (.box g (Z.cells ar cr) 27 :: .key ar Z.key :: .box b cs0 27 :: Book p v1 v2 gs cs [])
  inv : NeverInv Z u gs cs
  len : gs.length ≤ m
def NeverMidR (w : World) (b p g m : Nat) (cs0 : Array Value) (Z : Ln) (ar : Option Addr) (cr : Nat) (s11 : Value) (wr : World) : Prop := ∃ (u : Int) (v1 v2 : Value) (gs cs : List Int), s11 = .int .u64 u ∧ NeverMid w wr b p g m cs0 Z ar cr u v1 v2 gs cs
inductive NevRest (M Z : Ln) (kd av u : Int) (gs cs : List Int) : Prop
  | quiet (ne : (Z.cur != M.cur) = false) (inv : NeverInv Z u gs cs)
  | again (ne : (Z.cur != M.cur) = true) (k4 : (kd == 4) = false) (k5 : (kd == 5) = false) (inv : NeverInv Z 0 gs cs)
  | answered (ne : (Z.cur != M.cur) = true) (k4 : (kd == 4) = true) (k5 : (kd == 5) = false) (a0 : 0 ≤ av) (a1 : av ≤ 1) (lt : av < Z.send) (fr : Fresh gs cs Z.cur av) (inv : NeverInv Z (av + 1) (gs ++ [Z.cur]) (cs ++ [av]))
  | opened (ne : (Z.cur != M.cur) = true) (k4 : (kd == 4) = false) (k5 : (kd == 5) = true) (inv : NeverInv Z 1 gs cs)
def NeverA (w wr : World) (b p g m : Nat) (cs0 : Array Value) (M Z : Ln) (ar : Option Addr) (cr : Nat) (kd av u : Int) : Prop := ∃ (v1 v2 : Value) (gs cs : List Int), Bag w wr (.box g (Z.cells ar cr) 27 :: .key ar Z.key :: .box b cs0 27 :: Book p v1 v2 gs cs []) ∧ NevRest M Z kd av u gs cs ∧ gs.length = cs.length ∧ gs.length ≤ m
def NeverLoop (w : World) (b p m : Nat) (Z : Ln) (ar : Option Addr) (cr : Nat) (s11 i : Value) (wr : World) : Prop := ∃ (n : Nat) (u : Int) (v1 v2 : Value) (gs cs : List Int), n ≤ 6 ∧ i = .int .i64 n ∧ s11 = .int .u64 u ∧ NeverSt w wr b p (m + n) Z ar cr u v1 v2 gs cs
def NeverAt (w : World) (b p m : Nat) (Z : Ln) (ar : Option Addr) (cr : Nat) (s11 : Value) (wr : World) : Prop := ∃ (u : Int) (v1 v2 : Value) (gs cs : List Int), s11 = .int .u64 u ∧ NeverSt w wr b p m Z ar cr u v1 v2 gs cs
theorem Rn.num {w : World} {b o : Nat} {l : List Int} (h : Rn w (some ⟨b, o, none⟩) l) {k : Nat} (hk : k < l.length) {x : Int} (he : l.getD k 0 = x) : w.cell? ⟨b, o + k, none⟩ = some (.int .i64 x) := by
  rcases h with rfl | ⟨b', o', h1, hc⟩
  · simp at hk
  · cases h1
    rw [← he]
    exact hc k hk
/-- The book moves to the front of the bag. -/
theorem book_front {w W : World} {x y z : It} {p : Nat} {v1 v2 : Value} {gs cs : List Int} (h : Bag w W (x :: y :: z :: Book p v1 v2 gs cs [])) : Bag w W (Book p v1 v2 gs cs [x, y, z]) := by
  refine h.sub (fun i => match i with | 0 => 3 | 1 => 4 | 2 => 5 | 3 => 0 | 4 => 1 | 5 => 2 | i + 6 => i + 6) ?_ ?_
  · rintro (_ | _ | _ | _ | _ | _ | i) y hy <;> first | exact hy | (simp [Book] at hy)
  · rintro (_ | _ | _ | _ | _ | _ | i) (_ | _ | _ | _ | _ | _ | j) ha hb h <;> first | rfl | (simp at h; try omega)
theorem book_back {w W : World} {x y z : It} {p : Nat} {v1 v2 : Value} {gs cs : List Int} (h : Bag w W (Book p v1 v2 gs cs [x, y, z])) : Bag w W (x :: y :: z :: Book p v1 v2 gs cs []) := by
  refine h.sub (fun i => match i with | 0 => 3 | 1 => 4 | 2 => 5 | 3 => 0 | 4 => 1 | 5 => 2 | i + 6 => i + 6) ?_ ?_
  · rintro (_ | _ | _ | _ | _ | _ | i) y hy <;> first | exact hy | (simp [Book] at hy)
  · rintro (_ | _ | _ | _ | _ | _ | i) (_ | _ | _ | _ | _ | _ | j) ha hb h <;> first | rfl | (simp at h; try omega)
theorem book_front2 {w W : World} {x y : It} {p : Nat} {v1 v2 : Value} {gs cs : List Int} (h : Bag w W (x :: y :: Book p v1 v2 gs cs [])) : Bag w W (Book p v1 v2 gs cs [x, y]) := by
  refine h.sub (fun i => match i with | 0 => 2 | 1 => 3 | 2 => 4 | 3 => 0 | 4 => 1 | i + 5 => i + 5) ?_ ?_
  · rintro (_ | _ | _ | _ | _ | i) y hy <;> first | exact hy | (simp [Book] at hy)
  · rintro (_ | _ | _ | _ | _ | i) (_ | _ | _ | _ | _ | j) ha hb h <;> first | rfl | (simp at h; try omega)
theorem book_back2 {w W : World} {x y : It} {p : Nat} {v1 v2 : Value} {gs cs : List Int} (h : Bag w W (Book p v1 v2 gs cs [x, y])) : Bag w W (x :: y :: Book p v1 v2 gs cs []) := by
  refine h.sub (fun i => match i with | 0 => 3 | 1 => 4 | 2 => 0 | 3 => 1 | 4 => 2 | i + 5 => i + 5) ?_ ?_
  · rintro (_ | _ | _ | _ | _ | i) y hy <;> first | exact hy | (simp [Book] at hy)
  · rintro (_ | _ | _ | _ | _ | i) (_ | _ | _ | _ | _ | j) ha hb h <;> first | rfl | (simp at h; try omega)
/-- use, called beside three other things. -/
theorem use_mid {w W : World} {b p g m : Nat} {cs0 : Array Value} {Z : Ln} {ar : Option Addr} {cr : Nat} {v1 v2 : Value} {gs cs : List Int} (hB : Bag w W (.box g (Z.cells ar cr) 27 :: .key ar Z.key :: .box b cs0 27 :: Book p v1 v2 gs cs []))
    (x y u : Int) (hl : gs.length = cs.length) (hm : gs.length + 1 ≤ m) (hmax : m ≤ 17000000000000) (hf : Fresh gs cs x y) (hi : NeverInv Z u (gs ++ [x]) (cs ++ [y])) :
    Calls Try.prog 40 #[.pointer (some ⟨p, 0, none⟩), .int .i64 x, .int .u64 y] W fun e W' => e = .returned (.bool true) ∧ ∃ v1 v2, NeverMid w W' b p g m cs0 Z ar cr u v1 v2 (gs ++ [x]) (cs ++ [y]) := by
  refine (lawUse (book_front hB) x y hl (by omega) hf).mono ?_
  rintro e W' ⟨rfl, v1, v2, hb⟩
  exact ⟨rfl, v1, v2, book_back hb, hi, by simp; omega⟩
theorem use_st {w W : World} {b p m : Nat} {Z : Ln} {ar : Option Addr} {cr : Nat} {v1 v2 : Value} {gs cs : List Int} {u : Int} (h : NeverSt w W b p m Z ar cr u v1 v2 gs cs) (hu : u < Z.send) (hmax : m ≤ 16000000000000) :
    Calls Try.prog 40 #[.pointer (some ⟨p, 0, none⟩), .int .i64 Z.cur, .int .u64 u] W fun e W' => e = .returned (.bool true) ∧ ∃ v1 v2, NeverSt w W' b p (m + 1) Z ar cr (u + 1) v1 v2 (gs ++ [Z.cur]) (cs ++ [u]) := by
  have hn := h.inv.use hu
  refine (lawUse (book_front2 h.bag) Z.cur u h.inv.len (by have := h.len; omega) hn.1).mono ?_
  rintro e W' ⟨rfl, v1, v2, hb⟩
  exact ⟨rfl, v1, v2, book_back2 hb, h.fits, hn.2, by have := h.len; simp; omega⟩
/-- The lane in hand is the answer from now on. -/
theorem never_move {w W : World} {b p g m : Nat} {cs0 : Array Value} {Z : Ln} {ar : Option Addr} {cr : Nat} {u : Int} {v1 v2 : Value} {gs cs : List Int} (h : NeverMid w W b p g m cs0 Z ar cr u v1 v2 gs cs) (hf : Z.fits) (hc : cs0.size = 8) :
    NeverSt w (Bag.setAll W b 0 (Z.cells ar cr).toList) b p m Z ar cr u v1 v2 gs cs := by
  have h1 := h.bag.store 2 rfl (Z.cells ar cr).toList hc
  have h2 := h1.erase 0
  simp only [List.set_cons_succ, List.set_cons_zero, List.eraseIdx_cons_zero] at h2
  exact ⟨h2.swap, hf, h.inv, h.len⟩
set_option maxRecDepth 100000 in
theorem lawNever_n0 (key : List (BitVec 8)) (ao : Option Addr) (cap : Nat) (side : Int) (ops : List Ask) (op : Option Addr) (cop : Nat) (us : List Int) (up : Option Addr) (cup : Nat) (w : World) (hr : Rd w ao key) (h : ¬ key.length = 32) : Calls Try.prog 9 #[.slice ao key.length cap, .int .i64 side, .slice op ops.length cop, .slice up us.length cup] w fun e w' => e = .returned (.bool true) ∧ Below w.heap.size w w' := by
  have hz : newL key side = Ln.zero := by
    unfold newL
    rw [if_neg]
    intro hok
    have := (ok_iff.1 hok).1
    simp only at this
    omega
  have e1 : ((key.length : Int) != 32) = true := by rw [bne_iff_ne]; omega
  have HZ := Lib.hid hz
  clear h hz
  go_enter Try.func9, Try.ntmps9
  go_wp2_with fail
  refine (laneKnown _).mono ?_
  rintro e w1 ⟨rfl, hb1⟩
  go_wp2_with fail
  refine (laneNew key side ao cap _ (hr.on hb1)).mono ?_
  rintro e w2 ⟨A0, cA0, he, hm, hb2⟩
  rw [HZ.out] at he
  obtain rfl : e = .returned (.agg #[.slice A0 0 cA0, .int .i64 0, .int .i64 0, .int .i64 0, .int .u64 0, .int .u64 0, .int .i64 0, .int .i64 0]) := he
  have HB := Lib.hid (hb1.trans (hb2.mono hb1.size))
  clear hb1 hb2 hm
  go_wp2_with fail
  go_ret
  exact ⟨rfl, HB.out.alloc HB.out.size _⟩
set_option maxRecDepth 100000 in
theorem lawNever_n1 (key : List (BitVec 8)) (ao : Option Addr) (cap : Nat) (side : Int) (ops : List Ask) (op : Option Addr) (cop : Nat) (us : List Int) (up : Option Addr) (cup : Nat) (w : World) (hr : Rd w ao key) (h : key.length = 32) (h1 : ¬ 0 ≤ side) : Calls Try.prog 9 #[.slice ao key.length cap, .int .i64 side, .slice op ops.length cop, .slice up us.length cup] w fun e w' => e = .returned (.bool true) ∧ Below w.heap.size w w' := by
  have hz : newL key side = Ln.zero := by
    unfold newL
    rw [if_neg]
    intro hok
    have := (ok_iff.1 hok).1
    simp only at this
    omega
  have e1 : ((key.length : Int) != 32) = false := by rw [bne_eq_false_iff_eq]; omega
  have h2 : side < 0 := by omega
  have HZ := Lib.hid hz
  clear h hz h1
  go_enter Try.func9, Try.ntmps9
  go_wp2_with fail
  refine (laneKnown _).mono ?_
  rintro e w1 ⟨rfl, hb1⟩
  go_wp2_with fail
  refine (laneNew key side ao cap _ (hr.on hb1)).mono ?_
  rintro e w2 ⟨A0, cA0, he, hm, hb2⟩
  rw [HZ.out] at he
  obtain rfl : e = .returned (.agg #[.slice A0 0 cA0, .int .i64 0, .int .i64 0, .int .i64 0, .int .u64 0, .int .u64 0, .int .i64 0, .int .i64 0]) := he
  have HB := Lib.hid (hb1.trans (hb2.mono hb1.size))
  clear hb1 hb2 hm
  go_wp2_with fail
  go_ret
  exact ⟨rfl, HB.out.alloc HB.out.size _⟩
set_option maxRecDepth 100000 in
theorem lawNever_n2 (key : List (BitVec 8)) (ao : Option Addr) (cap : Nat) (side : Int) (ops : List Ask) (op : Option Addr) (cop : Nat) (us : List Int) (up : Option Addr) (cup : Nat) (w : World) (hr : Rd w ao key) (h : key.length = 32) (h1 : 0 ≤ side) (h2 : ¬ side ≤ 1) : Calls Try.prog 9 #[.slice ao key.length cap, .int .i64 side, .slice op ops.length cop, .slice up us.length cup] w fun e w' => e = .returned (.bool true) ∧ Below w.heap.size w w' := by
  have hz : newL key side = Ln.zero := by
    unfold newL
    rw [if_neg]
    intro hok
    have := (ok_iff.1 hok).1
    simp only at this
    omega
  have e1 : ((key.length : Int) != 32) = false := by rw [bne_eq_false_iff_eq]; omega
  have h3 : 1 < side := by omega
  have HZ := Lib.hid hz
  clear h hz h2
  go_enter Try.func9, Try.ntmps9
  go_wp2_with fail
  refine (laneKnown _).mono ?_
  rintro e w1 ⟨rfl, hb1⟩
  go_wp2_with fail
  refine (laneNew key side ao cap _ (hr.on hb1)).mono ?_
  rintro e w2 ⟨A0, cA0, he, hm, hb2⟩
  rw [HZ.out] at he
  obtain rfl : e = .returned (.agg #[.slice A0 0 cA0, .int .i64 0, .int .i64 0, .int .i64 0, .int .u64 0, .int .u64 0, .int .i64 0, .int .i64 0]) := he
  have HB := Lib.hid (hb1.trans (hb2.mono hb1.size))
  clear hb1 hb2 hm
  go_wp2_with fail
  go_ret
  exact ⟨rfl, HB.out.alloc HB.out.size _⟩
set_option maxRecDepth 100000 in
set_option maxHeartbeats 8000000 in
theorem lawNever_y (key : List (BitVec 8)) (ao : Option Addr) (cap : Nat) (side : Int) (ops : List Ask) (op : Option Addr) (cop : Nat) (us : List Int) (up : Option Addr) (cup : Nat) (w : World) (hr : Rd w ao key) (hlo : ops.length ≤ maxLen) (hro : Ro w op ops) (hof : ∀ i, i < ops.length → (ops.getD i Ask.none).fits) (hk : key.length = 32) (hs0 : 0 ≤ side) (hs1 : side ≤ 1) (_hus : us.length ≤ maxLen) (hru : Rn w up us) : Calls Try.prog 9 #[.slice ao key.length cap, .int .i64 side, .slice op ops.length cop, .slice up us.length cup] w fun e w' => e = .returned (.bool true) ∧ Below w.heap.size w w' := by
  unfold maxLen at hlo
  have HRU := Lib.hid hru
  clear hru
  have HR := Lib.hid hro
  have HOF := Lib.hid hof
  have hok : Ln.ok ⟨key, side, 1, 0, 0, 0, 0, 0⟩ = true := ok_iff.2 ⟨⟨hk, hs0, hs1⟩, ⟨by simp, by simp, by simp, by simp⟩, rfl⟩
  have HN := Lib.hid (show newL key side = ⟨key, side, 1, 0, 0, 0, 0, 0⟩ by unfold newL; rw [if_pos hok])
  have HF := Lib.hid (show Ln.fits ⟨key, side, 1, 0, 0, 0, 0, 0⟩ by have h := newL_fits key side (by omega); rw [HN.out] at h; exact h)
  have HOK := Lib.hid hok
  have HKL := Lib.hid hk
  have hkl : key.length ≤ 281474976710656 := by omega
  clear hro hof hok hk
  go_enter Try.func9, Try.ntmps9
  go_wp2_with fail
  have HB := Lib.hid (Bag.start w)
  refine (laneKnown _).mono ?_
  rintro e W1 ⟨rfl, hb⟩
  have h0 := HB.out.call hb
  clear HB
  have HB := Lib.hid h0
  clear h0
  clear hb
  go_wp2_with fail
  refine (laneNew key side ao cap _ (hr.on HB.out.below)).mono ?_
  rintro e W2 ⟨A0, cA0, he, Mx, hb⟩
  rw [HN.out] at he Mx
  obtain rfl : e = .returned (.agg #[.slice A0 key.length cA0, .int .i64 side, .int .i64 1, .int .i64 0, .int .u64 0, .int .u64 0, .int .i64 0, .int .i64 0]) := he
  have h0 := HB.out.mine hb Mx
  clear HB
  have HB := Lib.hid h0
  clear h0
  clear Mx
  clear hb
  have hA := (HB.out.mineRd 0 rfl)
  have hAl := HB.out.mineFar 0 rfl
  go_wp2_with fail
  generalize hU : W2.alloc (.cells #[.slice A0 key.length cA0, .int .i64 side, .int .i64 1, .int .i64 0, .int .u64 0, .int .u64 0, .int .i64 0, .int .i64 0] 27 (0, 0)) = U3
  have hsz : U3.heap.size = W2.heap.size + 1 := by rw [← hU]; exact alloc_size _ _
  have h0 := (HB.out.erase 0).add (x := .key A0 key) ⟨hA, fun a h => (hAl a h).2⟩ (by rintro k ⟨a, ha, rfl⟩; exact (hAl a ha).1) (by intro j y hy; simp at hy)
  have h1 := h0.alloc #[.slice A0 key.length cA0, .int .i64 side, .int .i64 1, .int .i64 0, .int .u64 0, .int .u64 0, .int .i64 0, .int .i64 0] 27
  rw [hU] at h1
  generalize hU2 : U3.alloc (.cells #[.slice none 0 0, .slice none 0 0] 67 (0, 0)) = U4
  have h2 := h1.allocAt #[.slice none 0 0, .slice none 0 0] 67 (W2.heap.size + 1) hsz
  rw [hU2] at h2
  have h3 := (h2.nil 3 1).nil 23 1
  have hst : NeverSt w U4 (W2.heap.size) (W2.heap.size + 1) (0 * 8) ⟨key, side, 1, 0, 0, 0, 0, 0⟩ A0 cA0 0 (.slice none 0 0) (.slice none 0 0) [] [] := by
    refine ⟨h3.sub (fun i => match i with | 0 => 3 | 1 => 4 | 2 => 2 | 3 => 1 | 4 => 0 | i + 5 => i + 5) ?_ ?_, HF.out, ⟨Int.le_refl _, Int.le_refl _, rfl, fun j hj => by simp at hj⟩, by simp⟩
    · rintro (_ | _ | _ | _ | _ | i) y hy <;> first | exact hy | (simp [Book] at hy)
    · rintro (_ | _ | _ | _ | _ | i) (_ | _ | _ | _ | _ | j) ha hb h <;> first | rfl | (simp at h; try omega)
  have HST := Lib.hid hst
  clear h0 h1 h2 h3 hst hU hU2 hsz hA hAl HB HF HOK
  go_loopw [11, 12] (NeverRel w (W2.heap.size) (W2.heap.size + 1) ops.length) (fun _ i _ => 2000 - (intOf i).toNat)
  case atStart => exact ⟨0, ⟨key, side, 1, 0, 0, 0, 0, 0⟩, A0, cA0, 0, .slice none 0 0, .slice none 0 0, [], [], Nat.zero_le _, by omega, rfl, rfl, HST.out⟩
  case round =>
    obtain ⟨k, M, ar, cr, u, v1, v2, gs, cs, hk1, hk2, rfl, rfl, hB, hMF0, hinv, hgl⟩ := hrel
    clear HST HN
    have hMF := Lib.hid hMF0
    clear hMF0
    have HI := Lib.hid hinv
    have HGL := Lib.hid hgl
    clear hinv hgl
    obtain ⟨k1, s1, c1, n1, e1, f1, x1, y1⟩ := M
    by_cases h1 : k < ops.length
    · by_cases h2 : k < 2000
      ·
        have h2i : (k : Int) < 2000 := by omega
        have h1i : (k : Int) < (ops.length : Int) := by omega
        obtain ⟨ob, oo, rfl, hcell⟩ : ∃ b o, op = some ⟨b, o, none⟩ ∧ _ := (HR.out.on hB.below).resolve_left (by intro h; rw [h] at h1; simp at h1)
        have HO := Lib.hid (HOF.out k h1)
        obtain ⟨g0, g1, g2, g3, g4, g5, g6⟩ := hcell k h1
        clear hcell
        have hob := lt_of_cell g0
        obtain ⟨O, hOk⟩ : ∃ O, ops.getD k Ask.none = O := ⟨_, rfl⟩
        rw [hOk] at HO g0 g1 g2 g3 g4 g5 g6
        have HKD := Lib.hid (show (ops.getD k Ask.none).kind = O.kind by rw [hOk])
        have HKC := Lib.hid (show (ops.getD k Ask.none).c = O.c by rw [hOk])
        have HKB := Lib.hid (show (ops.getD k Ask.none).b = O.b by rw [hOk])
        clear hOk
        obtain ⟨kd, og, ob', oc, oa, os, on⟩ := O
        simp only at g0 g1 g2 g3 g4 g5 g6
        have hx : wr.heap[W2.heap.size]? = some (.cells #[.slice ar k1.length cr, .int .i64 s1, .int .i64 c1, .int .i64 n1, .int .u64 e1, .int .u64 f1, .int .i64 x1, .int .i64 y1] 27 (0, 0)) := hB.box 0 rfl
        obtain ⟨q0, q1, q2, q3, q4, q5, q6, q7, qf⟩ := cells8 hx
        have HX := Lib.hid hx
        clear hx
        have ql := hB.boxLt 0 rfl
        have HLT := Lib.hid (hB.keyLt 1 rfl)
        have hrd : Rd wr ar k1 := hB.keyRd 1 rfl
        have HRD := Lib.hid hrd
        have HB := Lib.hid hB
        clear hB hrd
        have hst : ∀ (W' : World), Rd W' ar k1 → Calls Try.prog 37 #[.agg #[.slice ar k1.length cr, .int .i64 s1, .int .i64 c1, .int .i64 n1, .int .u64 e1, .int .u64 f1, .int .i64 x1, .int .i64 y1], .agg #[.int .i64 kd, .int .i64 og, .int .i64 ob', .int .u64 oc, .int .u64 oa, .int .i64 os, .int .i64 on]] W' (StepR W' ar (stepL ⟨k1, s1, c1, n1, e1, f1, x1, y1⟩ ⟨kd, og, ob', oc, oa, os, on⟩) [.int .i64 (givenL ⟨k1, s1, c1, n1, e1, f1, x1, y1⟩ ⟨kd, og, ob', oc, oa, os, on⟩), .int .u64 (atL ⟨k1, s1, c1, n1, e1, f1, x1, y1⟩ ⟨kd, og, ob', oc, oa, os, on⟩)]) :=
          fun W' h => lawNext ⟨k1, s1, c1, n1, e1, f1, x1, y1⟩ ar cr ⟨kd, og, ob', oc, oa, os, on⟩ W' hMF.out HO.out h
        have hzf := (turn_of ⟨k1, s1, c1, n1, e1, f1, x1, y1⟩ ⟨kd, og, ob', oc, oa, os, on⟩).rise.fits hMF.out HO.out
        have htn := turn_of ⟨k1, s1, c1, n1, e1, f1, x1, y1⟩ ⟨kd, og, ob', oc, oa, os, on⟩
        generalize stepL ⟨k1, s1, c1, n1, e1, f1, x1, y1⟩ ⟨kd, og, ob', oc, oa, os, on⟩ = Z at hst hzf htn
        generalize givenL ⟨k1, s1, c1, n1, e1, f1, x1, y1⟩ ⟨kd, og, ob', oc, oa, os, on⟩ = gv at hst htn
        generalize atL ⟨k1, s1, c1, n1, e1, f1, x1, y1⟩ ⟨kd, og, ob', oc, oa, os, on⟩ = av at hst htn
        obtain ⟨k2, s2, c2, n2, e2, f2, x2, y2⟩ := Z
        have HST := Lib.hid hst
        have HZF := Lib.hid hzf
        have HT := Lib.hid htn
        clear hst hzf htn
        go_upto_region 11 with fail
        go_cut [13, 14, 15] from 49 to 58 (fun p o1 o2 wc => StepBox wr ar ⟨k2, s2, c2, n2, e2, f2, x2, y2⟩ p wc ∧ o1 = .int .i64 gv ∧ o2 = .int .u64 av)
        case first =>
          refine wp_calm (regionNever HX.out HRD.out HLT.out h1 (by omega) HST.out g0 g1 g2 g3 g4 g5 g6 ?_)
          intro p o1 o2 v49 v50 v51 v52 v53 v54 v55 v56 v57 v58 wc hs1 hs2 hs3
          dsimp only
          go_wp2_with fail
          go_meet
          case rel => exact ⟨hs1, (by first | exact hs2 | rfl), (by first | exact hs3 | rfl)⟩
        case rest =>
          obtain ⟨hsb, rfl, rfl⟩ := hcut
          obtain ⟨g, ar2, cr2, hp, hbag⟩ := HB.out.step hsb
          subst hp
          have HB2 := Lib.hid hbag
          clear HB hsb hbag q0 q1 q2 q3 q4 q5 q6 q7 qf g0 g1 g2 g3 g4 g5 g6 HRD HLT HST HX
          have hcase := HT.out.nev HI.out
          have HCASE := Lib.hid hcase
          clear hcase
          have hkd : wc.cell? ⟨ob, oo + k * 7, none⟩ = some (.int .i64 kd) := (HR.out.on HB2.out.below).kind h1 HKD.out
          have HLEN := Lib.hid HI.out.len
          obtain ⟨z0, z1, z2, z3, z4, z5, z6, z7, zf⟩ := cells8 (show wc.heap[g]? = some (.cells #[.slice ar2 k2.length cr2, .int .i64 s2, .int .i64 c2, .int .i64 n2, .int .u64 e2, .int .u64 f2, .int .i64 x2, .int .i64 y2] 27 (0, 0)) from HB2.out.box 0 rfl)
          have zl := HB2.out.boxLt 0 rfl
          obtain ⟨l0, l1, l2, l3, l4, l5, l6, l7, lf⟩ := cells8 (show wc.heap[W2.heap.size]? = some (.cells #[.slice ar k1.length cr, .int .i64 s1, .int .i64 c1, .int .i64 n1, .int .u64 e1, .int .u64 f1, .int .i64 x1, .int .i64 y1] 27 (0, 0)) from HB2.out.box 2 rfl)
          have ll := HB2.out.boxLt 2 rfl
          have ne := HB2.out.boxNe 0 2 rfl rfl (by decide)
          go_upto_region 12 with fail
          go_cut [66] from 59 to 66 (fun t wx => t = .bool false ∧ NeverA w wx (W2.heap.size) (W2.heap.size + 1) g (k * 8 + 1) #[.slice ar k1.length cr, .int .i64 s1, .int .i64 c1, .int .i64 n1, .int .u64 e1, .int .u64 f1, .int .i64 x1, .int .i64 y1] ⟨k1, s1, c1, n1, e1, f1, x1, y1⟩ ⟨k2, s2, c2, n2, e2, f2, x2, y2⟩ ar2 cr2 kd av u)
          case first =>
            cases HCASE.out with
            | quiet gp ne inv =>
              have HI2 := Lib.hid (show NevRest ⟨k1, s1, c1, n1, e1, f1, x1, y1⟩ ⟨k2, s2, c2, n2, e2, f2, x2, y2⟩ kd av u gs cs from .quiet ne inv)
              clear ne inv
              go_wp2_with fail
              go_meet
              case rel => exact ⟨rfl, _, _, _, _, HB2.out, HI2.out, HLEN.out, by have := HGL.out; omega⟩
            | again gp ne k4 k5 inv =>
              have HI2 := Lib.hid (show NevRest ⟨k1, s1, c1, n1, e1, f1, x1, y1⟩ ⟨k2, s2, c2, n2, e2, f2, x2, y2⟩ kd av u gs cs from .again ne k4 k5 inv)
              clear ne k4 k5 inv
              go_wp2_with fail
              go_meet
              case rel => exact ⟨rfl, _, _, _, _, HB2.out, HI2.out, HLEN.out, by have := HGL.out; omega⟩
            | answered gp ne k4 k5 a0 a1 lt fr inv =>
              have HI2 := Lib.hid (show NevRest ⟨k1, s1, c1, n1, e1, f1, x1, y1⟩ ⟨k2, s2, c2, n2, e2, f2, x2, y2⟩ kd av u gs cs from .answered ne k4 k5 a0 a1 lt fr inv)
              clear ne k4 k5 a0 a1 lt fr inv
              go_wp2_with fail
              go_meet
              case rel => exact ⟨rfl, _, _, _, _, HB2.out, HI2.out, HLEN.out, by have := HGL.out; omega⟩
            | opened gp ne k4 k5 inv =>
              have HI2 := Lib.hid (show NevRest ⟨k1, s1, c1, n1, e1, f1, x1, y1⟩ ⟨k2, s2, c2, n2, e2, f2, x2, y2⟩ kd av u gs cs from .opened ne k4 k5 inv)
              clear ne k4 k5 inv
              go_wp2_with fail
              go_meet
              case rel => exact ⟨rfl, _, _, _, _, HB2.out, HI2.out, HLEN.out, by have := HGL.out; omega⟩
            | propose gp ne fr inv =>
              have HI2 := Lib.hid (show NevRest ⟨k1, s1, c1, n1, e1, f1, x1, y1⟩ ⟨k2, s2, c2, n2, e2, f2, x2, y2⟩ kd av u (gs ++ [gv]) (cs ++ [0]) from .quiet ne inv)
              have FR := Lib.hid fr
              clear ne fr
              go_wp2_with fail
              refine (use_mid (m := k * 8 + 1) HB2.out gv 0 u HLEN.out (by have := HGL.out; omega) (by omega) FR.out inv).mono ?_
              rintro e W8 ⟨he, v16, v26, hm⟩
              subst he
              have HMID := Lib.hid hm
              clear hm inv
              go_wp2_with fail
              go_meet
              case rel => exact ⟨rfl, _, _, _, _, HMID.out.bag, HI2.out, HMID.out.inv.len, HMID.out.len⟩
          case rest =>
            obtain ⟨rfl, v16, v26, gs6, cs6, hb6, hr6, hl6, hg6⟩ := hcut
            obtain ⟨wd, rfl⟩ : ∃ wd : World, wd = wc := ⟨_, rfl⟩
            have HB6 := Lib.hid hb6
            have HR6 := Lib.hid hr6
            have HL6 := Lib.hid hl6
            have HG6 := Lib.hid hg6
            clear hb6 hr6 hl6 hg6 z0 z1 z2 z3 z4 z5 z6 z7 zf zl l0 l1 l2 l3 l4 l5 l6 l7 lf ll ne HB2 HCASE HGL HLEN
            have hkd : wd.cell? ⟨ob, oo + k * 7, none⟩ = some (.int .i64 kd) := (HR.out.on HB6.out.below).kind h1 HKD.out
            obtain ⟨z0, z1, z2, z3, z4, z5, z6, z7, zf⟩ := cells8 (show wd.heap[g]? = some (.cells #[.slice ar2 k2.length cr2, .int .i64 s2, .int .i64 c2, .int .i64 n2, .int .u64 e2, .int .u64 f2, .int .i64 x2, .int .i64 y2] 27 (0, 0)) from HB6.out.box 0 rfl)
            have zl := HB6.out.boxLt 0 rfl
            obtain ⟨l0, l1, l2, l3, l4, l5, l6, l7, lf⟩ := cells8 (show wd.heap[W2.heap.size]? = some (.cells #[.slice ar k1.length cr, .int .i64 s1, .int .i64 c1, .int .i64 n1, .int .u64 e1, .int .u64 f1, .int .i64 x1, .int .i64 y1] 27 (0, 0)) from HB6.out.box 2 rfl)
            have ll := HB6.out.boxLt 2 rfl
            have ne := HB6.out.boxNe 0 2 rfl rfl (by decide)
            go_upto_if 71 with fail
            go_cut [11] from 71 to 97 (fun t wx => NeverMidR w (W2.heap.size) (W2.heap.size + 1) g (k * 8 + 2) #[.slice ar k1.length cr, .int .i64 s1, .int .i64 c1, .int .i64 n1, .int .u64 e1, .int .u64 f1, .int .i64 x1, .int .i64 y1] ⟨k2, s2, c2, n2, e2, f2, x2, y2⟩ ar2 cr2 t wx)
            case first =>
              cases HR6.out with
              | quiet ne inv =>
                have HI2 := Lib.hid inv
                simp only at ne
                clear inv
                go_wp2_with fail
                go_meet
                case rel => exact ⟨_, _, _, _, _, rfl, HB6.out, HI2.out, by have := HG6.out; omega⟩
              | again ne k4 k5 inv =>
                have HI2 := Lib.hid inv
                simp only at ne
                clear inv
                go_wp2_with fail
                go_meet
                case rel => exact ⟨_, _, _, _, _, rfl, HB6.out, HI2.out, by have := HG6.out; omega⟩
              | answered ne k4 k5 a0 a1 lt fr inv =>
                have HI2 := Lib.hid inv
                have FR := Lib.hid fr
                simp only at ne lt
                clear inv fr
                go_wp2_with fail
                refine (use_mid (m := k * 8 + 2) HB6.out c2 av (av + 1) HL6.out (by have := HG6.out; omega) (by omega) FR.out HI2.out).mono ?_
                rintro e W8 ⟨he, v17, v27, hm⟩
                subst he
                have HMID := Lib.hid hm
                clear hm z0 z1 z2 z3 z4 z5 z6 z7 zf zl l0 l1 l2 l3 l4 l5 l6 l7 lf ll ne hkd
                have hkd : W8.cell? ⟨ob, oo + k * 7, none⟩ = some (.int .i64 kd) := (HR.out.on HMID.out.bag.below).kind h1 HKD.out
                go_wp2_with fail
                go_meet
                case rel => exact ⟨_, _, _, _, _, rfl, HMID.out⟩
              | opened ne k4 k5 inv =>
                have HI2 := Lib.hid inv
                simp only at ne
                clear inv
                go_wp2_with fail
                go_meet
                case rel => exact ⟨_, _, _, _, _, rfl, HB6.out, HI2.out, by have := HG6.out; omega⟩
            case rest =>
              obtain ⟨u6, v18, v28, gs8, cs8, rfl, hmid⟩ := hcut
              obtain ⟨we, rfl⟩ : ∃ we : World, we = wc := ⟨_, rfl⟩
              have HMID := Lib.hid hmid
              clear hmid z0 z1 z2 z3 z4 z5 z6 z7 zf zl l0 l1 l2 l3 l4 l5 l6 l7 lf ll ne hkd HB6 HR6 HL6 HG6
              obtain ⟨z0, z1, z2, z3, z4, z5, z6, z7, zf⟩ := cells8 (show we.heap[g]? = some (.cells #[.slice ar2 k2.length cr2, .int .i64 s2, .int .i64 c2, .int .i64 n2, .int .u64 e2, .int .u64 f2, .int .i64 x2, .int .i64 y2] 27 (0, 0)) from HMID.out.bag.box 0 rfl)
              have zl := HMID.out.bag.boxLt 0 rfl
              obtain ⟨l0, l1, l2, l3, l4, l5, l6, l7, lf⟩ := cells8 (show we.heap[W2.heap.size]? = some (.cells #[.slice ar k1.length cr, .int .i64 s1, .int .i64 c1, .int .i64 n1, .int .u64 e1, .int .u64 f1, .int .i64 x1, .int .i64 y1] 27 (0, 0)) from HMID.out.bag.box 2 rfl)
              have ll := HMID.out.bag.boxLt 2 rfl
              have ne := HMID.out.bag.boxNe 0 2 rfl rfl (by decide)
              have hms0 := never_move HMID.out HZF.out rfl
              have hms : NeverSt w ((((((((we.setCell ⟨W2.heap.size, 0, none⟩ (.slice ar2 k2.length cr2)).setCell ⟨W2.heap.size, 1, none⟩ (.int .i64 s2)).setCell ⟨W2.heap.size, 2, none⟩ (.int .i64 c2)).setCell ⟨W2.heap.size, 3, none⟩ (.int .i64 n2)).setCell ⟨W2.heap.size, 4, none⟩ (.int .u64 e2)).setCell ⟨W2.heap.size, 5, none⟩ (.int .u64 f2)).setCell ⟨W2.heap.size, 6, none⟩ (.int .i64 x2)).setCell ⟨W2.heap.size, 7, none⟩ (.int .i64 y2)) (W2.heap.size) (W2.heap.size + 1) (k * 8 + 2) ⟨k2, s2, c2, n2, e2, f2, x2, y2⟩ ar2 cr2 u6 _ _ _ _ := hms0
              clear hms0
              go_upto_region 23 with fail
              generalize ((((((((we.setCell ⟨W2.heap.size, 0, none⟩ (.slice ar2 k2.length cr2)).setCell ⟨W2.heap.size, 1, none⟩ (.int .i64 s2)).setCell ⟨W2.heap.size, 2, none⟩ (.int .i64 c2)).setCell ⟨W2.heap.size, 3, none⟩ (.int .i64 n2)).setCell ⟨W2.heap.size, 4, none⟩ (.int .u64 e2)).setCell ⟨W2.heap.size, 5, none⟩ (.int .u64 f2)).setCell ⟨W2.heap.size, 6, none⟩ (.int .i64 x2)).setCell ⟨W2.heap.size, 7, none⟩ (.int .i64 y2)) = U at hms ⊢
              have HS := Lib.hid hms
              clear hms HMID
              clear z0 z1 z2 z3 z4 z5 z6 z7 zf zl l0 l1 l2 l3 l4 l5 l6 l7 lf ll ne
              by_cases hul : k < us.length
              · obtain ⟨ub, uo, rfl, hucell⟩ : ∃ b o, up = some ⟨b, o, none⟩ ∧ _ := (HRU.out.on HS.out.bag.below).resolve_left (by intro h; rw [h] at hul; simp at hul)
                have hu0 := hucell k hul
                clear hucell
                obtain ⟨uk, huk⟩ : ∃ x, us.getD k 0 = x := ⟨_, rfl⟩
                rw [huk] at hu0
                have HUK := Lib.hid huk
                clear huk
                obtain ⟨l0, l1, l2, l3, l4, l5, l6, l7, lf⟩ := cells8 (show U.heap[W2.heap.size]? = some (.cells #[.slice ar2 k2.length cr2, .int .i64 s2, .int .i64 c2, .int .i64 n2, .int .u64 e2, .int .u64 f2, .int .i64 x2, .int .i64 y2] 27 (0, 0)) from HS.out.bag.box 0 rfl)
                have hk0 : (0 : Int) ≤ (k : Int) := by omega
                have huli : (k : Int) < (us.length : Int) := by omega
                go_upto_if 107 with fail
                go_cut [11] from 98 to 109 (fun a wx => wx = U ∧ NeverAt w (W2.heap.size) (W2.heap.size + 1) (k * 8 + 2) ⟨k2, s2, c2, n2, e2, f2, x2, y2⟩ ar2 cr2 a U)
                case first =>
                  by_cases hng : uk < 0
                  · go_wp2_with fail
                    go_meet
                    case rel => exact ⟨rfl, _, _, _, _, _, rfl, ⟨HS.out.bag, HS.out.fits, HS.out.inv.send, HS.out.len⟩⟩
                  · go_wp2_with fail
                    go_meet
                    case rel => exact ⟨rfl, _, _, _, _, _, rfl, HS.out⟩
                case rest =>
                  obtain ⟨rfl, u4, v14, v24, gs4, cs4, rfl, hst4⟩ := hcut
                  have HS4 := Lib.hid hst4
                  clear hst4 HS
                  obtain ⟨wo, rfl⟩ : ∃ wo : World, wo = wr := ⟨_, rfl⟩
                  go_wp2_with fail
                  go_loopw [11, 16] (NeverLoop w (W2.heap.size) (W2.heap.size + 1) (k * 8 + 2) ⟨k2, s2, c2, n2, e2, f2, x2, y2⟩ ar2 cr2) (fun _ n _ => 6 - (intOf n).toNat)
                  case atStart => exact ⟨0, u4, v14, v24, gs4, cs4, by omega, rfl, rfl, HS4.out⟩
                  case round =>
                    obtain ⟨n, u5, v15, v25, gs5, cs5, hn, rfl, rfl, hst5⟩ := hrel
                    have HS5 := Lib.hid hst5
                    clear hst5 HS4 hu0 l0 l1 l2 l3 l4 l5 l6 l7 lf
                    have hu5 := (HRU.out.on HS5.out.bag.below).num hul HUK.out
                    obtain ⟨l0, l1, l2, l3, l4, l5, l6, l7, lf⟩ := cells8 (show wr.heap[W2.heap.size]? = some (.cells #[.slice ar2 k2.length cr2, .int .i64 s2, .int .i64 c2, .int .i64 n2, .int .u64 e2, .int .u64 f2, .int .i64 x2, .int .i64 y2] 27 (0, 0)) from HS5.out.bag.box 0 rfl)
                    have hn0 : (0 : Int) ≤ (n : Int) := by omega
                    by_cases d1 : (n : Int) < uk
                    · by_cases d2 : (n : Int) < 6
                      · by_cases d3 : u5 < e2
                        · have hu6 := HS5.out.inv.u0
                          have hu7 : u5 ≤ 18446744073709551614 := by have := HZF.out.send1; simp only at this; omega
                          go_wp2_with fail
                          refine (use_st HS5.out d3 (by omega)).mono ?_
                          rintro e W9 ⟨he, v16, v26, hst6⟩
                          subst he
                          have HS6 := Lib.hid hst6
                          clear hst6 hu5 l0 l1 l2 l3 l4 l5 l6 l7 lf
                          go_wp2_with fail
                          go_roundw
                          case rel => exact ⟨n + 1, u5 + 1, v16, v26, _, _, by omega, by go_num, rfl, HS6.out⟩
                          case measure => simp [intOf]; omega
                        · go_wp2_with fail
                          go_roundw
                          case rel => exact ⟨k + 1, ⟨k2, s2, c2, n2, e2, f2, x2, y2⟩, ar2, cr2, u5, v15, v25, gs5, cs5, by omega, by omega, by go_num, rfl, HS5.out.bag, HS5.out.fits, HS5.out.inv, by have := HS5.out.len; omega⟩
                          case measure => simp [intOf]; omega
                      · go_wp2_with fail
                        go_roundw
                        case rel => exact ⟨k + 1, ⟨k2, s2, c2, n2, e2, f2, x2, y2⟩, ar2, cr2, u5, v15, v25, gs5, cs5, by omega, by omega, by go_num, rfl, HS5.out.bag, HS5.out.fits, HS5.out.inv, by have := HS5.out.len; omega⟩
                        case measure => simp [intOf]; omega
                    · go_wp2_with fail
                      go_roundw
                      case rel => exact ⟨k + 1, ⟨k2, s2, c2, n2, e2, f2, x2, y2⟩, ar2, cr2, u5, v15, v25, gs5, cs5, by omega, by omega, by go_num, rfl, HS5.out.bag, HS5.out.fits, HS5.out.inv, by have := HS5.out.len; omega⟩
                      case measure => simp [intOf]; omega
              · go_wp2_with fail
                go_roundw
                case rel => exact ⟨k + 1, ⟨k2, s2, c2, n2, e2, f2, x2, y2⟩, ar2, cr2, u6, _, _, _, _, by omega, by omega, by go_num, rfl, HS.out.bag, HS.out.fits, HS.out.inv, by have := HS.out.len; omega⟩
                case measure => simp [intOf]; omega
      · clear HR HOF
        have HBB := Lib.hid hB.below
        clear hB
        go_wp2_with fail
        go_ret
        exact ⟨rfl, HBB.out⟩
    · clear HR HOF
      have HBB := Lib.hid hB.below
      clear hB
      go_wp2_with fail
      go_ret
      exact ⟨rfl, HBB.out⟩
theorem lawNever (key : List (BitVec 8)) (ao : Option Addr) (cap : Nat) (side : Int) (ops : List Ask) (op : Option Addr) (cop : Nat) (us : List Int) (up : Option Addr) (cup : Nat) (w : World) (hr : Rd w ao key) (hlo : ops.length ≤ maxLen) (hro : Ro w op ops) (hof : ∀ i, i < ops.length → (ops.getD i Ask.none).fits) (hus : us.length ≤ maxLen) (hru : Rn w up us) :
   Calls Try.prog 9 #[.slice ao key.length cap, .int .i64 side, .slice op ops.length cop, .slice up us.length cup] w fun e w' => e = .returned (.bool true) ∧ Below w.heap.size w w' := by
  by_cases h : key.length = 32
  · by_cases h1 : 0 ≤ side
    · by_cases h2 : side ≤ 1
      · exact lawNever_y key ao cap side ops op cop us up cup w hr hlo hro hof h h1 h2 hus hru
      · exact lawNever_n2 key ao cap side ops op cop us up cup w hr h h1 h2
    · exact lawNever_n1 key ao cap side ops op cop us up cup w hr h h1
  · exact lawNever_n0 key ao cap side ops op cop us up cup w hr h
end Go.Proofs.Ytihndipgdogebaa
