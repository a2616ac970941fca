/- The reference's reader. -/
import Derived.Test.YtmhcfifenclebaaBitsRd2
import Derived.Test.YtmhcfifenclebaaBitsGP
import Derived.Test.YtmhcfifenclebaaCut
import Derived.StillTailTactics
namespace Go.Proofs.Ytmhcfifenclebaa
open Go.RowKit
/-- A reader of the reference at q over the bytes l (at ao), at place k, with error e. -/
structure Rdf (w : World) (q : Nat) (ao : Option Addr) (cap : Nat) (l : List (BitVec 8)) (k : Nat) (e : Int) : Prop where
  cells : w.heap[q]? = some (.cells #[.slice ao l.length cap, .int .i64 k, .int .i64 e] 71 (0, 0))
  rd : Rd w ao l
  old : ∀ a, ao = some a → a.block ≠ q ∧ a.block < w.heap.size
  le : k ≤ l.length
  cap : l.length ≤ cap
theorem Rdf.lt {w : World} {q : Nat} {ao : Option Addr} {cap : Nat} {l : List (BitVec 8)} {k : Nat} {e : Int} (h : Rdf w q ao cap l k e) : q < w.heap.size := (Array.getElem?_eq_some_iff.1 h.cells).1
theorem Rdf.only {S : Nat → Prop} {w w' : World} {q : Nat} {ao : Option Addr} {cap : Nat} {l : List (BitVec 8)} {k : Nat} {e : Int} (h : Rdf w q ao cap l k e) (hb : Only S w w') (hq : ¬ S q) (ha : ∀ a, ao = some a → ¬ S a.block) : Rdf w' q ao cap l k e :=
  ⟨(hb.block q h.lt hq).trans h.cells, h.rd.only hb ha, fun a x => ⟨(h.old a x).1, Nat.lt_of_lt_of_le (h.old a x).2 hb.size⟩, h.le, h.cap⟩
theorem Rdf.below {w w' : World} {q : Nat} {ao : Option Addr} {cap : Nat} {l : List (BitVec 8)} {k : Nat} {e : Int} (h : Rdf w q ao cap l k e) (hb : Below w.heap.size w w') : Rdf w' q ao cap l k e :=
  h.only (Only.of_below (S := fun _ => False) hb) (fun h => h) (fun _ _ h => h)
theorem Rdf.still {w w' : World} {q : Nat} {ao : Option Addr} {cap : Nat} {l : List (BitVec 8)} {k : Nat} {e : Int} (h : Rdf w q ao cap l k e) (hs : Still w w') : Rdf w' q ao cap l k e := h.below (hs.below _)
theorem Rdf.c0 {w : World} {q : Nat} {ao : Option Addr} {cap : Nat} {l : List (BitVec 8)} {k : Nat} {e : Int} (h : Rdf w q ao cap l k e) : w.cell? ⟨q, 0, none⟩ = some (.slice ao l.length cap) := by
  rw [cell_of_row _ _ _ _ _ _ h.cells]; rfl
theorem Rdf.c1 {w : World} {q : Nat} {ao : Option Addr} {cap : Nat} {l : List (BitVec 8)} {k : Nat} {e : Int} (h : Rdf w q ao cap l k e) : w.cell? ⟨q, 1, none⟩ = some (.int .i64 k) := by
  rw [cell_of_row _ _ _ _ _ _ h.cells]; rfl
theorem Rdf.c2 {w : World} {q : Nat} {ao : Option Addr} {cap : Nat} {l : List (BitVec 8)} {k : Nat} {e : Int} (h : Rdf w q ao cap l k e) : w.cell? ⟨q, 2, none⟩ = some (.int .i64 e) := by
  rw [cell_of_row _ _ _ _ _ _ h.cells]; rfl
theorem Rdf.free {w : World} {q : Nat} {ao : Option Addr} {cap : Nat} {l : List (BitVec 8)} {k : Nat} {e : Int} (h : Rdf w q ao cap l k e) (i : Nat) : w.frozen? ⟨q, i, none⟩ = false := frozen_of_row _ _ _ _ _ h.cells
theorem Rdf.put {w w' : World} {q : Nat} {ao : Option Addr} {cap : Nat} {l : List (BitVec 8)} {k k' : Nat} {e e' : Int} (h : Rdf w q ao cap l k e) (hl : k' ≤ l.length) (ho : Only (fun j => j = q) w w')
   (hp : w'.heap[q]? = some (.cells #[.slice ao l.length cap, .int .i64 k', .int .i64 e'] 71 (0, 0))) : Rdf w' q ao cap l k' e' :=
  ⟨hp, h.rd.only ho (fun a x => (h.old a x).1), fun a x => ⟨(h.old a x).1, Nat.lt_of_lt_of_le (h.old a x).2 ho.size⟩, hl, h.cap⟩
theorem Rdf.setErr {w : World} {q : Nat} {ao : Option Addr} {cap : Nat} {l : List (BitVec 8)} {k : Nat} {e : Int} (h : Rdf w q ao cap l k e) (x : Int) : Rdf (w.setCell ⟨q, 2, none⟩ (.int .i64 x)) q ao cap l k x :=
  h.put h.le (Only.setCell _ _ _ _) (heap_setCell_same w q 2 _ _ _ h.cells)
theorem Rdf.setAt {w : World} {q : Nat} {ao : Option Addr} {cap : Nat} {l : List (BitVec 8)} {k : Nat} {e : Int} (h : Rdf w q ao cap l k e) (n : Nat) (hn : n ≤ l.length) : Rdf (w.setCell ⟨q, 1, none⟩ (.int .i64 n)) q ao cap l n e :=
  h.put hn (Only.setCell _ _ _ _) (heap_setCell_same w q 1 _ _ _ h.cells)
theorem refNew (ao : Option Addr) (l : List (BitVec 8)) (cap : Nat) (w : World) (hl : l.length ≤ 140737488351232) (hr : Rd w ao l) :
   Calls Try.prog 19 #[.slice ao l.length cap] w fun e w' => ∃ q ao' cap', e = .returned (.pointer (some ⟨q, 0, none⟩)) ∧ w.heap.size ≤ q ∧ Rdf w' q ao' cap' l 0 0 ∧ (∀ a, ao' = some a → w.heap.size ≤ a.block) ∧ Below w.heap.size w w' := by
  go_enter Try.func19, Try.ntmps19
  go_wp2_with fail
  refine (bytesOf ao l cap w hl hr).mono ?_
  rintro e w1 ⟨v, rfl, hown, hb⟩
  obtain ⟨hlen, ar, cr, rfl, hrr, hB, hz, hc, -⟩ := owns_rdn hown
  clear hown hr
  have HR := Lib.hid hrr
  clear hrr
  go_wp2
  go_ret
  refine ⟨w1.heap.size, ar, cr, rfl, hb.size, ⟨?_, HR.out.on ((Below.refl _ w1).alloc (Nat.le_refl _) _), fun a x => ?_, Nat.zero_le _, hc⟩, fun a x => (hB a x).1, hb.alloc hb.size _⟩
  · exact heap_alloc_new w1 _
  · have := hB a x
    exact ⟨by omega, by show _ < (w1.heap.push _).size; simp; omega⟩
theorem fitsNo {w : World} {q : Nat} {ao : Option Addr} {cap : Nat} {l : List (BitVec 8)} {k : Nat} {e : Int} (h : Rdf w q ao cap l k e) (hl : l.length ≤ 140737488351232) (n : Int) (hno : ¬ (e = 0 ∧ 0 ≤ n ∧ n ≤ (l.length : Int) - k)) :
   Calls Try.prog 47 #[.pointer (some ⟨q, 0, none⟩), .int .i64 n] w fun x w' => x = .returned (.bool false) ∧ Rdf w' q ao cap l k (failE l k e n) ∧ Only (fun j => j = q) w w' := by
  have h0 := h.c0
  have h1 := h.c1
  have h2 := h.c2
  have hk := h.le
  have hf := h.free 2
  have H := Lib.hid h
  have HNO := Lib.hid hno
  clear hno
  by_cases he : e = 0
  · subst he
    by_cases hn : n < 0
    · clear h
      go_enter Try.func47, Try.ntmps47
      go_wp2
      go_ret
      have : failE l k 0 n = 11 := by simp [failE, hn]
      rw [this]
      exact ⟨rfl, H.out.setErr 11, Only.setCell _ _ _ _⟩
    · have hn2 : (l.length : Int) - k < n := by
        by_cases h3 : (l.length : Int) - k < n
        · exact h3
        · exact absurd ⟨rfl, by omega, by omega⟩ HNO.out
      clear h
      go_enter Try.func47, Try.ntmps47
      go_wp2_with fail
      go_quiet (fail)
      go_wp2
      go_ret
      have : failE l k 0 n = 10 := by simp [failE, hn, hn2]
      rw [this]
      exact ⟨rfl, (H.out.still ((Still.refl w).drewN _)).setErr 10, ((Still.refl w).drewN _).only.trans (Only.setCell _ _ _ _)⟩
  · have hne : (e != 0) = true := by simpa using he
    clear h hf
    go_enter Try.func47, Try.ntmps47
    go_wp2
    go_ret
    have : failE l k e n = e := by simp [failE, he]
    rw [this]
    exact ⟨rfl, H.out, Only.refl _ _⟩
theorem fitsYes {w : World} {q : Nat} {ao : Option Addr} {cap : Nat} {l : List (BitVec 8)} {k : Nat} (h : Rdf w q ao cap l k 0) (hl : l.length ≤ 140737488351232) (n : Nat) (hn : k + n ≤ l.length) :
   Calls Try.prog 47 #[.pointer (some ⟨q, 0, none⟩), .int .i64 n] w fun x w' => x = .returned (.bool true) ∧ Still w w' := by
  have h0 := h.c0
  have h1 := h.c1
  have h2 := h.c2
  clear h
  go_enter Try.func47, Try.ntmps47
  go_wp2_with fail
  go_quiet (fail)
  go_wp2
  go_ret
  exact ⟨rfl, (Still.refl w).drewN _⟩
theorem refLeft {w : World} {q : Nat} {ao : Option Addr} {cap : Nat} {l : List (BitVec 8)} {k : Nat} {e : Int} (h : Rdf w q ao cap l k e) (hl : l.length ≤ 140737488351232) :
   Calls Try.prog 38 #[.pointer (some ⟨q, 0, none⟩)] w fun x w' => x = .returned (.int .i64 (if e = 0 then ((l.length - k : Nat) : Int) else 0)) ∧ Still w w' := by
  have h0 := h.c0
  have h1 := h.c1
  have h2 := h.c2
  have hk := h.le
  clear h
  by_cases he : e = 0
  · subst he
    go_enter Try.func38, Try.ntmps38
    go_wp2_with fail
    go_quiet (fail)
    go_wp2
    go_ret
    exact ⟨by rw [Int.ofNat_sub hk]; rfl, (Still.refl w).drewN _⟩
  · have hne : (e != 0) = true := by simpa using he
    go_enter Try.func38, Try.ntmps38
    go_wp2
    go_ret
    exact ⟨rfl, Still.refl _⟩
end Go.Proofs.Ytmhcfifenclebaa
