/- The reader: how it stands in memory; NewReader, Err, Left, take, Bytes. -/
import Derived.Test.YtmhcfifenclebaaBytes2
import Derived.Test.YtmhcfifenclebaaMem
import Derived.Test.YtmhcfifenclebaaBitsNum
import Derived.Deep.QuietTactic
import Derived.BigQuiet
namespace Go.Proofs.Ytmhcfifenclebaa
open Go.RowKit
/-- A reader at p over the bytes l, whose memory is g, at place k, with error e; what is read may have been written over. -/
structure Rdr (w : World) (p g : Nat) (l : List (BitVec 8)) (k : Nat) (e : Int) : Prop where
  cells : w.heap[p]? = some (.cells #[.slice (some ⟨g, 0, none⟩) l.length l.length, .int .i64 k, .int .i64 e] 66 (0, 0))
  mem : ∃ c, w.heap[g]? = some (.cells c 5 (0, 0)) ∧ c.size = l.length ∧ ∀ i, k ≤ i → i < l.length → c[i]? = some (.int .u8 (n8 (l.getD i 0#8)))
  le : k ≤ l.length
  ne : p ≠ g
theorem Rdr.lt {w : World} {p g : Nat} {l : List (BitVec 8)} {k : Nat} {e : Int} (h : Rdr w p g l k e) : p < w.heap.size := (Array.getElem?_eq_some_iff.1 h.cells).1
theorem Rdr.lt' {w : World} {p g : Nat} {l : List (BitVec 8)} {k : Nat} {e : Int} (h : Rdr w p g l k e) : g < w.heap.size := by
  obtain ⟨c, h1, _⟩ := h.mem
  exact (Array.getElem?_eq_some_iff.1 h1).1
theorem Rdr.kept {w w' : World} {p g : Nat} {l : List (BitVec 8)} {k : Nat} {e : Int} (h : Rdr w p g l k e) (hp : w'.heap[p]? = w.heap[p]?) (hg : w'.heap[g]? = w.heap[g]?) : Rdr w' p g l k e :=
  ⟨hp.trans h.cells, by rw [hg]; exact h.mem, h.le, h.ne⟩
theorem Rdr.only {S : Nat → Prop} {w w' : World} {p g : Nat} {l : List (BitVec 8)} {k : Nat} {e : Int} (h : Rdr w p g l k e) (hb : Only S w w') (hp : ¬ S p) (hg : ¬ S g) : Rdr w' p g l k e :=
  h.kept (hb.block p h.lt hp) (hb.block g h.lt' hg)
theorem Rdr.below {w w' : World} {p g : Nat} {l : List (BitVec 8)} {k : Nat} {e : Int} (h : Rdr w p g l k e) (hb : Below w.heap.size w w') : Rdr w' p g l k e :=
  h.kept (hb.block p h.lt) (hb.block g h.lt')
theorem Rdr.still {w w' : World} {p g : Nat} {l : List (BitVec 8)} {k : Nat} {e : Int} (h : Rdr w p g l k e) (hs : Still w w') : Rdr w' p g l k e := h.below (hs.below _)
theorem Rdr.c0 {w : World} {p g : Nat} {l : List (BitVec 8)} {k : Nat} {e : Int} (h : Rdr w p g l k e) : w.cell? ⟨p, 0, none⟩ = some (.slice (some ⟨g, 0, none⟩) l.length l.length) := by
  rw [cell_of_row _ _ _ _ _ _ h.cells]; rfl
theorem Rdr.c1 {w : World} {p g : Nat} {l : List (BitVec 8)} {k : Nat} {e : Int} (h : Rdr w p g l k e) : w.cell? ⟨p, 1, none⟩ = some (.int .i64 k) := by
  rw [cell_of_row _ _ _ _ _ _ h.cells]; rfl
theorem Rdr.c2 {w : World} {p g : Nat} {l : List (BitVec 8)} {k : Nat} {e : Int} (h : Rdr w p g l k e) : w.cell? ⟨p, 2, none⟩ = some (.int .i64 e) := by
  rw [cell_of_row _ _ _ _ _ _ h.cells]; rfl
theorem Rdr.free {w : World} {p g : Nat} {l : List (BitVec 8)} {k : Nat} {e : Int} (h : Rdr w p g l k e) (i : Nat) : w.frozen? ⟨p, i, none⟩ = false := frozen_of_row _ _ _ _ _ h.cells
theorem Rdr.setErr {w : World} {p g : Nat} {l : List (BitVec 8)} {k : Nat} {e : Int} (h : Rdr w p g l k e) (x : Int) : Rdr (w.setCell ⟨p, 2, none⟩ (.int .i64 x)) p g l k x := by
  refine ⟨heap_setCell_same w p 2 _ _ _ h.cells, ?_, h.le, h.ne⟩
  rw [heap_setCell_other w _ g _ (Ne.symm h.ne)]; exact h.mem
theorem Rdr.setAt {w : World} {p g : Nat} {l : List (BitVec 8)} {k : Nat} {e : Int} (h : Rdr w p g l k e) (n : Nat) (hn : n ≤ l.length) (hk : k ≤ n) : Rdr (w.setCell ⟨p, 1, none⟩ (.int .i64 n)) p g l n e := by
  refine ⟨heap_setCell_same w p 1 _ _ _ h.cells, ?_, hn, h.ne⟩
  rw [heap_setCell_other w _ g _ (Ne.symm h.ne)]
  obtain ⟨c, h1, h2, h3⟩ := h.mem
  exact ⟨c, h1, h2, fun i hi => h3 i (by omega)⟩
theorem Rdr.rd {w : World} {p g : Nat} {l : List (BitVec 8)} {k : Nat} {e : Int} (h : Rdr w p g l k e) (n : Nat) : Rd w (some ⟨g, k, none⟩) ((l.drop k).take n) := by
  obtain ⟨c, h1, h2, h3⟩ := h.mem
  refine Or.inr ⟨g, k, rfl, fun i hi => ?_⟩
  simp only [List.length_take, List.length_drop] at hi
  rw [cell_of_row _ _ _ _ _ _ h1, h3 (k + i) (by omega) (by omega)]
  simp [List.getD, show i < n by omega]
theorem newReader (ao : Option Addr) (l : List (BitVec 8)) (cap : Nat) (w : World) (hl : l.length ≤ 140737488351232) (hr : Rd w ao l) :
   Calls Try.prog 14 #[.slice ao l.length cap] w fun e w' => ∃ p g, e = .returned (.pointer (some ⟨p, 0, none⟩)) ∧ w.heap.size ≤ p ∧ w.heap.size ≤ g ∧ Rdr w' p g l 0 0 ∧ Below w.heap.size w w' := by
  obtain ⟨i0, hi, hz0, hz1, hz2⟩ := info_parts info_u8
  go_enter Try.func14, Try.ntmps14
  go_wp2_with (at_make; refine wpList_make_bytes rfl _ _ 22 rfl 5 i0 Try.underlying22 hi hz0 hz1 hz2 .i64 .i64 l.length (by go_num) (by go_num) (by omega) ?_)
  intro w2 hO hs2 hB2
  have hr2 := hr.on hB2.fresh
  go_wp2_with (with_reducible refine wpList_copy_bytes rfl (.tmp 12) (.tmp 13) 22 22 rfl 5 i0 Try.underlying22 hi hz1 w.heap.size l.length l.length ao l.length cap ?hd ?hs l.length 5 (List.replicate l.length 0#8) l ?hO ?hL ?hr rfl ?hmn ?_)
  case hd => rfl
  case hs => rfl
  case hO => exact hO.only (Only.alloc (fun _ => False) _ _) (fun h => h)
  case hL => simp
  case hr => exact hr2.only (Only.alloc (fun _ => False) _ _) (fun _ _ h => h)
  case hmn => omega
  intro w3 hO3 hs3 hB3
  have hp : w3.heap[w.heap.size + 1]? = some (.cells #[.slice (some ⟨w.heap.size, 0, none⟩) l.length l.length, .int .i64 0, .int .i64 0] 66 (0, 0)) := by
    rw [hB3.block (w.heap.size + 1) (by show _ < (w2.heap.push _).size; simp; omega) (by omega), ← hs2]
    exact heap_alloc_new w2 _
  have hb : Below w.heap.size w w3 := (((hB2.trans (Only.alloc (fun _ => False) w2 _)).mono (T := fun k => k = w.heap.size) (fun _ _ h => h.elim)).trans hB3).below (fun _ h => by omega) (Nat.le_refl _)
  have HO := Lib.hid hO3
  have HP := Lib.hid hp
  clear hO3 hp hO hr2 hr
  go_wp2
  go_ret
  refine ⟨w.heap.size + 1, w.heap.size, rfl, by omega, Nat.le_refl _, ⟨HP.out, ?_, Nat.zero_le _, by omega⟩, hb⟩
  obtain ⟨c, h1, h2, h3, h4⟩ := HO.out
  refine ⟨c, h1, h2, fun i _ hi => ?_⟩
  rw [← bts_get l i hi]
  have h5 : c.toList.take l.length = bts l := by simpa using h4
  rw [← h5]
  simp [hi]
theorem readerErr {w : World} {p g : Nat} {l : List (BitVec 8)} {k : Nat} {e : Int} (h : Rdr w p g l k e) :
   Calls Try.prog 16 #[.pointer (some ⟨p, 0, none⟩)] w fun x w' => x = .returned (.tuple #[.int .i64 e, .int .i64 k]) ∧ Still w w' := by
  have h1 := h.c1
  have h2 := h.c2
  clear h
  go_enter Try.func16, Try.ntmps16
  go_wp2_with fail
  go_quiet (fail)
  go_wp2
  go_ret2
  exact ⟨rfl, (Still.refl w).drewN _⟩
theorem readerLeft {w : World} {p g : Nat} {l : List (BitVec 8)} {k : Nat} {e : Int} (h : Rdr w p g l k e) (hl : l.length ≤ 140737488351232) :
   Calls Try.prog 18 #[.pointer (some ⟨p, 0, none⟩)] w fun x w' => x = .returned (.int .i64 (if e = 0 then ((l.length - k : Nat) : Int) else 0)) ∧ Still w w' := by
  have h0 := h.c0
  have h1 := h.c1
  have h2 := h.c2
  have hk := h.le
  clear h
  by_cases he : e = 0
  · subst he
    go_enter Try.func18, Try.ntmps18
    go_wp2_with fail
    go_quiet (fail)
    go_wp2
    go_ret
    exact ⟨by rw [Int.ofNat_sub hk]; rfl, (Still.refl w).drewN _⟩
  · have hne : (e != 0) = true := by simpa using he
    go_enter Try.func18, Try.ntmps18
    go_wp2
    go_ret
    exact ⟨rfl, Still.refl _⟩
/-- The error behind a read of n bytes that fails. -/
def failE (l : List (BitVec 8)) (k : Nat) (e n : Int) : Int := if e ≠ 0 then e else if n < 0 then 11 else if (l.length : Int) - k < n then 10 else 0
theorem takeNo {w : World} {p g : Nat} {l : List (BitVec 8)} {k : Nat} {e : Int} (h : Rdr w p g l k e) (hl : l.length ≤ 140737488351232) (n : Int) (hno : ¬ (e = 0 ∧ 0 ≤ n ∧ n ≤ (l.length : Int) - k)) :
   Calls Try.prog 40 #[.pointer (some ⟨p, 0, none⟩), .int .i64 n] w fun x w' => x = .returned (.tuple #[.slice none 0 0, .bool false]) ∧ Rdr w' p g l k (failE l k e n) ∧ failE l k e n ≠ 0 ∧ Only (fun j => j = p) w w' := by
  have h0 := h.c0
  have h1 := h.c1
  have h2 := h.c2
  have hk := h.le
  have hf := h.free 2
  have H := Lib.hid h
  have HNO := Lib.hid hno
  clear hno
  by_cases he : e = 0
  · subst he
    by_cases hn : n < 0
    · clear h
      go_enter Try.func40, Try.ntmps40
      go_wp2
      go_ret2
      have : failE l k 0 n = 11 := by simp [failE, hn]
      rw [this]
      exact ⟨rfl, H.out.setErr 11, by decide, Only.setCell _ _ _ _⟩
    · have hn2 : (l.length : Int) - k < n := by
        by_cases h3 : (l.length : Int) - k < n
        · exact h3
        · exact absurd ⟨rfl, by omega, by omega⟩ HNO.out
      clear h
      go_enter Try.func40, Try.ntmps40
      go_wp2_with fail
      go_quiet (fail)
      go_wp2
      go_ret2
      have : failE l k 0 n = 10 := by simp [failE, hn, hn2]
      rw [this]
      have hS := (Still.refl w).drewN nq
      exact ⟨rfl, (H.out.still hS).setErr 10, by decide, ((Still.refl w).drewN _).only.trans (Only.setCell _ _ _ _)⟩
  · have hne : (e != 0) = true := by simpa using he
    clear h hf
    go_enter Try.func40, Try.ntmps40
    go_wp2
    go_ret2
    have : failE l k e n = e := by simp [failE, he]
    rw [this]
    exact ⟨rfl, H.out, he, Only.refl _ _⟩
theorem takeYes {w : World} {p g : Nat} {l : List (BitVec 8)} {k : Nat} (h : Rdr w p g l k 0) (hl : l.length ≤ 140737488351232) (n : Nat) (hn : k + n ≤ l.length) :
   Calls Try.prog 40 #[.pointer (some ⟨p, 0, none⟩), .int .i64 n] w fun x w' => ∃ ao, x = .returned (.tuple #[.slice ao n n, .bool true]) ∧ (0 < n → ao = some ⟨g, k, none⟩) ∧ Rdr w' p g l (k + n) 0 ∧ Only (fun j => j = p) w w' := by
  have h0 := h.c0
  have h1 := h.c1
  have h2 := h.c2
  have hf := h.free 1
  have H := Lib.hid h
  clear h
  rcases Nat.eq_zero_or_pos n with rfl | hn0
  · go_enter Try.func40, Try.ntmps40
    go_wp2_with fail
    go_quiet (fail)
    go_wp2_with fail
    go_quiet (fail)
    go_wp2
    go_ret2
    exact ⟨_, rfl, fun h => by omega, (H.out.still ((Still.refl w).drewN _)).setAt k hn (Nat.le_refl _), ((Still.refl w).drewN _).only.trans (Only.setCell _ _ _ _)⟩
  · have hne : ¬ (n = 0) := by omega
    have hkn : k + n - k = n := by omega
    go_enter Try.func40, Try.ntmps40
    go_wp2_with fail
    go_quiet (fail)
    go_wp2_with fail
    go_quiet (fail)
    go_wp2
    go_ret2
    exact ⟨some ⟨g, k, none⟩, by show Ending.returned (.tuple #[.slice (some ⟨g, k, none⟩) (k + n - k) (k + n - k), .bool true]) = _; rw [hkn], fun _ => rfl, (H.out.still ((Still.refl w).drewN _)).setAt (k + n) hn (by omega), ((Still.refl w).drewN _).only.trans (Only.setCell _ _ _ _)⟩
end Go.Proofs.Ytmhcfifenclebaa
