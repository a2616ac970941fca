/- The Book's lists of bytes are written over. -/
import Derived.Test.YtjlhnepjpjlppaaGreatDoorBookB
import Derived.Test.YtjlhnepjpjlppaaGreatDoorCut
namespace Go.Proofs.YtjlhnepjpjlppaaGreatDoor
open Go.RowKit
def bookCells (base pass : Int) (vB vW vG : Value) : Array Value := #[.int .i64 base, .int .i64 pass, vB, vW, vG, .slice none 0 0, .slice none 0 0, .slice none 0 0, .slice none 0 0, .slice none 0 0, .slice none 0 0, .slice none 0 0, .slice none 0 0, .slice none 0 0, .slice none 0 0, .slice none 0 0, .slice none 0 0, .slice none 0 0, .slice none 0 0, .slice none 0 0, .slice none 0 0, .slice none 0 0, .slice none 0 0, .slice none 0 0, .slice none 0 0, .slice none 0 0, .slice none 0 0, .slice none 0 0, .slice none 0 0, .slice none 0 0, .slice none 0 0, .slice none 0 0, .slice none 0 0, .slice none 0 0, .slice none 0 0, .slice none 0 0, .slice none 0 0, .slice none 0 0, .slice none 0 0, .slice none 0 0, .slice none 0 0, .slice none 0 0, .slice none 0 0, .slice none 0 0, .slice none 0 0, .slice none 0 0, .slice none 0 0, .slice none 0 0, .slice none 0 0, .slice none 0 0, .slice none 0 0, .slice none 0 0, .slice none 0 0]
/-- The Book's own block. -/
def It.bk (p : Nat) (base pass : Int) (vB vW vG : Value) : It := .box p (bookCells base pass vB vW vG) 50
theorem bkCell {w W : World} {l : List It} {p : Nat} {base pass : Int} {vB vW vG : Value} (h : Bag w W (.bk p base pass vB vW vG :: l)) (j : Nat) (v : Value) (hv : (bookCells base pass vB vW vG)[j]? = some v) : W.cell? ⟨p, j, none⟩ = some v ∧ W.frozen? ⟨p, j, none⟩ = false :=
  have hx := h.box 0 rfl
  ⟨(cell_of_row W p j _ _ _ hx).trans hv, frozen_of_row W p j _ _ hx⟩
def It.ls (e : TypeId) (v : Value) (xs : List Value) : It := .lst e 1 v xs.length xs
def Ent.wr (pass id : Int) (E : Ent) : Ent := { E with l := marks pass id E.l.length }
def wrAll (pass : Int) : Int → List Ent → List Ent
  | _, [] => []
  | id, E :: r => E.wr pass (id + 1) :: wrAll pass (id + 1) r
theorem wrAll_snoc (pass : Int) (E : Ent) : ∀ (l : List Ent) (id : Int), wrAll pass id (l ++ [E]) = wrAll pass id l ++ [E.wr pass (id + l.length + 1)]
  | [], id => by simp [wrAll]
  | A :: r, id => by
    simp only [List.cons_append, wrAll, wrAll_snoc pass E r (id + 1), List.length_cons]
    rw [show id + 1 + (r.length : Int) + 1 = id + ((r.length + 1 : Nat) : Int) + 1 by omega]
theorem wr_v (pass id : Int) (E : Ent) : (E.wr pass id).v = E.v := by simp [Ent.wr, Ent.v, marks_len]
theorem wrAll_v (pass : Int) : ∀ (l : List Ent) (id : Int), (wrAll pass id l).map Ent.v = l.map Ent.v
  | [], _ => rfl
  | E :: r, id => by simp only [wrAll, List.map_cons, wr_v, wrAll_v pass r]
theorem wrAll_len (pass : Int) : ∀ (l : List Ent) (id : Int), (wrAll pass id l).length = l.length
  | [], _ => rfl
  | E :: r, id => by simp only [wrAll, List.length_cons, wrAll_len pass r]
/-- Nothing has been grown yet. -/
def Raw (E : Ent) : Prop := E.go = none ∧ E.gc = 0 ∧ E.m = []
theorem wrAll_raw (pass : Int) : ∀ (l : List Ent) (id : Int), (∀ E ∈ l, Raw E) → ∀ E ∈ wrAll pass id l, Raw E
  | [], _, _ => by simp [wrAll]
  | E :: r, id, h => by
    intro E' hE
    rcases List.mem_cons.1 hE with rfl | hE
    · exact h E (by simp)
    · exact wrAll_raw pass r (id + 1) (fun E hE => h E (by simp [hE])) E' hE
/-- An element of a list of slices. -/
theorem lsElem {w W : World} {l : List It} {e : TypeId} {v : Value} {xs : List Value} (h : Bag w W l) (k : Nat) (hk : l[k]? = some (.ls e v xs)) (j : Nat) (hj : j < xs.length) :
    ∃ g cap, v = .slice (some ⟨g, 0, none⟩) xs.length cap ∧ W.cell? ⟨g, j, none⟩ = xs[j]? ∧ W.frozen? ⟨g, j, none⟩ = false := h.elem k hk j hj
theorem lsForm {w W : World} {l : List It} {e : TypeId} {v : Value} {xs : List Value} (h : Bag w W l) (k : Nat) (hk : l[k]? = some (.ls e v xs)) : ∃ ao cap, v = .slice ao xs.length cap ∧ xs.length ≤ cap := h.lstForm k hk
/-- A byte written in a kept list. -/
theorem entByte {W : World} {e : TypeId} {E : Ent} (h : (It.ent e E).holds W) (hraw : Raw E) (j : Nat) (hj : j < E.l.length) (x : BitVec 8) :
    ∃ b, E.ao = some ⟨b, 0, none⟩ ∧ (∃ y, W.cell? ⟨b, j, none⟩ = some (.int .u8 y)) ∧ W.frozen? ⟨b, j, none⟩ = false ∧ (It.ent e { E with l := E.l.set j x }).holds (W.setCell ⟨b, j, none⟩ (.int .u8 (n8 x))) := by
  obtain ⟨h1, h2, h3⟩ := h
  obtain ⟨r1, r2, r3⟩ := hraw
  rcases h1 with ⟨h0, _⟩ | ⟨g, hg, h0, ho⟩
  · rw [h0] at hj; simp at hj
  · refine ⟨g, hg, ⟨_, ho.cell j hj⟩, ho.free j, Or.inr ⟨g, hg, h0, ho.set j x⟩, Or.inl ⟨r3, r1, r2⟩, ?_⟩
    intro a b _ hb
    rw [r1] at hb; cases hb
theorem marks_zero (pass id : Int) : marks pass id 0 = [] := rfl
set_option maxRecDepth 100000 in
set_option maxHeartbeats 1000000 in
theorem bytesWrite (w W : World) (p : Nat) (base pass id : Int) (vB vW vG : Value) (es : List Ent) (rest : List It) (hraw : ∀ E ∈ es, Raw E) (hn : es.length ≤ 1000000) (hid : 0 ≤ id ∧ id ≤ 1000000) (hlen : ∀ E ∈ es, E.l.length ≤ 140737488355328)
   (hB : Bag w W (.bk p base pass vB vW vG :: .ls 22 vB (es.map Ent.v) :: (es.map (It.ent 5) ++ rest))) :
   Calls Tryz.prog 43 #[.pointer (some ⟨p, 0, none⟩), .int .i64 id] W fun e W' => e = .returned (.int .i64 (id + es.length)) ∧ Bag w W' (.bk p base pass vB vW vG :: .ls 22 vB (es.map Ent.v) :: ((wrAll pass id es).map (It.ent 5) ++ rest)) := by
  obtain ⟨aB, cB, rfl, hcB⟩ := lsForm hB 1 rfl
  rw [List.length_map] at hcB
  have HB := Lib.hid hB
  have HRaw := Lib.hid hraw
  have HLen := Lib.hid hlen
  clear hB hraw hlen
  have hls : (es.map Ent.v).length = es.length := List.length_map ..
  rw [hls] at HB
  have HLs := Lib.hid hls
  clear hls
  go_enter Tryz.func43, Tryz.ntmps43
  go_wp2
  go_loopw [1, 5, 6] (fun a i _ wr => ∃ k : Nat, k ≤ es.length ∧ a = .int .i64 (id + k) ∧ i = .int .i64 k ∧ Bag w wr (.bk p base pass (.slice aB es.length cB) vW vG :: .ls 22 (.slice aB es.length cB) (es.map Ent.v) :: ((wrAll pass id (es.take k)).map (It.ent 5) ++ ((es.drop k).map (It.ent 5) ++ rest)))) (fun _ i _ _ => es.length - (intOf i).toNat)
  case atStart => exact ⟨0, Nat.zero_le _, by simp, rfl, by simpa [wrAll] using HB.out⟩
  case round =>
    obtain ⟨k, hk, rfl, rfl, hB⟩ := hrel
    clear HB
    have HB := Lib.hid hB
    obtain ⟨b2, f2⟩ := bkCell hB 2 (.slice aB es.length cB) rfl
    obtain ⟨b1, f1⟩ := bkCell hB 1 (.int .i64 pass) rfl
    clear hB
    by_cases hlt : k < es.length
    · obtain ⟨E, hE⟩ : ∃ E, es[k]? = some E := ⟨es[k], List.getElem?_eq_getElem hlt⟩
      have hEm : E ∈ es := List.mem_of_getElem? hE
      have hd : es.drop k = E :: es.drop (k + 1) := by
        rw [List.drop_eq_getElem_cons hlt]
        congr 1
        rw [List.getElem?_eq_getElem hlt] at hE
        exact Option.some.inj hE
      have ht : es.take (k + 1) = es.take k ++ [E] := by
        rw [List.take_succ_eq_append_getElem hlt]
        congr 2
        rw [List.getElem?_eq_getElem hlt] at hE
        exact Option.some.inj hE
      obtain ⟨gB, cB', hv, hel, hfz⟩ := lsElem HB.out 1 rfl k (by rw [HLs.out]; exact hlt)
      obtain ⟨rfl, rfl⟩ : aB = some ⟨gB, 0, none⟩ ∧ cB = cB' := by
        simp only [Value.slice.injEq] at hv
        exact ⟨hv.1, hv.2.2⟩
      rw [List.getElem?_map, hE] at hel
      have hel' : wr.cell? ⟨gB, k, none⟩ = some (.slice E.ao E.l.length E.cap) := hel
      have h0 := HB.out
      rw [hd] at h0
      obtain ⟨L1, hL1⟩ : ∃ L, It.bk p base pass (.slice (some ⟨gB, 0, none⟩) es.length cB) vW vG :: .ls 22 (.slice (some ⟨gB, 0, none⟩) es.length cB) (es.map Ent.v) :: (wrAll pass id (es.take k)).map (It.ent 5) = L := ⟨_, rfl⟩
      obtain ⟨L2, hL2⟩ : ∃ L, (es.drop (k + 1)).map (It.ent 5) ++ rest = L := ⟨_, rfl⟩
      have h1 : Bag w wr (L1 ++ It.ent 5 E :: L2) := by
        rw [← hL1, ← hL2]
        simpa using h0
      have HL1 := Lib.hid hL1
      have HL2 := Lib.hid hL2
      have HD := Lib.hid hd
      have HT := Lib.hid ht
      have HE := Lib.hid hE
      have hrE := HRaw.out E hEm
      have hlE := HLen.out E hEm
      clear HB h0 hd ht hL1 hL2 hv hel hE hEm
      have HB := Lib.hid h1
      clear h1
      obtain ⟨hq1, hq2⟩ : (0 : Int) ≤ id + k ∧ id + k ≤ 2000000 := by omega
      have hw1 := wrapI64 (id + (k : Int) + 1) (by omega) (by omega)
      go_wp2_with fail
      have HEl := Lib.hid (show (es.map Ent.v)[k]? = some E.v by rw [List.getElem?_map, HE.out]; rfl)
      clear b1 b2 f1 f2 hel' hfz
      generalize wr = wo at *
      go_loopw [6] (fun j wr => ∃ q : Nat, q ≤ E.l.length ∧ j = .int .i64 q ∧ Bag w wr (L1 ++ It.ent 5 { E with l := marks pass (id + k + 1) q ++ E.l.drop q } :: L2)) (fun j _ => E.l.length - (intOf j).toNat)
      case atStart => exact ⟨0, Nat.zero_le _, rfl, by simpa [marks_zero] using HB.out⟩
      case round =>
        obtain ⟨q, hq, rfl, hB⟩ := hrel
        clear HB
        have HB := Lib.hid hB
        have hB' := hB
        rw [← HL1.out] at hB'
        obtain ⟨b2, f2⟩ := bkCell hB' 2 (.slice (some ⟨gB, 0, none⟩) es.length cB) rfl
        obtain ⟨b1, f1⟩ := bkCell hB' 1 (.int .i64 pass) rfl
        obtain ⟨gB', cB', hv, hel, hfz⟩ := lsElem hB' 1 rfl k (by rw [HLs.out]; exact hlt)
        simp only [Value.slice.injEq, Option.some.injEq, Addr.mk.injEq, and_true] at hv
        obtain ⟨hg, hv2⟩ := hv
        subst hg
        clear hv2
        rw [HEl.out] at hel
        have hel' : wr.cell? ⟨gB, k, none⟩ = some (.slice E.ao E.l.length E.cap) := hel
        clear hB hB' hel hfz
        have hll : (marks pass (id + k + 1) q ++ E.l.drop q).length = E.l.length := by rw [List.length_append, marks_len, List.length_drop]; omega
        by_cases hlq : q < E.l.length
        · obtain ⟨gl, hao, ⟨y, hcell⟩, hfree, hnew⟩ := entByte HB.out.midAt hrE q (by rw [hll]; exact hlq) (bm pass (id + k + 1) q)
          simp only at hao hnew
          rw [marks_set pass _ E.l q hlq] at hnew
          have HN := Lib.hid hnew
          have HA := Lib.hid hao
          rw [hao] at hel'
          clear hnew hll
          go_wp2_with fail
          refine wp_region_still_tail 12 (by kernel_rfl) (by kernel_rfl) ?_
          simp only [List.take_succ_cons, List.take_zero, List.drop_succ_cons, List.drop_zero]
          repeat still_step
          still_call (byteMark p pass (id + k + 1) q wr.drew b1)
          refine wpStill_nil ?_
          change wpList _ _ _ _ _ wr.drew
          have HB1 := Lib.hid (HB.out.drew.mid (Only.setCell wr.drew gl q (.int .u8 (n8 (bm pass (id + k + 1) q)))) (fun j hj => Or.inl ⟨_, HA.out, hj.symm⟩) (show (It.ent 5 { E with l := marks pass (id + k + 1) (q + 1) ++ E.l.drop (q + 1) }).holds (wr.drew.setCell ⟨gl, q, none⟩ (.int .u8 (n8 (bm pass (id + k + 1) q)))) from HN.out) (fun j hj => Or.inl hj))
          clear HB HN
          go_wp2_with fail
          go_roundw
          case rel => exact ⟨q + 1, by omega, by go_num, HB1.out⟩
          case measure => simp [intOf]; omega
        · obtain rfl : q = E.l.length := by omega
          clear HLen HRaw
          go_wp2_with fail
          go_roundw
          case rel =>
            refine ⟨k + 1, by omega, by rw [show ((k + 1 : Nat) : Int) = (k : Int) + 1 by omega, Int.add_assoc], by go_num, ?_⟩
            have h0 := HB.out
            rw [List.drop_of_length_le (Nat.le_refl _), List.append_nil, ← HL1.out, ← HL2.out] at h0
            rw [HT.out, wrAll_snoc, List.length_take, Nat.min_eq_left (by omega)]
            simpa [Ent.wr, List.map_append] using h0
          case measure => simp [intOf]; omega
    · clear HLen HRaw
      go_wp2
      go_ret
      have hk2 : k = es.length := by omega
      refine ⟨by rw [hk2]; rfl, ?_⟩
      rw [HLs.out]
      have := HB.out
      rw [hk2] at this
      simpa using this
end Go.Proofs.YtjlhnepjpjlppaaGreatDoor
