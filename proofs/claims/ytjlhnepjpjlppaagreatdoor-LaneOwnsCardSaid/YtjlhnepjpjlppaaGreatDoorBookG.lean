/- The Book's lists of bytes are grown by one element each. -/
import Derived.Test.YtjlhnepjpjlppaaGreatDoorBook1
import Derived.Test.YtjlhnepjpjlppaaGreatDoorBookH
import Derived.Deep.DeepCutAuto
namespace Go.Proofs.YtjlhnepjpjlppaaGreatDoor
open Go.RowKit
theorem info_sl : (Tryz.prog.info? 22).map (fun i => (i.zero, i.size, i.bytes)) = some (some (.slice none 0 0), 1, 24) := by kernel_rfl
theorem info_sl_parts : ∃ i0, Tryz.prog.info? 22 = some i0 ∧ i0.zero = some (.slice none 0 0) ∧ i0.size = 1 ∧ i0.bytes = 24 := by
  obtain ⟨i, hi, h⟩ := Option.map_eq_some_iff.1 info_sl
  simp only [Prod.mk.injEq] at h
  exact ⟨i, hi, h.1, h.2.1, h.2.2⟩
/-- Grown by one mark each; 'first': from the list itself on. -/
def Grew (first : Bool) (pass id : Int) (es es' : List Ent) : Prop := ∀ (k : Nat) (E E' : Ent), es[k]? = some E → es'[k]? = some E' → E'.ao = E.ao ∧ E'.cap = E.cap ∧ E'.l = E.l ∧ E'.m = (if first then E.l else E.m) ++ [bm pass (id + k + 1) (if first then E.l else E.m).length]
theorem grew_snoc {first : Bool} {pass id : Int} {es dn : List Ent} {k : Nat} {E E' : Ent} (h : Grew first pass id es dn) (hk : dn.length = k) (hE : es[k]? = some E) (h1 : E'.ao = E.ao ∧ E'.cap = E.cap ∧ E'.l = E.l ∧ E'.m = (if first then E.l else E.m) ++ [bm pass (id + k + 1) (if first then E.l else E.m).length]) : Grew first pass id es (dn ++ [E']) := by
  intro j A A' hA hA'
  rcases Nat.lt_trichotomy j k with hj | hj | hj
  · rw [List.getElem?_append_left (by omega)] at hA'
    exact h j A A' hA hA'
  · subst hj
    rw [List.getElem?_append_right (by omega), hk, Nat.sub_self] at hA'
    simp at hA'
    rw [hE] at hA
    cases hA
    rw [← hA']
    exact h1
  · rw [List.getElem?_eq_none (by simp; omega)] at hA'
    cases hA'
theorem lsCell {w W : World} {l : List It} {e : TypeId} {g n cap : Nat} {xs : List Value} (h : Bag w W l) (k : Nat) (hk : l[k]? = some (.ls e (.slice (some ⟨g, 0, none⟩) n cap) xs)) (hn : xs.length = n) (j : Nat) (hj : j < n) : W.cell? ⟨g, j, none⟩ = xs[j]? ∧ W.frozen? ⟨g, j, none⟩ = false := by
  obtain ⟨g', c', hv, h1, h2⟩ := lsElem h k hk j (by omega)
  simp only [Value.slice.injEq, Option.some.injEq, Addr.mk.injEq] at hv
  obtain ⟨⟨rfl, _⟩, _⟩ := hv
  exact ⟨h1, h2⟩
theorem mid_get {α β : Type} (f : α → β) (dn td : List α) (E : α) (k : Nat) (hk : dn.length = k) : ((dn ++ E :: td).map f)[k]? = some (f E) := by
  rw [List.getElem?_map, List.getElem?_append_right (by omega), hk, Nat.sub_self]
  rfl
theorem mid_set {α β : Type} (f : α → β) (dn td : List α) (E E' : α) (k : Nat) (hk : dn.length = k) (u : β) (hu : f E' = u) : ((dn ++ E :: td).map f).set k u = (dn ++ E' :: td).map f := by
  rw [List.map_append, List.map_append, List.set_append_right _ _ (by rw [List.length_map]; omega), List.length_map, hk, Nat.sub_self, List.map_cons, List.set_cons_zero, ← hu]
  rfl
theorem growEnd {w W : World} {p gG cG n k gc : Nat} {base pass : Int} {vB vW : Value} {xs : List Value} {dn td tg : List Ent} {rest : List It} {E : Ent} {go : Option Addr} {x : BitVec 8}
    (h : Bag w W ((.bk p base pass vB vW (.slice (some ⟨gG, 0, none⟩) n cG) :: .ls 22 vB xs :: .ls 22 (.slice (some ⟨gG, 0, none⟩) n cG) ((dn ++ E :: tg).map Ent.g) :: dn.map (It.ent 5)) ++ It.ent 5 { E with go := go, gc := gc, m := E.m ++ [x] } :: (td.map (It.ent 5) ++ rest)))
    (hk : dn.length = k) (hl : ((dn ++ E :: tg).map Ent.g).length = n) (hlt : k < n) :
    Bag w (W.setCell ⟨gG, k, none⟩ (.slice go (E.m.length + 1) gc)) (.bk p base pass vB vW (.slice (some ⟨gG, 0, none⟩) n cG) :: .ls 22 vB xs :: .ls 22 (.slice (some ⟨gG, 0, none⟩) n cG) (((dn ++ [{ E with go := go, gc := gc, m := E.m ++ [x] }]) ++ tg).map Ent.g) :: ((dn ++ [{ E with go := go, gc := gc, m := E.m ++ [x] }]).map (It.ent 5) ++ (td.map (It.ent 5) ++ rest))) := by
  have h0 := h.lstSet 2 rfl k (by rw [hl]; exact hlt) (.slice go (E.m.length + 1) gc) (g := gG) (cap := cG) (by rw [hl])
  simp only [List.cons_append, List.set_cons_succ, List.set_cons_zero] at h0
  rw [mid_set Ent.g dn tg E { E with go := go, gc := gc, m := E.m ++ [x] } k hk (.slice go (E.m.length + 1) gc) (by simp [Ent.g])] at h0
  simpa using h0
theorem bkPut4 {w W : World} {l : List It} {p : Nat} {base pass : Int} {vB vW vG : Value} (h : Bag w W (.bk p base pass vB vW vG :: l)) (v : Value) : Bag w (W.setCell ⟨p, 4, none⟩ v) (.bk p base pass vB vW v :: l) := h.put 0 rfl 4 v
theorem firstEnd {w W : World} {p gG cG k : Nat} {base pass : Int} {vB vW vO : Value} {xs : List Value} {dn : List Ent} {l2 : List It} {E : Ent}
    (h : Bag w W ((.bk p base pass vB vW vO :: .ls 22 vB xs :: .ls 22 (.slice (some ⟨gG, 0, none⟩) (k + 1) cG) (dn.map Ent.g ++ [E.v]) :: dn.map (It.ent 5)) ++ It.ent 5 E :: l2)) :
    Bag w (W.setCell ⟨p, 4, none⟩ (.slice (some ⟨gG, 0, none⟩) (k + 1) cG)) ((.bk p base pass vB vW (.slice (some ⟨gG, 0, none⟩) (k + 1) cG) :: .ls 22 vB xs :: .ls 22 (.slice (some ⟨gG, 0, none⟩) (k + 1) cG) ((dn ++ { E with go := E.ao, gc := E.cap, m := E.l } :: []).map Ent.g) :: dn.map (It.ent 5)) ++ It.ent 5 { E with go := E.ao, gc := E.cap, m := E.l } :: l2) := by
  have e1 : (dn ++ { E with go := E.ao, gc := E.cap, m := E.l } :: []).map Ent.g = dn.map Ent.g ++ [E.v] := by simp [Ent.g, Ent.v]
  rw [e1]
  have h1 := bkPut4 h (.slice (some ⟨gG, 0, none⟩) (k + 1) cG)
  obtain ⟨a1, a2, a3⟩ := Bag.midAt (l1 := .bk p base pass vB vW (.slice (some ⟨gG, 0, none⟩) (k + 1) cG) :: .ls 22 vB xs :: .ls 22 (.slice (some ⟨gG, 0, none⟩) (k + 1) cG) (dn.map Ent.g ++ [E.v]) :: dn.map (It.ent 5)) h1
  refine Bag.mid h1 (Only.refl _ _) (S := fun _ => False) (fun _ hk => hk.elim) ⟨a1, a1, fun _ _ _ _ _ => Nat.le_refl _⟩ ?_
  rintro j (⟨a, ha, rfl⟩ | ⟨a, ha, rfl⟩)
  · exact Or.inl (Or.inl ⟨a, ha, rfl⟩)
  · exact Or.inl (Or.inl ⟨a, ha, rfl⟩)
theorem cell_new1 (w : World) (v : Value) (t : TypeId) (fr : Nat × Nat) : (w.alloc (.cells #[v] t fr)).cell? ⟨w.heap.size, 0, none⟩ = some v := by
  rw [cell_of_row _ _ _ _ _ _ (heap_alloc_new w _)]
  rfl
theorem mapv_of {first : Bool} {pass id : Int} {es dn : List Ent} {k : Nat} (h : Grew first pass id es dn) (hk : dn.length = k) (hle : k ≤ es.length) : dn.map Ent.v = (es.take k).map Ent.v := by
  refine List.ext_getElem (by simp; omega) fun i h1 h2 => ?_
  simp only [List.length_map] at h1
  have hi : i < es.length := by omega
  have := h i es[i] dn[i] (List.getElem?_eq_getElem hi) (List.getElem?_eq_getElem h1)
  simp only [List.getElem_map, List.getElem_take, Ent.v, this.1, this.2.1, this.2.2.1]
set_option maxRecDepth 100000 in
set_option maxHeartbeats 4000000 in
theorem bytesGrowN (w W : World) (p : Nat) (base pass id : Int) (vB vW vG : Value) (es : List Ent) (rest : List It) (t : Int) (ht : 0 < t) (hn : es.length ≤ 1000000) (hid : 0 ≤ id ∧ id ≤ 1000000) (hlen : ∀ E ∈ es, E.l.length ≤ 1000000000 ∧ E.m.length ≤ 1000000000)
   (hB : Bag w W (.bk p base pass vB vW vG :: .ls 22 vB (es.map Ent.v) :: .ls 22 vG (es.map Ent.g) :: (es.map (It.ent 5) ++ rest))) :
   Calls Tryz.prog 77 #[.pointer (some ⟨p, 0, none⟩), .int .i64 id, .int .i64 t] W fun e W' => e = .returned (.int .i64 (id + es.length)) ∧ ∃ es' vG', es'.length = es.length ∧ Grew false pass id es es' ∧ Bag w W' (.bk p base pass vB vW vG' :: .ls 22 vB (es'.map Ent.v) :: .ls 22 vG' (es'.map Ent.g) :: (es'.map (It.ent 5) ++ rest)) := by
  obtain ⟨i0, hi, hz0, hz1, hz2⟩ := info_parts info_u8
  obtain ⟨aB, cB, rfl, hcB⟩ := lsForm hB 1 rfl
  rw [List.length_map] at hcB
  have hls : (es.map Ent.v).length = es.length := List.length_map ..
  rw [hls] at hB
  have ht0 : (t == 0) = false := by rw [beq_eq_false_iff_ne]; omega
  have HB := Lib.hid hB
  have HLs := Lib.hid hls
  have HLen := Lib.hid hlen
  clear hB hls hlen ht
  go_enter Tryz.func77, Tryz.ntmps77
  go_wp2
  go_loopw [1, 7, 8] (fun a i _ wr => ∃ (k : Nat) (dn : List Ent) (vG : Value), k ≤ es.length ∧ a = .int .i64 (id + k) ∧ i = .int .i64 k ∧ dn.length = k ∧ Grew false pass id es dn ∧ Bag w wr (.bk p base pass (.slice aB es.length cB) vW vG :: .ls 22 (.slice aB es.length cB) (es.map Ent.v) :: .ls 22 vG ((dn ++ es.drop k).map Ent.g) :: (dn.map (It.ent 5) ++ ((es.drop k).map (It.ent 5) ++ rest)))) (fun _ i _ _ => es.length - (intOf i).toNat)
  case atStart => exact ⟨0, [], vG, Nat.zero_le _, by simp, rfl, rfl, fun _ _ _ _ h => by simp at h, by simpa using HB.out⟩
  case round =>
    obtain ⟨k, dn, vG, hk, rfl, rfl, hdk, hgr, hB⟩ := hrel
    clear HB
    have HB := Lib.hid hB
    have HGr := Lib.hid hgr
    have HDk := Lib.hid hdk
    clear hgr
    by_cases hlt : k < es.length
    · obtain ⟨E, hE⟩ : ∃ E, es[k]? = some E := ⟨es[k], List.getElem?_eq_getElem hlt⟩
      have hEg : es[k] = E := by rw [List.getElem?_eq_getElem hlt] at hE; exact Option.some.inj hE
      have hd : es.drop k = E :: es.drop (k + 1) := by rw [List.drop_eq_getElem_cons hlt, hEg]
      obtain ⟨hl1, hl2⟩ := HLen.out E (List.mem_of_getElem? hE)
      have HE := Lib.hid hE
      have hk1 : k + 1 ≤ es.length := by omega
      have HI1 := Lib.hid (show Value.int .i64 (id + (k : Int) + 1) = .int .i64 (id + ((k + 1 : Nat) : Int)) by rw [show ((k + 1 : Nat) : Int) = (k : Int) + 1 by omega, Int.add_assoc])
      have HI2 := Lib.hid (show Value.int .i64 ((k : Int) + 1) = .int .i64 ((k + 1 : Nat) : Int) from rfl)
      have hq1 : (0 : Int) ≤ id + k := by omega
      have hq2 : id + (k : Int) ≤ 2000000 := by omega
      have hw1 := wrapI64 (id + (k : Int) + 1) (by omega) (by omega)
      rw [hd] at hB
      obtain ⟨b1, f1⟩ := bkCell hB 1 (.int .i64 pass) rfl
      obtain ⟨b2, f2⟩ := bkCell hB 2 (.slice aB es.length cB) rfl
      obtain ⟨b4, f4⟩ := bkCell hB 4 vG rfl
      obtain ⟨gB, cB', hv, hel, hfz⟩ := lsElem hB 1 rfl k (by rw [HLs.out]; exact hlt)
      simp only [HLs.out, Value.slice.injEq, true_and] at hv
      obtain ⟨hv1, hv2⟩ := hv
      subst hv1
      rw [List.getElem?_map, hE] at hel
      have hel' : wr.cell? ⟨gB, k, none⟩ = some (.slice E.ao E.l.length E.cap) := hel
      clear hel hfz hv2 hE hEg
      have hgl : ((dn ++ E :: es.drop (k + 1)).map Ent.g).length = es.length := by simp; omega
      obtain ⟨gG, cG, hv', helg, hfg⟩ := lsElem hB 2 rfl k (by rw [hgl]; exact hlt)
      rw [hgl] at hv'
      subst hv'
      rw [List.getElem?_map, List.getElem?_append_right (by omega), hdk, Nat.sub_self] at helg
      have helg' : wr.cell? ⟨gG, k, none⟩ = some (.slice E.go E.m.length E.gc) := helg
      have HGl := Lib.hid hgl
      clear helg hgl
      have h0 : Bag w wr ((.bk p base pass (.slice (some ⟨gB, 0, none⟩) es.length cB) vW (.slice (some ⟨gG, 0, none⟩) es.length cG) :: .ls 22 (.slice (some ⟨gB, 0, none⟩) es.length cB) (es.map Ent.v) :: .ls 22 (.slice (some ⟨gG, 0, none⟩) es.length cG) ((dn ++ E :: es.drop (k + 1)).map Ent.g) :: dn.map (It.ent 5)) ++ It.ent 5 E :: ((es.drop (k + 1)).map (It.ent 5) ++ rest)) := by simpa using hB
      clear HB hB
      have HB := Lib.hid h0
      have HD := Lib.hid hd
      clear h0 hd
      go_wp2_with fail
      refine (byteMark p pass (id + k + 1) E.m.length _ b1).mono ?_
      rintro e w' ⟨rfl, hw⟩
      obtain rfl := hw
      obtain ⟨x, hx⟩ : ∃ x, bm pass (id + k + 1) E.m.length = x := ⟨_, rfl⟩
      rw [hx]
      have HX := Lib.hid hx
      clear hx
      go_wp2_with fail
      have H1 := Lib.hid (HB.out.drew.call ((Below.refl _ w'.drew).alloc (Nat.le_refl _) (.cells #[.int .u8 (n8 x)] 5)))
      have HC := Lib.hid (cell_new1 w'.drew (.int .u8 (n8 x)) 5 (0, 0))
      have hpl : p < w'.heap.size := World.block_lt_of_cell? w' _ b4
      have hgl3 : gG < w'.heap.size := World.block_lt_of_cell? w' _ helg'
      go_region_law ((refine entStep rfl _ _ 22 rfl 5 i0 Tryz.underlying22 hi hz0 hz1 hz2 E H1.out rfl ⟨w'.heap.size, 0, none⟩ rfl x HC.out (by omega) ?_; intro go gc W2 hB2; have z4 := (bkCell hB2 4 (.slice (some ⟨gG, 0, none⟩) es.length cG) rfl).1; have zk : W2.cell? ⟨gG, k, none⟩ = some (.slice E.go E.m.length E.gc) := (lsCell hB2 2 rfl HGl.out k hlt).1.trans (mid_get Ent.g dn _ E k HDk.out); have zf : W2.frozen? ⟨gG, k, none⟩ = false := (lsCell hB2 2 rfl HGl.out k hlt).2))
      all_goals
        have HB3 := Lib.hid (growEnd (w := w) (W := W2) (p := p) (gG := gG) (cG := cG) (n := es.length) (k := k) (gc := gc) (base := base) (pass := pass) (vB := .slice (some ⟨gB, 0, none⟩) es.length cB) (vW := vW) (xs := es.map Ent.v) (dn := dn) (td := es.drop (k + 1)) (tg := (es.drop (k + 1))) (rest := rest) (E := E) (go := go) (x := x) hB2 HDk.out HGl.out hlt)
        have HE1 := Lib.hid (show Grew false pass id es (dn ++ [{ E with go := go, gc := gc, m := E.m ++ [x] }]) from grew_snoc HGr.out HDk.out HE.out ⟨rfl, rfl, rfl, by rw [← HX.out]; rfl⟩)
        clear hB2 HB z4 zk H1 HC
        go_wp2_with fail
        go_roundw
        case rel => exact ⟨k + 1, dn ++ [{ E with go := go, gc := gc, m := E.m ++ [x] }], .slice (some ⟨gG, 0, none⟩) es.length cG, hk1, HI1.out, HI2.out, by rw [List.length_append, HDk.out]; rfl, HE1.out, HB3.out⟩
        case measure => simp [intOf]; omega
    · have hk2 : k = es.length := by omega
      subst hk2
      obtain ⟨b2, f2⟩ := bkCell hB 2 (.slice aB es.length cB) rfl
      clear HLen hB
      go_wp2
      go_ret
      refine ⟨rfl, dn, vG, HDk.out, HGr.out, ?_⟩
      have h0 := HB.out
      have hm := mapv_of HGr.out HDk.out (Nat.le_refl _)
      rw [List.take_length] at hm
      rw [hm, HLs.out]
      simpa using h0
end Go.Proofs.YtjlhnepjpjlppaaGreatDoor
