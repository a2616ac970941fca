/- The Book is finished: true. -/
import Derived.Test.YtjlhnepjpjlppaaGreatDoorBookF
namespace Go.Proofs.YtjlhnepjpjlppaaGreatDoor
open Go.RowKit
theorem shows_wr (pass : Int) : ∀ (es : List Ent) (id : Int), (∀ E ∈ es, Raw E ∧ E.l.length ≤ 1000000) → Shows pass id (wrAll pass id es)
  | [], id, _ => fun k E hE => by simp [wrAll] at hE
  | A :: r, id, h => by
    intro k E hE
    match k with
    | 0 =>
      simp only [wrAll, List.getElem?_cons_zero, Option.some.injEq] at hE
      subst hE
      obtain ⟨⟨h1, h2, h3⟩, h4⟩ := h A (by simp)
      refine ⟨?_, ?_, ?_, ?_⟩
      · simp [Ent.wr, marks_len]
      · simp [Ent.wr, h3, marks_zero]
      · simp only [Ent.wr, marks_len]; omega
      · simp [Ent.wr, h3]
    | k + 1 =>
      simp only [wrAll, List.getElem?_cons_succ] at hE
      have := shows_wr pass r (id + 1) (fun E hE => h E (by simp [hE])) k E hE
      rw [show id + ((k + 1 : Nat) : Int) + 1 = id + 1 + (k : Int) + 1 by omega]
      exact this
theorem wrAll_lens (pass : Int) : ∀ (es : List Ent) (id : Int), (∀ E ∈ es, Raw E ∧ E.l.length ≤ 1000000) → ∀ E ∈ wrAll pass id es, Raw E ∧ E.l.length ≤ 1000000
  | [], _, _ => by simp [wrAll]
  | A :: r, id, h => by
    intro E hE
    rcases List.mem_cons.1 hE with rfl | hE
    · exact ⟨(h A (by simp)).1, by simp only [Ent.wr, marks_len]; exact (h A (by simp)).2⟩
    · exact wrAll_lens pass r (id + 1) (fun E hE => h E (by simp [hE])) E hE
theorem gro_zero {pass base : Int} {es : List Ent} (h : Shows pass base es) (hl : ∀ E ∈ es, Raw E ∧ E.l.length ≤ 1000000) : Gro pass base es.length 0 es := by
  refine ⟨rfl, fun j E hE => ?_⟩
  obtain ⟨h1, h2, _, _⟩ := h j E hE
  obtain ⟨⟨_, _, h3⟩, h4⟩ := hl E (List.mem_iff_getElem?.2 ⟨j, hE⟩)
  exact ⟨h1, h2, h4, by rw [h3]; simp⟩
theorem gro_shows {pass base : Int} {n k : Nat} {es : List Ent} (h : Gro pass base n k es) (hk : k ≤ 1000000) : Shows pass base es := by
  intro j E hE
  obtain ⟨h1, h2, h3, h4⟩ := h.2 j E hE
  exact ⟨h1, h2, by omega, by omega⟩
theorem perm_in {α : Type} (a b c d : α) (l r : List α) : (a :: b :: c :: d :: (l ++ r)).Perm (b :: c :: (l ++ (a :: d :: r))) := by
  have h1 : (l ++ (a :: d :: r)).Perm (a :: d :: (l ++ r)) := List.perm_middle.trans (List.Perm.cons a List.perm_middle)
  have h2 : (b :: c :: (l ++ (a :: d :: r))).Perm (b :: c :: a :: d :: (l ++ r)) := (h1.cons c).cons b
  have h3 : (b :: c :: a :: d :: (l ++ r)).Perm (b :: a :: c :: d :: (l ++ r)) := (List.Perm.swap a c _).cons b
  exact ((h2.trans h3).trans (List.Perm.swap a b _)).symm
theorem perm_out {α : Type} (a b c d : α) (l r : List α) : (b :: c :: (l ++ (a :: d :: r))).Perm (b :: c :: a :: (l ++ (d :: r))) :=
  (List.perm_middle.cons c).cons b
theorem bkPut1 {w W : World} {l : List It} {p : Nat} {base pass : Int} {vB vW vG : Value} (h : Bag w W (.bk p base pass vB vW vG :: l)) (q : Int) : Bag w (W.setCell ⟨p, 1, none⟩ (.int .i64 q)) (.bk p base q vB vW vG :: l) := h.put 0 rfl 1 (.int .i64 q)
theorem Bag.right {w W : World} {A r : List It} (h : Bag w W (A ++ r)) : Bag w W r := by
  obtain ⟨h1, h2, h3, h4⟩ := bag_iff.1 h
  exact bag_iff.2 ⟨h1, fun x hx => h2 x (by simp [hx]), fun x hx => h3 x (by simp [hx]), (List.pairwise_append.1 h4).2.1⟩
theorem Bag.behind {w W : World} {x : It} {r : List It} (h : Bag w W (x :: r)) : Bag w W r := h.erase 0
set_option maxRecDepth 100000 in
set_option maxHeartbeats 4000000 in
theorem bookFinish (w W : World) (p : Nat) (base : Int) (vB vW : Value) (es : List Ent) (cs : List Cop) (rest : List It) (hl : ∀ E ∈ es, Raw E ∧ E.l.length ≤ 1000000) (hs : es.map Ent.l = cs.map Cop.l) (hn : es.length ≤ 1000000) (hid : 0 ≤ base ∧ base ≤ 1000000)
   (hB : Bag w W (.bk p base 0 vB vW (.slice none 0 0) :: .ls 22 vB (es.map Ent.v) :: .ls 22 vW (cs.map Cop.v) :: (es.map (It.ent 5) ++ (cs.map (It.cop 5) ++ rest)))) :
   Calls Tryz.prog 14 #[.pointer (some ⟨p, 0, none⟩)] W fun e W' => e = .returned (.bool true) ∧ Bag w W' rest := by
  have HU := Lib.hid (bookUntouched w W p base 0 vB vW _ es cs rest hs (fun E hE => by have := (hl E hE).2; omega) hn hB)
  have HB := Lib.hid hB
  have l1 := wrAll_lens 0 es base hl
  have s1 := shows_wr 0 es base hl
  obtain ⟨e1, he1⟩ : ∃ e1, wrAll 0 base es = e1 := ⟨_, rfl⟩
  rw [he1] at l1 s1
  have n1 : e1.length = es.length := by rw [← he1, wrAll_len]
  have v1 : e1.map Ent.v = es.map Ent.v := by rw [← he1, wrAll_v]
  have l2 := wrAll_lens 1 e1 base l1
  have s2 := shows_wr 1 e1 base l1
  obtain ⟨e2, he2⟩ : ∃ e2, wrAll 1 base e1 = e2 := ⟨_, rfl⟩
  rw [he2] at l2 s2
  have n2 : e2.length = es.length := by rw [← he2, wrAll_len, n1]
  have v2 : e2.map Ent.v = es.map Ent.v := by rw [← he2, wrAll_v, v1]
  have L0 := Lib.hid hl
  have L1 := Lib.hid l1
  have L2 := Lib.hid l2
  have S1 := Lib.hid s1
  have S2 := Lib.hid s2
  have E1 := Lib.hid he1
  have E2 := Lib.hid he2
  have N0 := Lib.hid hn
  have N1 := Lib.hid (show e1.length ≤ 1000000 by omega)
  have N2 := Lib.hid (show e2.length ≤ 1000000 by omega)
  have V1 := Lib.hid v1
  have V2 := Lib.hid v2
  have HI := Lib.hid hid
  clear hB hl hs l1 l2 s1 s2 he1 he2 n1 n2 v1 v2 hn hid
  go_enter Tryz.func14, Tryz.ntmps14
  go_wp2_with fail
  refine HU.out.mono ?_
  rintro e w1 ⟨rfl, hst⟩
  have B1 := Lib.hid (((HB.out.still hst).nil 22 1).perm (perm_in _ _ _ _ _ _))
  clear HU HB hst
  go_wp2_with fail
  refine (bookWrite w w1 p base 0 vB vW _ es _ (fun E hE => (L0.out E hE).1) N0.out HI.out (fun E hE => by have := (L0.out E hE).2; omega) B1.out).mono ?_
  rintro e w2 ⟨⟨v, rfl⟩, hB⟩
  rw [E1.out, ← V1.out] at hB
  have B2 := Lib.hid hB
  clear hB B1
  go_wp2_with fail
  refine (bookHoldsE w w2 p base 0 vB vW e1 _ S1.out N1.out HI.out B2.out).mono ?_
  rintro e w' ⟨rfl, hw⟩
  obtain rfl := hw
  have B3 := Lib.hid (bkPut1 B2.out 1)
  obtain ⟨b1, f1⟩ := bkCell B2.out 1 (.int .i64 0) rfl
  clear B2
  go_wp2_with fail
  refine (bookWrite w _ p base 1 vB vW _ e1 _ (fun E hE => (L1.out E hE).1) N1.out HI.out (fun E hE => by have := (L1.out E hE).2; omega) B3.out).mono ?_
  rintro e w3 ⟨⟨v, rfl⟩, hB⟩
  rw [E2.out, V1.out, ← V2.out] at hB
  have B4 := Lib.hid hB
  clear hB B3 b1 f1
  go_wp2_with fail
  refine (bookHoldsE w w3 p base 1 vB vW e2 _ S2.out N2.out HI.out B4.out).mono ?_
  rintro e w' ⟨rfl, hw⟩
  obtain rfl := hw
  have B5 := Lib.hid (B4.out.perm (perm_out _ _ _ _ _ _))
  clear B4
  go_wp2_with fail
  refine (bookGrow w _ p base 1 vB vW e2 _ N2.out HI.out (gro_zero S2.out L2.out) B5.out).mono ?_
  rintro e w4 ⟨⟨v, rfl⟩, e3, vG, hg, hB⟩
  have B6 := Lib.hid hB
  have G := Lib.hid hg
  clear hB hg B5
  go_wp2_with fail
  refine (bookHoldsF w w4 p base 1 vB vW vG e3 _ (gro_shows G.out (by omega)) (by rw [G.out.1]; exact N2.out) HI.out B6.out).mono ?_
  rintro e w' ⟨rfl, hw⟩
  obtain rfl := hw
  go_wp2
  go_ret
  exact ⟨rfl, B6.out.behind.behind.behind.right.behind.right⟩
end Go.Proofs.YtjlhnepjpjlppaaGreatDoor
