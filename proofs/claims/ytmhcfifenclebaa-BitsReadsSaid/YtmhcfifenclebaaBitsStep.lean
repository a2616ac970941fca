/- The law's step: one call at both readers. -/
import Derived.Test.YtmhcfifenclebaaBitsRef2
import Derived.Test.YtmhcfifenclebaaBitsFirst
import Derived.Test.YtmhcfifenclebaaSame
namespace Go.Proofs.Ytmhcfifenclebaa
open Go.RowKit
/-- Both readers, alike. -/
structure Two (w : World) (p g q : Nat) (ao : Option Addr) (cap : Nat) (l : List (BitVec 8)) (k : Nat) (e : Int) : Prop where
  r : Rdr w p g l k e
  d : Rdf w q ao cap l k e
  pq : p ≠ q
  gq : g ≠ q
  ap : ∀ a, ao = some a → a.block ≠ p ∧ a.block ≠ g
def In3 (p g q : Nat) (j : Nat) : Prop := j = p ∨ j = g ∨ j = q
theorem Two.below {w w' : World} {p g q : Nat} {ao : Option Addr} {cap : Nat} {l : List (BitVec 8)} {k : Nat} {e : Int} (h : Two w p g q ao cap l k e) (hb : Below w.heap.size w w') : Two w' p g q ao cap l k e :=
  ⟨h.r.below hb, h.d.below hb, h.pq, h.gq, h.ap⟩
theorem Two.only {S : Nat → Prop} {w w' : World} {p g q : Nat} {ao : Option Addr} {cap : Nat} {l : List (BitVec 8)} {k : Nat} {e : Int} (h : Two w p g q ao cap l k e) (hb : Only S w w') (hp : ¬ S p) (hg : ¬ S g) (hq : ¬ S q) (ha : ∀ a, ao = some a → ¬ S a.block) : Two w' p g q ao cap l k e :=
  ⟨h.r.only hb hp hg, h.d.only hb hq ha, h.pq, h.gq, h.ap⟩
theorem Two.both {w w1 w2 : World} {p g q : Nat} {ao : Option Addr} {cap : Nat} {l : List (BitVec 8)} {k k' : Nat} {e e' : Int} (h : Two w p g q ao cap l k e) (hr : Rdr w1 p g l k' e') (_ho1 : Only (fun j => j = p) w w1)
   (hd : Rdf w2 q ao cap l k' e') (ho2 : Only (fun j => j = q) w1 w2) : Two w2 p g q ao cap l k' e' :=
  ⟨hr.only ho2 h.pq h.gq, hd, h.pq, h.gq, h.ap⟩
theorem Two.mid {w w1 : World} {p g q : Nat} {ao : Option Addr} {cap : Nat} {l : List (BitVec 8)} {k : Nat} {e : Int} (h : Two w p g q ao cap l k e) (ho1 : Only (fun j => j = p) w w1) : Rdf w1 q ao cap l k e :=
  h.d.only ho1 (Ne.symm h.pq) (fun a x => (h.ap a x).1)
theorem In3.p {p g q : Nat} {w w' : World} (h : Only (fun j => j = p) w w') : Only (In3 p g q) w w' := h.mono fun _ _ h => Or.inl h
theorem In3.g {p g q : Nat} {w w' : World} (h : Only (fun j => j = g) w w') : Only (In3 p g q) w w' := h.mono fun _ _ h => Or.inr (Or.inl h)
theorem In3.q {p g q : Nat} {w w' : World} (h : Only (fun j => j = q) w w') : Only (In3 p g q) w w' := h.mono fun _ _ h => Or.inr (Or.inr h)
theorem Rdr.mcell {w : World} {p g : Nat} {l : List (BitVec 8)} {k : Nat} {e : Int} (h : Rdr w p g l k e) (i : Nat) (hi : i < l.length) : ∃ v, w.cell? ⟨g, i, none⟩ = some v := by
  obtain ⟨c, h1, h2, _⟩ := h.mem
  rw [cell_of_row _ _ _ _ _ _ h1]
  exact ⟨_, Array.getElem?_eq_getElem (by omega)⟩
theorem Rdr.mfree {w : World} {p g : Nat} {l : List (BitVec 8)} {k : Nat} {e : Int} (h : Rdr w p g l k e) (i : Nat) : w.frozen? ⟨g, i, none⟩ = false := by
  obtain ⟨c, h1, _⟩ := h.mem
  exact frozen_of_row _ _ _ _ _ h1
theorem Rdr.mset {w : World} {p g : Nat} {l : List (BitVec 8)} {k : Nat} {e : Int} (h : Rdr w p g l k e) (i : Nat) (hi : i < k) (v : Value) : Rdr (w.setCell ⟨g, i, none⟩ v) p g l k e := by
  refine ⟨(heap_setCell_other w _ p _ h.ne).trans h.cells, ?_, h.le, h.ne⟩
  obtain ⟨c, h1, h2, h3⟩ := h.mem
  refine ⟨_, heap_setCell_same w g i _ _ _ h1, by simpa using h2, fun j hj hl => ?_⟩
  rw [Array.getElem?_setIfInBounds_ne (by omega)]
  exact h3 j hj hl
theorem step1 {w : World} {p g q : Nat} {ao : Option Addr} {cap : Nat} {l : List (BitVec 8)} {k : Nat} {e : Int} (h : Two w p g q ao cap l k e) (hl : l.length ≤ 140737488351232) (nn : Int) (ss : Bool) :
   Calls Try.prog 20 #[.agg #[.int .i64 1, .int .i64 nn, .bool ss], .pointer (some ⟨p, 0, none⟩), .pointer (some ⟨q, 0, none⟩)] w fun x w' => x = .returned (.bool true) ∧ ∃ k' e', Two w' p g q ao cap l k' e' ∧ Only (In3 p g q) w w' := by
  have h1 := h.below ((Below.refl _ w).alloc (Nat.le_refl _) (.cells #[.int .i64 1, .int .i64 nn, .bool ss] 47 (0, 0)))
  have ho0 := Only.alloc (In3 p g q) w (.cells #[.int .i64 1, .int .i64 nn, .bool ss] 47 (0, 0))
  clear h
  by_cases hfit : e = 0 ∧ k + 1 ≤ l.length
  · obtain ⟨rfl, hfit⟩ := hfit
    have hml : ((l.drop k).take 1).length = 1 := by simp; omega
    obtain ⟨m, hm⟩ : ∃ m, (l.drop k).take 1 = m := ⟨_, rfl⟩
    rw [hm] at hml
    have hx := val_8 m hml
    obtain ⟨v, hv⟩ : ∃ v, val m = v := ⟨_, rfl⟩
    rw [hv] at hx
    go_enter Try.func20, Try.ntmps20
    go_wp2_with fail
    refine (getYes8 h1.r hl hfit).mono ?_
    rintro x w1 ⟨rfl, hr, ho⟩
    rw [hm, hv]
    have hd := h1.mid ho
    go_wp2_with fail
    refine (numYes hd hl 1 (by unfold Wd; omega) hfit).mono ?_
    rintro x w2 ⟨rfl, hd2, ho2⟩
    rw [hm, hv]
    have H := Lib.hid (h1.both hr ho hd2 ho2)
    have HO := Lib.hid ((ho0.trans (In3.p ho)).trans (In3.q ho2))
    clear h1 hr ho hd hd2 ho2 hm hv ho0
    go_wp2
    go_ret
    exact ⟨by simp, _, _, H.out, HO.out⟩
  · have hno : ¬ (e = 0 ∧ k + 1 ≤ l.length) := hfit
    clear hfit
    go_enter Try.func20, Try.ntmps20
    go_wp2_with fail
    refine (getNo8 h1.r hl hno).mono ?_
    rintro x w1 ⟨rfl, hr, -, ho⟩
    have hd := h1.mid ho
    go_wp2_with fail
    refine (numNo hd 1 (by unfold Wd; omega) hno).mono ?_
    rintro x w2 ⟨rfl, hd2, ho2⟩
    have H := Lib.hid (h1.both hr ho hd2 ho2)
    have HO := Lib.hid ((ho0.trans (In3.p ho)).trans (In3.q ho2))
    clear h1 hr ho hd hd2 ho2 hno ho0
    go_wp2
    go_ret
    exact ⟨rfl, _, _, H.out, HO.out⟩
theorem step2 {w : World} {p g q : Nat} {ao : Option Addr} {cap : Nat} {l : List (BitVec 8)} {k : Nat} {e : Int} (h : Two w p g q ao cap l k e) (hl : l.length ≤ 140737488351232) (nn : Int) (ss : Bool) :
   Calls Try.prog 20 #[.agg #[.int .i64 2, .int .i64 nn, .bool ss], .pointer (some ⟨p, 0, none⟩), .pointer (some ⟨q, 0, none⟩)] w fun x w' => x = .returned (.bool true) ∧ ∃ k' e', Two w' p g q ao cap l k' e' ∧ Only (In3 p g q) w w' := by
  have h1 := h.below ((Below.refl _ w).alloc (Nat.le_refl _) (.cells #[.int .i64 2, .int .i64 nn, .bool ss] 47 (0, 0)))
  have ho0 := Only.alloc (In3 p g q) w (.cells #[.int .i64 2, .int .i64 nn, .bool ss] 47 (0, 0))
  clear h
  by_cases hfit : e = 0 ∧ k + 2 ≤ l.length
  · obtain ⟨rfl, hfit⟩ := hfit
    have hml : ((l.drop k).take 2).length = 2 := by simp; omega
    obtain ⟨m, hm⟩ : ∃ m, (l.drop k).take 2 = m := ⟨_, rfl⟩
    rw [hm] at hml
    have hx := val_16 m hml
    obtain ⟨v, hv⟩ : ∃ v, val m = v := ⟨_, rfl⟩
    rw [hv] at hx
    go_enter Try.func20, Try.ntmps20
    go_wp2_with fail
    refine (getYes16 h1.r hl hfit).mono ?_
    rintro x w1 ⟨rfl, hr, ho⟩
    rw [hm, hv]
    have hd := h1.mid ho
    go_wp2_with fail
    refine (numYes hd hl 2 (by unfold Wd; omega) hfit).mono ?_
    rintro x w2 ⟨rfl, hd2, ho2⟩
    rw [hm, hv]
    have H := Lib.hid (h1.both hr ho hd2 ho2)
    have HO := Lib.hid ((ho0.trans (In3.p ho)).trans (In3.q ho2))
    clear h1 hr ho hd hd2 ho2 hm hv ho0
    go_wp2
    go_ret
    exact ⟨by simp, _, _, H.out, HO.out⟩
  · have hno : ¬ (e = 0 ∧ k + 2 ≤ l.length) := hfit
    clear hfit
    go_enter Try.func20, Try.ntmps20
    go_wp2_with fail
    refine (getNo16 h1.r hl hno).mono ?_
    rintro x w1 ⟨rfl, hr, -, ho⟩
    have hd := h1.mid ho
    go_wp2_with fail
    refine (numNo hd 2 (by unfold Wd; omega) hno).mono ?_
    rintro x w2 ⟨rfl, hd2, ho2⟩
    have H := Lib.hid (h1.both hr ho hd2 ho2)
    have HO := Lib.hid ((ho0.trans (In3.p ho)).trans (In3.q ho2))
    clear h1 hr ho hd hd2 ho2 hno ho0
    go_wp2
    go_ret
    exact ⟨rfl, _, _, H.out, HO.out⟩
theorem step3 {w : World} {p g q : Nat} {ao : Option Addr} {cap : Nat} {l : List (BitVec 8)} {k : Nat} {e : Int} (h : Two w p g q ao cap l k e) (hl : l.length ≤ 140737488351232) (nn : Int) (ss : Bool) :
   Calls Try.prog 20 #[.agg #[.int .i64 3, .int .i64 nn, .bool ss], .pointer (some ⟨p, 0, none⟩), .pointer (some ⟨q, 0, none⟩)] w fun x w' => x = .returned (.bool true) ∧ ∃ k' e', Two w' p g q ao cap l k' e' ∧ Only (In3 p g q) w w' := by
  have h1 := h.below ((Below.refl _ w).alloc (Nat.le_refl _) (.cells #[.int .i64 3, .int .i64 nn, .bool ss] 47 (0, 0)))
  have ho0 := Only.alloc (In3 p g q) w (.cells #[.int .i64 3, .int .i64 nn, .bool ss] 47 (0, 0))
  clear h
  by_cases hfit : e = 0 ∧ k + 4 ≤ l.length
  · obtain ⟨rfl, hfit⟩ := hfit
    have hml : ((l.drop k).take 4).length = 4 := by simp; omega
    obtain ⟨m, hm⟩ : ∃ m, (l.drop k).take 4 = m := ⟨_, rfl⟩
    rw [hm] at hml
    have hx := val_32 m hml
    obtain ⟨v, hv⟩ : ∃ v, val m = v := ⟨_, rfl⟩
    rw [hv] at hx
    go_enter Try.func20, Try.ntmps20
    go_wp2_with fail
    refine (getYes32 h1.r hl hfit).mono ?_
    rintro x w1 ⟨rfl, hr, ho⟩
    rw [hm, hv]
    have hd := h1.mid ho
    go_wp2_with fail
    refine (numYes hd hl 4 (by unfold Wd; omega) hfit).mono ?_
    rintro x w2 ⟨rfl, hd2, ho2⟩
    rw [hm, hv]
    have H := Lib.hid (h1.both hr ho hd2 ho2)
    have HO := Lib.hid ((ho0.trans (In3.p ho)).trans (In3.q ho2))
    clear h1 hr ho hd hd2 ho2 hm hv ho0
    go_wp2
    go_ret
    exact ⟨by simp, _, _, H.out, HO.out⟩
  · have hno : ¬ (e = 0 ∧ k + 4 ≤ l.length) := hfit
    clear hfit
    go_enter Try.func20, Try.ntmps20
    go_wp2_with fail
    refine (getNo32 h1.r hl hno).mono ?_
    rintro x w1 ⟨rfl, hr, -, ho⟩
    have hd := h1.mid ho
    go_wp2_with fail
    refine (numNo hd 4 (by unfold Wd; omega) hno).mono ?_
    rintro x w2 ⟨rfl, hd2, ho2⟩
    have H := Lib.hid (h1.both hr ho hd2 ho2)
    have HO := Lib.hid ((ho0.trans (In3.p ho)).trans (In3.q ho2))
    clear h1 hr ho hd hd2 ho2 hno ho0
    go_wp2
    go_ret
    exact ⟨rfl, _, _, H.out, HO.out⟩
theorem step4 {w : World} {p g q : Nat} {ao : Option Addr} {cap : Nat} {l : List (BitVec 8)} {k : Nat} {e : Int} (h : Two w p g q ao cap l k e) (hl : l.length ≤ 140737488351232) (nn : Int) (ss : Bool) :
   Calls Try.prog 20 #[.agg #[.int .i64 4, .int .i64 nn, .bool ss], .pointer (some ⟨p, 0, none⟩), .pointer (some ⟨q, 0, none⟩)] w fun x w' => x = .returned (.bool true) ∧ ∃ k' e', Two w' p g q ao cap l k' e' ∧ Only (In3 p g q) w w' := by
  have h1 := h.below ((Below.refl _ w).alloc (Nat.le_refl _) (.cells #[.int .i64 4, .int .i64 nn, .bool ss] 47 (0, 0)))
  have ho0 := Only.alloc (In3 p g q) w (.cells #[.int .i64 4, .int .i64 nn, .bool ss] 47 (0, 0))
  clear h
  by_cases hfit : e = 0 ∧ k + 8 ≤ l.length
  · obtain ⟨rfl, hfit⟩ := hfit
    have hml : ((l.drop k).take 8).length = 8 := by simp; omega
    obtain ⟨m, hm⟩ : ∃ m, (l.drop k).take 8 = m := ⟨_, rfl⟩
    rw [hm] at hml
    obtain ⟨v, hv⟩ : ∃ v, val m = v := ⟨_, rfl⟩
    skip
    go_enter Try.func20, Try.ntmps20
    go_wp2_with fail
    refine (getYes64 h1.r hl hfit).mono ?_
    rintro x w1 ⟨rfl, hr, ho⟩
    rw [hm, hv]
    have hd := h1.mid ho
    go_wp2_with fail
    refine (numYes hd hl 8 (by unfold Wd; omega) hfit).mono ?_
    rintro x w2 ⟨rfl, hd2, ho2⟩
    rw [hm, hv]
    have H := Lib.hid (h1.both hr ho hd2 ho2)
    have HO := Lib.hid ((ho0.trans (In3.p ho)).trans (In3.q ho2))
    clear h1 hr ho hd hd2 ho2 hm hv ho0
    go_wp2
    go_ret
    exact ⟨by simp, _, _, H.out, HO.out⟩
  · have hno : ¬ (e = 0 ∧ k + 8 ≤ l.length) := hfit
    clear hfit
    go_enter Try.func20, Try.ntmps20
    go_wp2_with fail
    refine (getNo64 h1.r hl hno).mono ?_
    rintro x w1 ⟨rfl, hr, -, ho⟩
    have hd := h1.mid ho
    go_wp2_with fail
    refine (numNo hd 8 (by unfold Wd; omega) hno).mono ?_
    rintro x w2 ⟨rfl, hd2, ho2⟩
    have H := Lib.hid (h1.both hr ho hd2 ho2)
    have HO := Lib.hid ((ho0.trans (In3.p ho)).trans (In3.q ho2))
    clear h1 hr ho hd hd2 ho2 hno ho0
    go_wp2
    go_ret
    exact ⟨rfl, _, _, H.out, HO.out⟩
theorem step9 {w : World} {p g q : Nat} {ao : Option Addr} {cap : Nat} {l : List (BitVec 8)} {k : Nat} {e : Int} (h : Two w p g q ao cap l k e) (hl : l.length ≤ 140737488351232) (nn : Int) (ss : Bool) :
   Calls Try.prog 20 #[.agg #[.int .i64 9, .int .i64 nn, .bool ss], .pointer (some ⟨p, 0, none⟩), .pointer (some ⟨q, 0, none⟩)] w fun x w' => x = .returned (.bool true) ∧ ∃ k' e', Two w' p g q ao cap l k' e' ∧ Only (In3 p g q) w w' := by
  have h1 := h.below ((Below.refl _ w).alloc (Nat.le_refl _) (.cells #[.int .i64 9, .int .i64 nn, .bool ss] 47 (0, 0)))
  have ho0 := Only.alloc (In3 p g q) w (.cells #[.int .i64 9, .int .i64 nn, .bool ss] 47 (0, 0))
  clear h
  by_cases hfit : e = 0 ∧ k + 2 ≤ l.length
  · obtain ⟨rfl, hfit⟩ := hfit
    have hml : ((l.drop k).take 2).length = 2 := by simp; omega
    obtain ⟨m, hm⟩ : ∃ m, (l.drop k).take 2 = m := ⟨_, rfl⟩
    rw [hm] at hml
    have hx := val_16 m hml
    obtain ⟨v, hv⟩ : ∃ v, val m = v := ⟨_, rfl⟩
    rw [hv] at hx
    go_enter Try.func20, Try.ntmps20
    go_wp2_with fail
    refine (getYesWord h1.r hl hfit).mono ?_
    rintro x w1 ⟨rfl, hr, ho⟩
    rw [hm, hv]
    have hd := h1.mid ho
    go_wp2_with fail
    refine (numYes hd hl 2 (by unfold Wd; omega) hfit).mono ?_
    rintro x w2 ⟨rfl, hd2, ho2⟩
    rw [hm, hv]
    have H := Lib.hid (h1.both hr ho hd2 ho2)
    have HO := Lib.hid ((ho0.trans (In3.p ho)).trans (In3.q ho2))
    clear h1 hr ho hd hd2 ho2 hm hv ho0
    go_wp2
    go_ret
    exact ⟨by simp, _, _, H.out, HO.out⟩
  · have hno : ¬ (e = 0 ∧ k + 2 ≤ l.length) := hfit
    clear hfit
    go_enter Try.func20, Try.ntmps20
    go_wp2_with fail
    refine (getNoWord h1.r hl hno).mono ?_
    rintro x w1 ⟨rfl, hr, -, ho⟩
    have hd := h1.mid ho
    go_wp2_with fail
    refine (numNo hd 2 (by unfold Wd; omega) hno).mono ?_
    rintro x w2 ⟨rfl, hd2, ho2⟩
    have H := Lib.hid (h1.both hr ho hd2 ho2)
    have HO := Lib.hid ((ho0.trans (In3.p ho)).trans (In3.q ho2))
    clear h1 hr ho hd hd2 ho2 hno ho0
    go_wp2
    go_ret
    exact ⟨rfl, _, _, H.out, HO.out⟩
theorem step5 {w : World} {p g q : Nat} {ao : Option Addr} {cap : Nat} {l : List (BitVec 8)} {k : Nat} {e : Int} (h : Two w p g q ao cap l k e) (hl : l.length ≤ 140737488351232) (nn : Int) (ss : Bool) :
   Calls Try.prog 20 #[.agg #[.int .i64 5, .int .i64 nn, .bool ss], .pointer (some ⟨p, 0, none⟩), .pointer (some ⟨q, 0, none⟩)] w fun x w' => x = .returned (.bool true) ∧ ∃ k' e', Two w' p g q ao cap l k' e' ∧ Only (In3 p g q) w w' := by
  have h1 := h.below ((Below.refl _ w).alloc (Nat.le_refl _) (.cells #[.int .i64 5, .int .i64 nn, .bool ss] 47 (0, 0)))
  have ho0 := Only.alloc (In3 p g q) w (.cells #[.int .i64 5, .int .i64 nn, .bool ss] 47 (0, 0))
  have VAR := Lib.hid (fun (w' : World) (ho : Only (fun j => j = p) (w.alloc (.cells #[.int .i64 5, .int .i64 nn, .bool ss] 47 (0, 0))) w') =>
    show w'.cell? ⟨w.heap.size, 1, none⟩ = some (.int .i64 nn) by
      have hp := h.r.lt
      rw [cell_of_row w' w.heap.size 1 _ _ _ ((ho.block w.heap.size (by show _ < (w.heap.push _).size; simp) (by omega)).trans (heap_alloc_new w _))]; rfl)
  clear h
  by_cases hfit : e = 0 ∧ 0 ≤ nn ∧ nn ≤ (l.length : Int) - k
  · obtain ⟨rfl, hf1, hf2⟩ := hfit
    obtain ⟨n, rfl⟩ : ∃ n : Nat, nn = n := ⟨nn.toNat, by omega⟩
    have hkn : k + n ≤ l.length := by have := h1.r.le; omega
    have hml : ((l.drop k).take n).length = n := by simp; omega
    obtain ⟨m, hm⟩ : ∃ m, (l.drop k).take n = m := ⟨_, rfl⟩
    rw [hm] at hml
    clear hf1 hf2
    go_enter Try.func20, Try.ntmps20
    go_wp2_with fail
    refine (readYes h1.r hl n hkn).mono ?_
    rintro x w1 ⟨ab, rfl, hab, hr, hrd, ho⟩
    rw [hm] at hrd
    have hd := h1.mid ho
    have hne := h1.gq
    have hnn := VAR.out _ ho
    go_wp2_with fail
    refine (refReadYes hd hl n hkn).mono ?_
    rintro x w2 ⟨ax, cx, rfl, hrx, hd2, ho2⟩
    rw [hm] at hrx
    have H := Lib.hid (h1.both hr ho hd2 ho2)
    have HO := Lib.hid ((ho0.trans (In3.p ho)).trans (In3.q ho2))
    have hrd2 : Rd w2 ab m := by
      rcases Nat.eq_zero_or_pos n with rfl | hn0
      · rw [List.length_eq_zero_iff.1 hml]; exact Rd.nil _ _
      · exact hrd.only ho2 (fun a x => by rw [hab hn0] at x; cases x; exact hne)
    clear h1 hr ho hd hd2 ho2 hrd ho0
    go_wp2_with fail
    refine (sameTrue ab ax m n n n cx w2 hml hml (by omega) hrd2 hrx).mono ?_
    rintro x w3 ⟨rfl, hst⟩
    have h3 := H.out.below (hst.below _)
    have ho3 := HO.out.trans (hst.only (S := In3 p g q))
    clear H HO hst hrd2 hrx
    go_wp2_with fail
    go_loopw [14] (fun i wr => ∃ j : Nat, j ≤ n ∧ i = .int .i64 j ∧ Two wr p g q ao cap l (k + n) 0 ∧ Only (In3 p g q) w wr) (fun i _ => n - (intOf i).toNat)
    case atStart => exact ⟨0, Nat.zero_le _, rfl, h3, ho3⟩
    case round =>
      obtain ⟨j, hj, rfl, h4, ho4⟩ := hrel
      clear h3 ho3
      by_cases hlt : j < n
      · obtain rfl := hab (by omega)
        obtain ⟨v0, hc⟩ := h4.r.mcell (k + j) (by omega)
        have hf := h4.r.mfree (k + j)
        have H5 := Lib.hid (show Two (wr.setCell ⟨g, k + j, none⟩ (.int .u8 35)) p g q ao cap l (k + n) 0 from
          ⟨h4.r.mset (k + j) (by omega) _, h4.d.only (Only.setCell wr g (k + j) (.int .u8 35)) (Ne.symm h4.gq) (fun a x => (h4.ap a x).2), h4.pq, h4.gq, h4.ap⟩)
        have HO5 := Lib.hid (ho4.trans (In3.g (p := p) (q := q) (Only.setCell wr g (k + j) (.int .u8 35))))
        clear h4 ho4 hab
        go_wp2
        go_roundw
        case rel => exact ⟨j + 1, by omega, by go_num, H5.out, HO5.out⟩
        case measure => simp [intOf]; omega
      · obtain rfl : j = n := by omega
        have H5 := Lib.hid h4
        clear h4 hab
        go_wp2
        go_ret
        exact ⟨rfl, _, _, H5.out, ho4⟩
  · have hno : ¬ (e = 0 ∧ 0 ≤ nn ∧ nn ≤ (l.length : Int) - k) := hfit
    have HNO := Lib.hid hno
    clear hfit hno
    go_enter Try.func20, Try.ntmps20
    go_wp2_with fail
    refine (readNo h1.r hl nn HNO.out).mono ?_
    rintro x w1 ⟨rfl, hr, -, ho⟩
    have hd := h1.mid ho
    have hnn := VAR.out _ ho
    go_wp2_with fail
    refine (refReadNo hd hl nn HNO.out).mono ?_
    rintro x w2 ⟨rfl, hd2, ho2⟩
    have H := Lib.hid (h1.both hr ho hd2 ho2)
    have HO := Lib.hid ((ho0.trans (In3.p ho)).trans (In3.q ho2))
    clear h1 hr ho hd hd2 ho2 ho0
    go_wp2_with fail
    refine (sameTrue none none [] 0 0 0 0 w2 rfl rfl (by omega) (Rd.nil _ _) (Rd.nil _ _)).mono ?_
    rintro x w3 ⟨rfl, hst⟩
    have H3 := Lib.hid (H.out.below (hst.below _))
    have ho3 := HO.out.trans (hst.only (S := In3 p g q))
    clear H HO hst
    go_wp2_with fail
    go_loop [14] (fun i => i = .int .i64 0) (fun _ => 0)
    case atStart => rfl
    case round =>
      obtain rfl := hrel
      go_wp2
      go_ret
      first | exact ⟨rfl, _, _, H3.out, ho3⟩ | exact ⟨rfl, ⟨_, _, H3.out⟩, ho3⟩
theorem step6 {w : World} {p g q : Nat} {ao : Option Addr} {cap : Nat} {l : List (BitVec 8)} {k : Nat} {e : Int} (h : Two w p g q ao cap l k e) (hl : l.length ≤ 140737488351232) (nn : Int) (ss : Bool) :
   Calls Try.prog 20 #[.agg #[.int .i64 6, .int .i64 nn, .bool ss], .pointer (some ⟨p, 0, none⟩), .pointer (some ⟨q, 0, none⟩)] w fun x w' => x = .returned (.bool true) ∧ ∃ k' e', Two w' p g q ao cap l k' e' ∧ Only (In3 p g q) w w' := by
  have h1 := h.below ((Below.refl _ w).alloc (Nat.le_refl _) (.cells #[.int .i64 6, .int .i64 nn, .bool ss] 47 (0, 0)))
  have ho0 := Only.alloc (In3 p g q) w (.cells #[.int .i64 6, .int .i64 nn, .bool ss] 47 (0, 0))
  have VAR := Lib.hid (fun (w' : World) (ho : Only (fun j => j = p) (w.alloc (.cells #[.int .i64 6, .int .i64 nn, .bool ss] 47 (0, 0))) w') =>
    show w'.cell? ⟨w.heap.size, 1, none⟩ = some (.int .i64 nn) by
      have hp := h.r.lt
      rw [cell_of_row w' w.heap.size 1 _ _ _ ((ho.block w.heap.size (by show _ < (w.heap.push _).size; simp) (by omega)).trans (heap_alloc_new w _))]; rfl)
  clear h
  by_cases hfit : e = 0 ∧ 0 ≤ nn ∧ nn ≤ (l.length : Int) - k
  · obtain ⟨rfl, hf1, hf2⟩ := hfit
    obtain ⟨n, rfl⟩ : ∃ n : Nat, nn = n := ⟨nn.toNat, by omega⟩
    have hkn : k + n ≤ l.length := by have := h1.r.le; omega
    clear hf1 hf2
    go_enter Try.func20, Try.ntmps20
    go_wp2_with fail
    refine (zerosYes h1.r hl n hkn).mono ?_
    rintro x w1 ⟨rfl, hr, ho⟩
    have hd := h1.mid ho
    have hnn := VAR.out _ ho
    go_wp2_with fail
    refine (refZerosYes hd hl n hkn).mono ?_
    rintro x w2 ⟨rfl, hd2, ho2⟩
    have H := Lib.hid (h1.both hr ho hd2 ho2)
    have HO := Lib.hid ((ho0.trans (In3.p ho)).trans (In3.q ho2))
    clear h1 hr ho hd hd2 ho2 ho0
    go_wp2
    go_ret
    exact ⟨rfl, _, _, H.out, HO.out⟩
  · have hno : ¬ (e = 0 ∧ 0 ≤ nn ∧ nn ≤ (l.length : Int) - k) := hfit
    have HNO := Lib.hid hno
    clear hfit hno
    go_enter Try.func20, Try.ntmps20
    go_wp2_with fail
    refine (zerosNo h1.r hl nn HNO.out).mono ?_
    rintro x w1 ⟨rfl, hr, -, ho⟩
    have hd := h1.mid ho
    have hnn := VAR.out _ ho
    go_wp2_with fail
    refine (refZerosNo hd hl nn HNO.out).mono ?_
    rintro x w2 ⟨rfl, hd2, ho2⟩
    have H := Lib.hid (h1.both hr ho hd2 ho2)
    have HO := Lib.hid ((ho0.trans (In3.p ho)).trans (In3.q ho2))
    clear h1 hr ho hd hd2 ho2 ho0
    go_wp2
    go_ret
    exact ⟨rfl, _, _, H.out, HO.out⟩
theorem step7 {w : World} {p g q : Nat} {ao : Option Addr} {cap : Nat} {l : List (BitVec 8)} {k : Nat} {e : Int} (h : Two w p g q ao cap l k e) (hl : l.length ≤ 140737488351232) (nn : Int) (ss : Bool) :
   Calls Try.prog 20 #[.agg #[.int .i64 7, .int .i64 nn, .bool ss], .pointer (some ⟨p, 0, none⟩), .pointer (some ⟨q, 0, none⟩)] w fun x w' => x = .returned (.bool true) ∧ ∃ k' e', Two w' p g q ao cap l k' e' ∧ Only (In3 p g q) w w' := by
  have h1 := h.below ((Below.refl _ w).alloc (Nat.le_refl _) (.cells #[.int .i64 7, .int .i64 nn, .bool ss] 47 (0, 0)))
  have ho0 := Only.alloc (In3 p g q) w (.cells #[.int .i64 7, .int .i64 nn, .bool ss] 47 (0, 0))
  clear h
  by_cases he : e = 0
  · have he' := Lib.hid he
    clear he
    go_enter Try.func20, Try.ntmps20
    go_wp2_with fail
    refine (readerLeft h1.r hl).mono ?_
    rintro x w1 ⟨rfl, hst⟩
    rw [if_pos he'.out]
    have h2 := h1.below (hst.below _)
    have ho2 := ho0.trans (hst.only (S := In3 p g q))
    clear h1 ho0 hst
    go_wp2_with fail
    refine (refLeft h2.d hl).mono ?_
    rintro x w2 ⟨rfl, hst⟩
    rw [if_pos he'.out]
    have H := Lib.hid (h2.below (hst.below _))
    have ho3 := ho2.trans (hst.only (S := In3 p g q))
    clear h2 ho2 hst
    go_wp2
    go_ret
    exact ⟨rfl, _, _, H.out, ho3⟩
  · have he' := Lib.hid he
    clear he
    go_enter Try.func20, Try.ntmps20
    go_wp2_with fail
    refine (readerLeft h1.r hl).mono ?_
    rintro x w1 ⟨rfl, hst⟩
    rw [if_neg he'.out]
    have h2 := h1.below (hst.below _)
    have ho2 := ho0.trans (hst.only (S := In3 p g q))
    clear h1 ho0 hst
    go_wp2_with fail
    refine (refLeft h2.d hl).mono ?_
    rintro x w2 ⟨rfl, hst⟩
    rw [if_neg he'.out]
    have H := Lib.hid (h2.below (hst.below _))
    have ho3 := ho2.trans (hst.only (S := In3 p g q))
    clear h2 ho2 hst
    go_wp2
    go_ret
    exact ⟨rfl, _, _, H.out, ho3⟩
set_option maxHeartbeats 4000000 in
theorem step8 {w : World} {p g q : Nat} {ao : Option Addr} {cap : Nat} {l : List (BitVec 8)} {k : Nat} {e : Int} (h : Two w p g q ao cap l k e) (nn : Int) (ss : Bool) :
   Calls Try.prog 20 #[.agg #[.int .i64 8, .int .i64 nn, .bool ss], .pointer (some ⟨p, 0, none⟩), .pointer (some ⟨q, 0, none⟩)] w fun x w' => x = .returned (.bool true) ∧ ∃ k' e', Two w' p g q ao cap l k' e' ∧ Only (In3 p g q) w w' := by
  have h1 := h.below ((Below.refl _ w).alloc (Nat.le_refl _) (.cells #[.int .i64 8, .int .i64 nn, .bool ss] 47 (0, 0)))
  have ho0 := Only.alloc (In3 p g q) w (.cells #[.int .i64 8, .int .i64 nn, .bool ss] 47 (0, 0))
  clear h
  go_enter Try.func20, Try.ntmps20
  go_wp2_with fail
  refine (readerErr h1.r).mono ?_
  rintro x w1 ⟨rfl, hst⟩
  have h2 := h1.below (hst.below _)
  have ho2 := ho0.trans (hst.only (S := In3 p g q))
  have c1 := h2.d.c1
  have c2 := h2.d.c2
  have H := Lib.hid h2
  clear h1 ho0 hst h2
  go_wp2_with fail
  go_region_with (go_at_call 17; refine (numOf e _).mono ?_; rintro x w2 ⟨rfl, rfl⟩)
  all_goals (go_wp2; go_ret; exact ⟨rfl, _, _, H.out.below (((Still.refl w1).drewN 1).below _), ho2.trans (((Still.refl w1).drewN 1).only)⟩)
theorem stepOther {w : World} {p g q : Nat} {ao : Option Addr} {cap : Nat} {l : List (BitVec 8)} {k : Nat} {e : Int} (h : Two w p g q ao cap l k e) (kk nn : Int) (ss : Bool) (h1 : kk ≠ 1) (h2 : kk ≠ 2) (h3 : kk ≠ 3) (h4 : kk ≠ 4) (h5 : kk ≠ 5) (h6 : kk ≠ 6) (h7 : kk ≠ 7) (h8 : kk ≠ 8) (h9 : kk ≠ 9) :
   Calls Try.prog 20 #[.agg #[.int .i64 kk, .int .i64 nn, .bool ss], .pointer (some ⟨p, 0, none⟩), .pointer (some ⟨q, 0, none⟩)] w fun x w' => x = .returned (.bool true) ∧ ∃ k' e', Two w' p g q ao cap l k' e' ∧ Only (In3 p g q) w w' := by
  have e1 : (kk == 1) = false := beq_eq_false_iff_ne.2 h1
  have e2 : (kk == 2) = false := beq_eq_false_iff_ne.2 h2
  have e3 : (kk == 3) = false := beq_eq_false_iff_ne.2 h3
  have e4 : (kk == 4) = false := beq_eq_false_iff_ne.2 h4
  have e5 : (kk == 5) = false := beq_eq_false_iff_ne.2 h5
  have e6 : (kk == 6) = false := beq_eq_false_iff_ne.2 h6
  have e7 : (kk == 7) = false := beq_eq_false_iff_ne.2 h7
  have e8 : (kk == 8) = false := beq_eq_false_iff_ne.2 h8
  have e9 : (kk == 9) = false := beq_eq_false_iff_ne.2 h9
  clear h1 h2 h3 h4 h5 h6 h7 h8 h9
  have H := Lib.hid h
  clear h
  go_enter Try.func20, Try.ntmps20
  go_wp2
  go_ret
  exact ⟨rfl, _, _, H.out.below ((Below.refl _ w).alloc (Nat.le_refl _) _), Only.alloc _ _ _⟩
theorem stepOf {w : World} {p g q : Nat} {ao : Option Addr} {cap : Nat} {l : List (BitVec 8)} {k : Nat} {e : Int} (h : Two w p g q ao cap l k e) (hl : l.length ≤ 140737488351232) (kk nn : Int) (ss : Bool) :
   Calls Try.prog 20 #[.agg #[.int .i64 kk, .int .i64 nn, .bool ss], .pointer (some ⟨p, 0, none⟩), .pointer (some ⟨q, 0, none⟩)] w fun x w' => x = .returned (.bool true) ∧ ∃ k' e', Two w' p g q ao cap l k' e' ∧ Only (In3 p g q) w w' := by
  by_cases h1 : kk = 1
  · subst h1; exact step1 h hl nn ss
  by_cases h2 : kk = 2
  · subst h2; exact step2 h hl nn ss
  by_cases h3 : kk = 3
  · subst h3; exact step3 h hl nn ss
  by_cases h4 : kk = 4
  · subst h4; exact step4 h hl nn ss
  by_cases h5 : kk = 5
  · subst h5; exact step5 h hl nn ss
  by_cases h6 : kk = 6
  · subst h6; exact step6 h hl nn ss
  by_cases h7 : kk = 7
  · subst h7; exact step7 h hl nn ss
  by_cases h8 : kk = 8
  · subst h8; exact step8 h nn ss
  by_cases h9 : kk = 9
  · subst h9; exact step9 h hl nn ss
  exact stepOther h kk nn ss h1 h2 h3 h4 h5 h6 h7 h8 h9
end Go.Proofs.Ytmhcfifenclebaa
