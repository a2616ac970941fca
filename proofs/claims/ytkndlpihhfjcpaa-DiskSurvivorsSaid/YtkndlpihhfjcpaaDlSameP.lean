/- The same writes? They are. -/
import Derived.Test.YtkndlpihhfjcpaaDlArgs
import Derived.Deep.QuietTactic
import Derived.BigQuiet
namespace Go.Proofs.Ytkndlpihhfjcpaa
open Go.RowKit
/-- A list of writes stands there. -/
def Pd (w : World) (ao : Option Addr) (ps : List (Nat × List (BitVec 8))) : Prop := ∀ (j : Nat) (p : Nat × List (BitVec 8)), ps[j]? = some p → ∃ b o ad c, ao = some ⟨b, o, none⟩ ∧ w.cell? ⟨b, o + j * 2, none⟩ = some (.int .i64 (p.1 : Nat)) ∧ w.cell? ⟨b, o + j * 2 + 1, none⟩ = some (.slice ad 512 c) ∧ p.2.length = 512 ∧ Rd w ad p.2
theorem Pd.on {w w' : World} {ao : Option Addr} {ps : List (Nat × List (BitVec 8))} (h : Pd w ao ps) (hb : Below w.heap.size w w') : Pd w' ao ps := by
  intro j p hj
  obtain ⟨b, o, ad, c, h1, h2, h3, h4, h5⟩ := h j p hj
  exact ⟨b, o, ad, c, h1, (hb.cell (p := ⟨b, _, none⟩) (lt_of_rd h2)).trans h2, (hb.cell (p := ⟨b, _, none⟩) (lt_of_rd h3)).trans h3, h4, h5.on hb⟩
theorem pdl_pd {w W : World} {v : Value} {ps : List (Nat × List (BitVec 8))} {gs : List Nat} {rest : List It} {n : Nat} (hn : ps.length = n) (h5 : ∀ p ∈ ps, p.2.length = 512) (h : Bag w W (pdl v n ps gs rest)) : ∃ ao cap, v = .slice ao n cap ∧ Pd W ao ps := by
  subst hn
  have hl := h.rowsLen 1 rfl
  rw [List.length_map] at hl
  obtain ⟨ao, cap, h1, h2⟩ := h.lstForm2 0 rfl
  refine ⟨ao, cap, h1, fun j p hj => ?_⟩
  have hjl : j < ps.length := (List.getElem?_eq_some_iff.1 hj).1
  obtain ⟨g, cap', h3, _, h4⟩ := h.lstAt2 0 rfl (by omega)
  rw [h1] at h3
  simp only [Value.slice.injEq, true_and] at h3
  obtain ⟨rfl, rfl⟩ := h3
  obtain ⟨b, hb⟩ : ∃ b, gs[j]? = some b := ⟨gs[j]'(by omega), List.getElem?_eq_getElem _⟩
  obtain ⟨e1, e2⟩ := h4 j hjl
  obtain ⟨c1, c2⟩ := pcs_get hj hb
  refine ⟨g, 0, some ⟨b, 0, none⟩, 512, rfl, by rw [Nat.zero_add]; exact e1.trans c1, by rw [Nat.zero_add]; exact e2.trans c2, h5 p (List.mem_of_getElem? hj), ?_⟩
  exact (h.rowsOwn 1 rfl j hb (show (ps.map Prod.snd)[j]? = some p.2 by rw [List.getElem?_map, hj]; rfl)).rd
theorem mkl_pd {w W : World} {q n : Nat} {M : MLay} {ls : List (List (BitVec 8))} {ps : List (Nat × List (BitVec 8))} {rest : List It} (hn : ps.length = n) (h5 : ∀ p ∈ ps, p.2.length = 512) (h : Bag w W (mkl q M ls ps rest)) : ∃ ao cap, M.pv = .slice ao n cap ∧ Pd W ao ps := by
  subst hn
  have hP := mkP h
  obtain ⟨ao, cap, h1, h2, h3⟩ := mkPv h
  refine ⟨ao, cap, h1, fun j p hj => ?_⟩
  have hjl : j < ps.length := (List.getElem?_eq_some_iff.1 hj).1
  obtain ⟨g, rfl, h4⟩ := h3 (by omega)
  obtain ⟨y, hy⟩ : ∃ y, M.hs[j]? = some y := ⟨M.hs[j]'(by rw [hP.1]; omega), List.getElem?_eq_getElem _⟩
  obtain ⟨e1, e2⟩ := h4 j p y hj hy
  exact ⟨g, 0, some ⟨y.1, 0, none⟩, y.2, rfl, by rw [Nat.zero_add]; exact e1, by rw [Nat.zero_add]; exact e2, h5 p (List.mem_of_getElem? hj), (h.poolOwn 2 rfl (hP.2 j y p hy hj)).rd⟩
set_option maxRecDepth 20000 in
set_option maxHeartbeats 1000000 in
theorem samePend (ao bo : Option Addr) (ps : List (Nat × List (BitVec 8))) (n c1 c2 : Nat) (w : World) (hn : ps.length = n) (hn1 : n ≤ 1000000000000) (ha : Pd w ao ps) (hb : Pd w bo ps) :
   Calls Try.prog 24 #[.slice ao n c1, .slice bo n c2] w fun e w' => e = .returned (.bool true) ∧ Still w w' := by
  have HN := Lib.hid hn
  have HA := Lib.hid (fun (w' : World) (h : Still w w') => ha.on (h.below _))
  have HB := Lib.hid (fun (w' : World) (h : Still w w') => hb.on (h.below _))
  clear hn ha hb
  go_enter Try.func24, Try.ntmps24
  go_wp2_with fail
  go_loopw [5] (fun t wr => ∃ j : Nat, j ≤ n ∧ t = .int .i64 j ∧ Still w wr) (fun t _ => n - (intOf t).toNat)
  case atStart => exact ⟨0, Nat.zero_le _, rfl, Still.refl _⟩
  case round =>
    obtain ⟨j, hj, rfl, hst⟩ := hrel
    have HS := Lib.hid hst
    clear hst
    by_cases hlt : j < n
    · obtain ⟨⟨a, b⟩, hp⟩ : ∃ p, ps[j]? = some p := ⟨ps[j]'(by rw [HN.out]; exact hlt), List.getElem?_eq_getElem _⟩
      obtain ⟨b1, o1, ad1, d1, rfl, x1, y1, h5, r1⟩ := HA.out wr HS.out j (a, b) hp
      obtain ⟨b2, o2, ad2, d2, rfl, x2, y2, _, r2⟩ := HB.out wr HS.out j (a, b) hp
      simp only at x1 x2 y1 y2 h5 r1 r2
      have H5 := Lib.hid h5
      have R1 := Lib.hid r1
      have R2 := Lib.hid r2
      clear hp h5 r1 r2
      go_wp2_with fail
      go_still_tail 10, (by kernel_rfl)
      go_wp2_with fail
      refine (sameTrue ad1 ad2 b 512 512 d1 d2 _ H5.out H5.out (by omega) (R1.out.on (Below.refl _ wr).drew) (R2.out.on (Below.refl _ wr).drew)).mono ?_
      rintro e w2 ⟨rfl, hst2⟩
      have HS2 := Lib.hid (show Still w w2 from (HS.out.drewN 1).trans hst2)
      clear x1 x2 y1 y2 hst2 R1 R2 H5
      obtain ⟨p, hp⟩ : ∃ p, ps[j]? = some p := ⟨ps[j]'(by rw [HN.out]; exact hlt), List.getElem?_eq_getElem _⟩
      obtain ⟨b1', o1', _, _, e1, x1, _⟩ := HA.out w2 HS2.out j p hp
      obtain ⟨b2', o2', _, _, e2, x2, _⟩ := HB.out w2 HS2.out j p hp
      simp only [Option.some.injEq, Addr.mk.injEq, and_true] at e1 e2
      obtain ⟨rfl, rfl⟩ := e1
      obtain ⟨rfl, rfl⟩ := e2
      have hzz : (((p.1 : Nat) : Int) != ((p.1 : Nat) : Int)) = false := by simp
      clear hp
      go_wp2_with fail
      go_quiet (fail)
      go_wp2_with fail
      go_roundw
      case rel => exact ⟨j + 1, by omega, by go_num, HS2.out.drewN _⟩
      case measure => simp [intOf]; omega
    · go_wp2_with fail
      go_ret
      exact ⟨rfl, HS.out⟩
end Go.Proofs.Ytkndlpihhfjcpaa
