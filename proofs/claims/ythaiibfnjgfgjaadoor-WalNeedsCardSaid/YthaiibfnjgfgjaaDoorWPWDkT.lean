/- What the device tells. -/
import Derived.Test.YthaiibfnjgfgjaaDoorWMk
namespace Go.Proofs.YthaiibfnjgfgjaaDoor
open Go.RowKit
section
open Go.RowKit
variable {w W : World} {p : Nat} {L : Lay} {D : Dk} {rest : List It}
theorem dkDone (hB : Bag w W (dkl p L D rest)) : Calls Tryd.prog 27 #[.pointer (some ⟨p, 0, none⟩)] W fun e w' => e = .returned (.int .i64 (D.done : Nat)) ∧ W = w' := by
  obtain ⟨q0, q1, q2, q3, q4, q5, qf⟩ := dkCells hB
  clear hB
  go_enter Tryd.func27, Tryd.ntmps27
  go_wp2
  go_ret
  exact ⟨rfl, rfl⟩
theorem dkClaimed (hB : Bag w W (dkl p L D rest)) : Calls Tryd.prog 60 #[.pointer (some ⟨p, 0, none⟩)] W fun e w' => e = .returned (.int .i64 (D.claim : Nat)) ∧ W = w' := by
  obtain ⟨q0, q1, q2, q3, q4, q5, qf⟩ := dkCells hB
  clear hB
  go_enter Tryd.func60, Tryd.ntmps60
  go_wp2
  go_ret
  exact ⟨rfl, rfl⟩
theorem dkSectors (hn : 1 ≤ D.ls.length) (hB : Bag w W (dkl p L D rest)) : Calls Tryd.prog 49 #[.pointer (some ⟨p, 0, none⟩)] W fun e w' => e = .returned (.int .i64 (D.ls.length : Nat)) ∧ W = w' := by
  obtain ⟨q0, q1, q2, q3, q4, q5, qf⟩ := dkCells hB
  obtain ⟨g, cap, hlv, _⟩ := dkLv hB hn
  rw [hlv] at q0
  clear hB hlv
  go_enter Tryd.func49, Tryd.ntmps49
  go_wp2
  go_ret
  exact ⟨rfl, rfl⟩
def ClaimR (w : World) (p : Nat) (L : Lay) (D : Dk) (rest : List It) (e : Ending) (W' : World) : Prop := e = .returned (.int .i64 (D.claimD.claim : Nat)) ∧ Bag w W' (dkl p L D.claimD rest)
theorem dkClaim (hc : D.claim ≤ 1000000000000000) (hB : Bag w W (dkl p L D rest)) : Calls Tryd.prog 32 #[.pointer (some ⟨p, 0, none⟩)] W (ClaimR w p L D rest) := by
  obtain ⟨q0, q1, q2, q3, q4, q5, qf⟩ := dkCells hB
  have hpl : p < W.heap.size := World.block_lt_of_cell? W _ q2
  have HB := Lib.hid (dkPut4 hB (D.claim + 1))
  obtain ⟨n, hn⟩ : ∃ n, D.claim = n := ⟨_, rfl⟩
  rw [hn] at q4 hc HB
  have HN := Lib.hid (show D.claimD.claim = n + 1 by rw [← hn]; rfl)
  have HD := Lib.hid (show D.claimD = { D with claim := n + 1 } by rw [← hn]; rfl)
  clear hB hn
  go_enter Tryd.func32, Tryd.ntmps32
  go_wp2
  go_ret
  refine ⟨by rw [HN.out]; rfl, ?_⟩
  rw [HD.out]; exact HB.out
end
theorem Bag.tail {w W : World} {x : It} {l : List It} (h : Bag w W (x :: l)) : Bag w W l := h.erase 0
/-- append of many cells, one each, onto a list of a bag. -/
theorem Bag.appendRow {P : Program} {w W : World} {l : List It} {ops : Array Oper} {rest : List Oper} {o : Oper} {a : Act} {Q : Exit → Act → World → Prop} (hgd : o.guard = none) (s x : Operand) (t : TypeId)
    (ho : o.op = .call { callee := .builtin .append, args := #[s, x], argTypes := #[t, t] })
    (e : TypeId) (i : TypeInfo) (z : Value) (bytes : Nat) (ht : P.underlying t = some (.slice e)) (hi : P.info? e = some i) (hz : i.zero = some z) (hsize : i.size = 1) (hby : i.bytes = bytes) (hzs : z.cells.size = 1)
    (k : Nat) (v : Value) (n : Nat) (xs : List Value) (hB : Bag w W l) (hk : l[k]? = some (.lst e 1 v n xs)) (hs : a.eval s = v)
    (b off m c : Nat) (hx : a.eval x = .slice (some ⟨b, off, none⟩) m c) (news : List Value) (hm : news.length = m) (hm0 : 0 < m) (hnews : ∀ (j : Nat) (y : Value), news[j]? = some y → W.cell? ⟨b, off + j, none⟩ = some y ∧ y.oneCell' = true) (hn : n + m ≤ maxLen) (hbytes : (n + m) * bytes ≤ 140737488355328)
    (h : ∀ g cap W', Bag w W' (l.set k (.lst e 1 (.slice (some ⟨g, 0, none⟩) (n + m) cap) (n + m) (xs ++ news))) → W.heap.size ≤ W'.heap.size → wpList P ops Q rest (a.put o.dst (.slice (some ⟨g, 0, none⟩) (n + m) cap)) W') :
    wpList P ops Q (o :: rest) a W := by
  have hown := hB.lst k hk
  refine wpList_append_lies (P := P) W hgd s x t ho 0 e i z 1 bytes ht hi hz hsize hby hzs (by decide) v n xs hs hown ⟨b, off, none⟩ m c news hx (by rw [hm, Nat.mul_one]) ?_ ?_ hm0 hn hbytes (Nat.zero_le _) _ rfl ?_
  · intro j y hj
    rw [Addr.add_lit]
    exact (hnews j y hj).1
  · intro y hy
    obtain ⟨j, hj⟩ := List.mem_iff_getElem?.1 hy
    exact (hnews j y hj).2
  · intro g cap W' h2 h3 h4 h5
    refine h g cap W' (hB.turn k hk (S := fun b => v.ownBlock = some b) ⟨h3.os, h3.tape, h3.output, h3.size, fun b hb hne => h3.block b hb fun e => hne e.symm⟩ ?_ (It.lst_of h2) ?_) h3.size
    · intro b hb
      rcases hown.2 with ⟨rfl, _⟩ | ⟨g', cap', cur, rfl, _⟩
      · cases hb
      · simp only [Value.ownBlock, Option.some.injEq] at hb
        subst hb
        exact ⟨_, _, rfl⟩
    · rintro b ⟨n', cap', hb⟩
      simp only [Value.slice.injEq, Option.some.injEq, Addr.mk.injEq] at hb
      obtain ⟨⟨rfl, _⟩, _⟩ := hb
      rcases h4 with h4 | h4
      · left
        rcases hown.2 with ⟨rfl, _⟩ | ⟨g', cap', cur, rfl, _⟩
        · cases h4
        · simp only [Value.ownBlock, Option.some.injEq] at h4
          subst h4
          exact ⟨_, _, rfl⟩
      · right; omega
/-- A list of bytes is bytes of one's own. -/
theorem Bag.lstMine {w W : World} {e n : Nat} {v : Value} {m : List (BitVec 8)} {rest : List It} (h : Bag w W (.lst e 1 v n (bts m) :: rest)) (hn : m.length = n) : ∃ ao cap, v = .slice ao n cap ∧ Bag w W (.mine e ao cap m :: rest) := by
  subst hn
  obtain ⟨ao, cap, rfl, hm⟩ := owns_mine (h.lst 0 rfl)
  refine ⟨ao, cap, rfl, h.turn 0 rfl (y := .mine e ao cap m) (Only.refl (fun _ => False) W) (fun _ h => h.elim) hm ?_⟩
  rintro k ⟨a, rfl, rfl⟩
  rcases hm with ⟨_, h0, _⟩ | ⟨g, h0, _⟩
  · cases h0
  · cases h0
    exact Or.inl ⟨_, _, rfl⟩
theorem Rd.news {w : World} {b o : Nat} {l : List (BitVec 8)} (h : Rd w (some ⟨b, o, none⟩) l) : ∀ (j : Nat) (y : Value), (bts l)[j]? = some y → w.cell? ⟨b, o + j, none⟩ = some y ∧ y.oneCell' = true := by
  intro j y hj
  refine ⟨?_, bts_one l y (List.mem_of_getElem? hj)⟩
  have := h.src j y hj
  rwa [Addr.add_lit] at this
theorem flat_len (ls : List (List (BitVec 8))) (h : ∀ l ∈ ls, l.length = 512) : ls.flatten.length = ls.length * 512 := by
  induction ls with
  | nil => rfl
  | cons a r ih =>
    rw [List.flatten_cons, List.length_append, ih (fun l hl => h l (List.mem_cons_of_mem _ hl)), h a List.mem_cons_self, List.length_cons]
    omega
theorem flat_snoc {ls : List (List (BitVec 8))} {j : Nat} {s : List (BitVec 8)} (h : ls[j]? = some s) : (ls.take (j + 1)).flatten = (ls.take j).flatten ++ s := by
  rw [take_at h, List.flatten_append]
  simp
def DurR (w : World) (p : Nat) (L : Lay) (D : Dk) (rest : List It) (e : Ending) (W' : World) : Prop := ∃ ao cap, e = .returned (.slice ao (D.ls.length * 512) cap) ∧ Bag w W' (.mine 5 ao cap D.ls.flatten :: dkl p L D rest)
set_option maxRecDepth 20000 in
set_option maxHeartbeats 800000 in
theorem dkDurable (w W : World) (p : Nat) (L : Lay) (D : Dk) (rest : List It) (m : Nat) (hw : D.Wf m) (hB : Bag w W (dkl p L D rest)) :
   Calls Tryd.prog 34 #[.pointer (some ⟨p, 0, none⟩)] W (DurR w p L D rest) := by
  obtain ⟨i0, hi, hz0, hz1, hz2⟩ := info_parts info_u8
  obtain ⟨q0, _, _, _, _, _, qf⟩ := dkCells hB
  obtain ⟨g, cap, hlv, hcap, hbl, _⟩ := dkLv hB hw.lo
  have HW := Lib.hid hw
  have HB := Lib.hid hB
  obtain ⟨n, hn⟩ : ∃ n, D.ls.length = n := ⟨_, rfl⟩
  have hnhi := hw.hi
  rw [hn] at hlv hcap hbl hnhi
  rw [hlv] at q0
  have HN := Lib.hid hn
  have HLV := Lib.hid hlv
  have HBL := Lib.hid hbl
  clear hB hw hn hlv hbl
  go_enter Tryd.func34, Tryd.ntmps34
  go_wp2_with (at_make; refine wpList_make_own _ rfl _ _ 29 rfl W.heap.size 5 i0 _ 1 Tryd.underlying29 hi hz0 hz1 .i64 .i64 ((n : Int) * 512) (n * 512) rfl rfl (by omega) (by rw [hz2]; omega) (by unfold maxLen; omega) (Nat.le_refl _) ?_)
  intro w2 hown hgrow
  have hb : Below W.heap.size W w2 := (Below.refl _ _).grown hgrow (Nat.le_refl _) (fun k hk => by cases hk)
  have HB2 := Lib.hid (HB.out.owns hb hown)
  obtain ⟨q0, _, _, _, _, _, qf⟩ := dkCells HB2.out.tail
  rw [HLV.out] at q0
  clear HB hown hgrow hb
  go_wp2_with fail
  go_loopw [3, 18] (fun v t wr => ∃ j : Nat, j ≤ n ∧ t = .int .i64 j ∧ Bag w wr (.lst 5 1 v (j * 512) (bts (D.ls.take j).flatten) :: dkl p L D rest)) (fun _ t _ => n - (intOf t).toNat)
  case atStart => exact ⟨0, Nat.zero_le _, rfl, HB2.out⟩
  case round =>
    obtain ⟨j, hj, rfl, hB⟩ := hrel
    clear HB2 q0 qf
    have HB := Lib.hid hB
    clear hB
    by_cases hlt : j < n
    · obtain ⟨s, hs⟩ : ∃ s, D.ls[j]? = some s := ⟨D.ls[j]'(by rw [HN.out]; exact hlt), List.getElem?_eq_getElem _⟩
      obtain ⟨b, hb⟩ : ∃ b, L.bs[j]? = some b := ⟨L.bs[j]'(by rw [HBL.out]; exact hlt), List.getElem?_eq_getElem _⟩
      obtain ⟨g2, cap2, hlv2, _, _, hbs⟩ := dkLv HB.out.tail HW.out.lo
      rw [HLV.out] at hlv2
      simp only [Value.slice.injEq, Option.some.injEq, Addr.mk.injEq, and_true] at hlv2
      obtain rfl := hlv2.1
      have c := hbs j b hb
      unfold slv at c
      have hR := Lib.hid (HB.out.tail.rowsOwn 2 rfl j hb hs).rd.news
      have HS := Lib.hid (HW.out.sec s (List.mem_of_getElem? hs))
      have HF := Lib.hid (flat_snoc hs)
      obtain ⟨av, cv, hv, _⟩ := HB.out.lstForm 0 rfl
      subst hv
      clear hbs hb hs hlv2
      go_wp2_with (at_builtin; refine Bag.appendRow rfl _ _ 29 rfl 5 i0 _ 1 Tryd.underlying29 hi hz0 hz1 hz2 rfl 0 _ (j * 512) _ HB.out rfl rfl b 0 512 512 rfl (bts s) (by rw [bts_length, HS.out]) (by omega) hR.out (by unfold maxLen; omega) (by omega) ?_)
      intro gx cx W3 hB3 _
      try simp only [List.set_cons_zero] at hB3
      rw [← bts_append, ← HF.out, show j * 512 + 512 = (j + 1) * 512 by omega] at hB3
      have HB3 := Lib.hid hB3
      clear hB3 HB c hR
      go_wp2_with fail
      go_roundw
      case rel =>
        refine ⟨j + 1, by omega, by go_num, ?_⟩
        first | exact HB3.out | (rw [show j * 512 + 512 = (j + 1) * 512 by omega]; exact HB3.out)
      case measure => simp [intOf]; omega
    · obtain rfl : j = n := by omega
      have h1 := HB.out
      rw [show D.ls.take j = D.ls by rw [← HN.out, List.take_length]] at h1
      obtain ⟨ao, cx, rfl, h2⟩ := h1.lstMine (by rw [flat_len _ HW.out.sec, HN.out])
      have HB3 := Lib.hid h2
      clear h1 h2
      go_wp2_with fail
      go_ret
      refine ⟨ao, cx, ?_, HB3.out⟩
      rw [HN.out] <;> rfl
theorem dkl_in {w W : World} {x : It} {p : Nat} {L : Lay} {D : Dk} {rest : List It} (h : Bag w W (x :: dkl p L D rest)) : Bag w W (dkl p L D (x :: rest)) :=
  h.perm (List.perm_middle (l₁ := dkl p L D []) (l₂ := rest) (a := x)).symm
theorem dkl_out {w W : World} {x : It} {p : Nat} {L : Lay} {D : Dk} {rest : List It} (h : Bag w W (dkl p L D (x :: rest))) : Bag w W (x :: dkl p L D rest) :=
  h.perm (List.perm_middle (l₁ := dkl p L D []) (l₂ := rest) (a := x))
/-- Bytes of one's own that are some lie in a block. -/
theorem Bag.mineSome {w W : World} {l : List It} (h : Bag w W l) (i : Nat) {e : TypeId} {ao : Option Addr} {cap : Nat} {m : List (BitVec 8)} (hi : l[i]? = some (.mine e ao cap m)) (hm : 0 < m.length) : ∃ g, ao = some ⟨g, 0, none⟩ := by
  rcases h.holds i _ hi with ⟨h0, _⟩ | ⟨g, hg, _⟩
  · rw [h0] at hm; simp at hm
  · exact ⟨g, hg⟩
def Dk.chunk (b : List (BitVec 8)) (j : Nat) : List (BitVec 8) := (b.drop (j * 512)).take 512
end Go.Proofs.YthaiibfnjgfgjaaDoor
