/- The program's device: Arm. The program's device: Arm, the walk. -/
import Derived.Test.YtkndlpihhfjcpaaDkCrash
namespace Go.Proofs.Ytkndlpihhfjcpaa
open Go.RowKit
def armGood (l : List (Int × Int)) (i : Nat) : Bool := decide (1 ≤ (l.getD i (0, 0)).1) && (decide ((l.getD i (0, 0)).2 = 1) || decide ((l.getD i (0, 0)).2 = 2)) && (List.range i).all fun k => (l.getD k (0, 0)).1 != (l.getD i (0, 0)).1
theorem armOk_def (l : List (Int × Int)) : Dk.armOk l = (List.range l.length).all (armGood l) := rfl
theorem armOk_no {l : List (Int × Int)} {j : Nat} (hj : j < l.length) (h : armGood l j = false) : Dk.armOk l = false := by
  rw [armOk_def, Bool.eq_false_iff]
  intro ha
  rw [List.all_eq_true] at ha
  rw [ha j (List.mem_range.2 hj)] at h
  cases h
theorem armE_no {D : Dk} {l : List (Int × Int)} {j n : Nat} (hn : l.length = n) (hj : j < n) (h : armGood l j = false) : D.armE l = 105 := by
  unfold Dk.armE
  rw [armOk_no (by omega) h]
  rfl
theorem armD_no {D : Dk} {l : List (Int × Int)} {j n : Nat} (hn : l.length = n) (hj : j < n) (h : armGood l j = false) : D.armD l = D := by
  unfold Dk.armD
  rw [armE_no hn hj h]
  rfl
theorem armAll_succ {l : List (Int × Int)} {j : Nat} (h : (List.range j).all (armGood l) = true) (hj : armGood l j = true) : (List.range (j + 1)).all (armGood l) = true := by
  rw [List.range_succ, List.all_append, h]
  simpa using hj
theorem getD_at {l : List (Int × Int)} {j : Nat} {f : Int × Int} (h : l[j]? = some f) : l.getD j (0, 0) = f := by simp [List.getD, h]
theorem armGood_lo {l : List (Int × Int)} {j : Nat} {a k : Int} (h : l[j]? = some (a, k)) (ha : a < 1) : armGood l j = false := by
  unfold armGood
  rw [getD_at h, decide_eq_false (show ¬ (1 : Int) ≤ (a, k).1 by simp only; omega)]
  rfl
theorem armGood_kind {l : List (Int × Int)} {j : Nat} {a k : Int} (h : l[j]? = some (a, k)) (h1 : ¬ k = 1) (h2 : ¬ k = 2) : armGood l j = false := by
  unfold armGood
  rw [getD_at h, decide_eq_false (show ¬ (a, k).2 = 1 from h1), decide_eq_false (show ¬ (a, k).2 = 2 from h2)]
  simp
theorem armGood_twice {l : List (Int × Int)} {i j : Nat} {a k k' : Int} (h : l[j]? = some (a, k)) (hi : l[i]? = some (a, k')) (hij : i < j) : armGood l j = false := by
  unfold armGood
  rw [Bool.and_eq_false_iff]
  right
  rw [Bool.eq_false_iff]
  intro ha
  rw [List.all_eq_true] at ha
  have := ha i (List.mem_range.2 hij)
  rw [getD_at h, getD_at hi] at this
  simp at this
theorem armGood_yes {l : List (Int × Int)} {j : Nat} {a k : Int} (h : l[j]? = some (a, k)) (ha : 1 ≤ a) (hk : k = 1 ∨ k = 2) (hd : ∀ i f, i < j → l[i]? = some f → f.1 ≠ a) : armGood l j = true := by
  unfold armGood
  rw [getD_at h, Bool.and_eq_true, Bool.and_eq_true]
  refine ⟨⟨decide_eq_true ha, by rcases hk with rfl | rfl <;> simp⟩, ?_⟩
  rw [List.all_eq_true]
  intro i hi
  have hij := List.mem_range.1 hi
  have hjl : j < l.length := (List.getElem?_eq_some_iff.1 h).1
  have hx : l[i]? = some (l[i]'(by omega)) := List.getElem?_eq_getElem _
  rw [getD_at hx, bne_iff_ne]
  exact hd i _ hij hx
theorem wpList_append_pairs {P : Program} {w : World} {ops : Array Oper} {rest : List Oper} {o : Oper} {a : Act} {Q : Exit → Act → World → Prop} (hgd : o.guard = none) (s x : Operand) (t : TypeId)
    (ho : o.op = .call { callee := .builtin .append, args := #[s, x], argTypes := #[t, t] })
    (e : Nat) (i : TypeInfo) (z : Value) (bytes : Nat) (ht : P.underlying t = some (.slice e)) (hi : P.info? e = some i) (hz : i.zero = some z) (hsize : i.size = 2) (hby : i.bytes = bytes) (hzs : z.cells.size = 2)
    (hs : a.eval s = .slice none 0 0) (ao : Option Addr) (m c : Nat) (cs : List Value) (hx : a.eval x = .slice ao m c) (hm : cs.length = m * 2)
    (hc : ∀ (j : Nat) (v : Value), cs[j]? = some v → v.oneCell' = true ∧ ∃ b o, ao = some ⟨b, o, none⟩ ∧ w.cell? ⟨b, o + j, none⟩ = some v) (hn : ao = none → c = 0) (hmax : m ≤ maxLen) (hbytes : m * bytes ≤ 140737488355328)
    (h : ∀ v' w', w'.ownsRow w.heap.size e 2 v' m cs → Below w.heap.size w w' → wpList P ops Q rest (a.put o.dst v') w') : wpList P ops Q (o :: rest) a w := by
  have hown : w.ownsRow w.heap.size e 2 (.slice none 0 0) 0 [] := ⟨by simp, Or.inl ⟨rfl, rfl⟩⟩
  cases ao with
  | none =>
    have hl : cs = [] := by
      match cs, hc with
      | [], _ => rfl
      | v :: r, hc =>
        obtain ⟨_, b, o, h1, _⟩ := hc 0 v rfl
        cases h1
    subst hl
    obtain rfl : m = 0 := by simp at hm; omega
    obtain rfl := hn rfl
    refine wpList_append_own_none hgd s x t ho w.heap.size e i 2 ht hi (.slice none 0 0) 0 [] hs hown hx ?_
    exact h (.slice none 0 0) w hown (Below.refl _ _)
  | some ad =>
    refine wpList_append_own w hgd s x t ho w.heap.size e i z 2 bytes ht hi hz hsize hby hzs (by decide) (.slice none 0 0) 0 [] hs hown ad m c cs hx hm ?_ ?_ (by omega) (by rw [Nat.zero_add]; exact hbytes) (Nat.le_refl _) ?_
    · intro j u hj
      obtain ⟨_, b, o, h1, hcell⟩ := hc j u hj
      cases h1
      rw [Addr.add_lit]
      exact hcell
    · intro u hu
      obtain ⟨j, hj⟩ := List.mem_iff_getElem?.1 hu
      exact (hc j u hj).1
    · intro v' w' h1 h2 _
      rw [Nat.zero_add, List.nil_append] at h1
      exact h v' w' h1 ((Below.refl w.heap.size w).grown h2 (Nat.le_refl _) (fun k hk => (hown.lt k hk).1))
theorem fcs_cells {w : World} {ao : Option Addr} {fs : List (Int × Int)} (h : Fd w ao fs) : ∀ (j : Nat) (v : Value), (fcs fs)[j]? = some v → v.oneCell' = true ∧ ∃ b o, ao = some ⟨b, o, none⟩ ∧ w.cell? ⟨b, o + j, none⟩ = some v := by
  intro j v hj
  have hl : (fcs fs).length = fs.length * 2 := prs_len _ _ _
  have hjl : j < fs.length * 2 := by have := (List.getElem?_eq_some_iff.1 hj).1; omega
  obtain ⟨f, hf⟩ : ∃ f, fs[j / 2]? = some f := ⟨fs[j / 2]'(by omega), List.getElem?_eq_getElem _⟩
  obtain ⟨b, o, h1, h2, h3⟩ := h _ _ hf
  obtain ⟨g1, g2⟩ := fcs_get hf
  rcases Nat.mod_two_eq_zero_or_one j with hm | hm
  · have e : j = j / 2 * 2 := by omega
    rw [e, g1] at hj
    cases hj
    exact ⟨rfl, b, o, h1, by rw [e]; exact h2⟩
  · have e : j = j / 2 * 2 + 1 := by omega
    rw [e, g2] at hj
    cases hj
    exact ⟨rfl, b, o, h1, by rw [e]; exact h3⟩
theorem dkArmed {w W : World} {p : Nat} {L : Lay} {D : Dk} {rest : List It} {c n : Nat} {v : Value} {l : List (Int × Int)} (hn : l.length = n) (h : Bag w W (.box c #[v] 22 :: .lst 29 2 v n (fcs l) :: dkl p L D rest)) :
    Bag w (W.setCell ⟨p, 5, none⟩ (.func (.func 39) #[] #[.pointer (some ⟨c, 0, none⟩)])) (dkl p { L with mt := some (c, v) } { D with fs := l } rest) := by
  subst hn
  have h1 := h.erase 7
  simp only [List.eraseIdx_cons_zero, List.eraseIdx_cons_succ, dkl] at h1
  have h2 := (Bag.grp_iff (gs := [.box c #[v] 22, .lst 29 2 v l.length (fcs l)])).2 h1
  have h3 := h2.perm (List.perm_middle (l₁ := [D.box L p, .lst 37 1 L.lv D.ls.length (L.bs.map slv), .rows 5 512 L.bs D.ls, .lst 85 2 L.pv D.ps.length (pcs D.ps L.qs), .rows 5 512 L.qs (D.ps.map Prod.snd)]) (l₂ := rest)).symm
  exact h3.put 0 rfl 5 (.func (.func 39) #[] #[.pointer (some ⟨c, 0, none⟩)])
def ArmR (w : World) (p : Nat) (D : Dk) (rest : List It) (l : List (Int × Int)) (e : Ending) (W' : World) : Prop := ∃ L', e = .returned (.int .i64 (D.armE l)) ∧ Bag w W' (dkl p L' (D.armD l) rest)
theorem info_ft : (Try.prog.info? 29).map (fun i => (i.zero, i.size, i.bytes)) = some (some (.agg #[.int .i64 0, .int .i64 0]), 2, 16) := by kernel_rfl
open Go.RowKit
set_option maxRecDepth 100000 in
set_option maxHeartbeats 4000000 in
theorem dkArm (w W : World) (p : Nat) (L : Lay) (D : Dk) (rest : List It) (ao : Option Addr) (l : List (Int × Int)) (n c : Nat) (hln : l.length = n) (hn : n ≤ 8796093022000) (hnc : n ≤ c) (hao : ao = none → c = 0)
   (hr : ∀ W' D', Bag w W' (dkl p L D' rest) → Fd W' ao l) (hB : Bag w W (dkl p L D rest)) :
   Calls Try.prog 12 #[.pointer (some ⟨p, 0, none⟩), .slice ao n c] W (ArmR w p D rest l) := by
  have HB := Lib.hid hB
  have HLN := Lib.hid hln
  have HR := Lib.hid hr
  have HAO := Lib.hid hao
  clear hB hr hln hao
  go_enter Try.func12, Try.ntmps12
  go_wp2_with fail
  go_loopw [12] (fun t wr => ∃ j : Nat, j ≤ n ∧ t = .int .i64 j ∧ (List.range j).all (armGood l) = true ∧ Bag w wr (dkl p L D rest)) (fun t _ => n - (intOf t).toNat)
  case atStart => exact ⟨0, Nat.zero_le _, rfl, rfl, HB.out⟩
  case round =>
    obtain ⟨j, hj, rfl, hg, hB⟩ := hrel
    clear HB
    have HB := Lib.hid hB
    have HG := Lib.hid hg
    clear hB hg
    by_cases hlt : j < n
    · obtain ⟨⟨a, k⟩, hf⟩ : ∃ f, l[j]? = some f := ⟨l[j]'(by rw [HLN.out]; exact hlt), List.getElem?_eq_getElem _⟩
      obtain ⟨b, o, rfl, c1, c2⟩ := HR.out wr D HB.out j (a, k) hf
      simp only at c1 c2
      have hb0 : b < wr.heap.size := World.block_lt_of_cell? wr _ c1
      have HF := Lib.hid hf
      clear hf
      have HU0 := Lib.hid (HB.out.call (fresh1 wr (.cells #[.int .i64 a, .int .i64 k] 29 (0, 0))))
      by_cases ha : a < 1
      · have HX := Lib.hid (armGood_lo HF.out ha)
        go_wp2_with fail
        go_ret
        refine ⟨L, ?_, ?_⟩
        · rw [armE_no HLN.out hlt HX.out] <;> rfl
        · rw [armD_no HLN.out hlt HX.out]; exact HU0.out
      · by_cases hk : k = 1 ∨ k = 2
        · have hk' : k = 1 ∨ (k != 1) = true ∧ k = 2 := by rcases hk with h | h; exact Or.inl h; exact Or.inr ⟨by rw [bne_iff_ne]; omega, h⟩
          have HK := Lib.hid hk
          clear hk
          rcases hk' with rfl | ⟨hk1, rfl⟩
          · go_wp2_with fail
            obtain ⟨x1, _⟩ := cell_new2 wr (.int .i64 a) (.int .i64 1) 29 (0, 0)
            have h0 := HU0.out
            have hlt6 : wr.heap.size < (wr.alloc (.cells #[.int .i64 a, .int .i64 1] 29 (0, 0))).heap.size := World.block_lt_of_cell? _ _ x1
            generalize hU : wr.alloc (.cells #[.int .i64 a, .int .i64 1] 29 (0, 0)) = U at h0 x1 hlt6 ⊢
            generalize hbx : wr.heap.size = bx at x1 hlt6 ⊢
            clear HU0
            have HU0 := Lib.hid h0
            have HX6 := Lib.hid x1
            clear h0 x1 hU hbx hb0 c1 c2 HB
            go_loopw [34] (fun t wj => ∃ q : Nat, q ≤ j ∧ t = .int .i64 q ∧ (∀ i f, i < q → l[i]? = some f → f.1 ≠ a) ∧ Below U.heap.size U wj) (fun t _ => j - (intOf t).toNat)
            case atStart => exact ⟨0, Nat.zero_le _, rfl, fun i f hi => absurd hi (Nat.not_lt_zero i), Below.refl _ _⟩
            case round =>
              obtain ⟨q, hq, rfl, hd, hb⟩ := hrel
              have HDs := Lib.hid hd
              have HBl := Lib.hid hb
              have HUB := Lib.hid (HU0.out.call hb)
              have hc6 : wr.cell? ⟨bx, 0, none⟩ = some (.int .i64 a) := (hb.cell (p := ⟨bx, 0, none⟩) hlt6).trans HX6.out
              have hbx : bx < wr.heap.size := Nat.lt_of_lt_of_le hlt6 hb.size
              clear hd hb
              by_cases hqj : q < j
              · obtain ⟨⟨a2, k2⟩, hf2⟩ : ∃ f, l[q]? = some f := ⟨l[q]'(by rw [HLN.out]; omega), List.getElem?_eq_getElem _⟩
                obtain ⟨b2, o2, hbo, d1, d2⟩ := HR.out wr D HUB.out q (a2, k2) hf2
                simp only [Option.some.injEq, Addr.mk.injEq, and_true] at hbo
                obtain ⟨rfl, rfl⟩ := hbo
                simp only at d1 d2
                have hb2 : b < wr.heap.size := World.block_lt_of_cell? wr _ d1
                have HF2 := Lib.hid hf2
                have HB8 := Lib.hid (HBl.out.alloc HBl.out.size (.cells #[.int .i64 a2, .int .i64 k2] 29 (0, 0)))
                clear hf2
                by_cases haa : a2 = a
                · subst haa
                  have HX := Lib.hid (armGood_twice HF.out HF2.out hqj)
                  go_wp2_with fail
                  go_ret
                  refine ⟨L, ?_, ?_⟩
                  · rw [armE_no HLN.out hlt HX.out] <;> rfl
                  · rw [armD_no HLN.out hlt HX.out]; exact HU0.out.call HB8.out
                · have hne : (a2 == a) = false := by rw [beq_eq_false_iff_ne]; exact haa
                  have HNE := Lib.hid haa
                  clear haa
                  go_wp2_with fail
                  go_roundw
                  case rel =>
                    refine ⟨q + 1, by omega, by go_num, ?_, HB8.out⟩
                    intro i f hi hif
                    by_cases hiq : i = q
                    · subst hiq
                      rw [HF2.out] at hif
                      cases hif
                      exact HNE.out
                    · exact HDs.out i f (by omega) hif
                  case measure => simp [intOf]; omega
              · obtain rfl : q = j := by omega
                go_wp2_with fail
                go_roundw
                case rel => exact ⟨q + 1, by omega, by go_num, armAll_succ HG.out (armGood_yes HF.out (by omega) (by decide) HDs.out), HUB.out⟩
                case measure => simp [intOf]; omega
          · go_wp2_with fail
            obtain ⟨x1, _⟩ := cell_new2 wr (.int .i64 a) (.int .i64 2) 29 (0, 0)
            have h0 := HU0.out
            have hlt6 : wr.heap.size < (wr.alloc (.cells #[.int .i64 a, .int .i64 2] 29 (0, 0))).heap.size := World.block_lt_of_cell? _ _ x1
            generalize hU : wr.alloc (.cells #[.int .i64 a, .int .i64 2] 29 (0, 0)) = U at h0 x1 hlt6 ⊢
            generalize hbx : wr.heap.size = bx at x1 hlt6 ⊢
            clear HU0
            have HU0 := Lib.hid h0
            have HX6 := Lib.hid x1
            clear h0 x1 hU hbx hb0 c1 c2 HB
            go_loopw [34] (fun t wj => ∃ q : Nat, q ≤ j ∧ t = .int .i64 q ∧ (∀ i f, i < q → l[i]? = some f → f.1 ≠ a) ∧ Below U.heap.size U wj) (fun t _ => j - (intOf t).toNat)
            case atStart => exact ⟨0, Nat.zero_le _, rfl, fun i f hi => absurd hi (Nat.not_lt_zero i), Below.refl _ _⟩
            case round =>
              obtain ⟨q, hq, rfl, hd, hb⟩ := hrel
              have HDs := Lib.hid hd
              have HBl := Lib.hid hb
              have HUB := Lib.hid (HU0.out.call hb)
              have hc6 : wr.cell? ⟨bx, 0, none⟩ = some (.int .i64 a) := (hb.cell (p := ⟨bx, 0, none⟩) hlt6).trans HX6.out
              have hbx : bx < wr.heap.size := Nat.lt_of_lt_of_le hlt6 hb.size
              clear hd hb
              by_cases hqj : q < j
              · obtain ⟨⟨a2, k2⟩, hf2⟩ : ∃ f, l[q]? = some f := ⟨l[q]'(by rw [HLN.out]; omega), List.getElem?_eq_getElem _⟩
                obtain ⟨b2, o2, hbo, d1, d2⟩ := HR.out wr D HUB.out q (a2, k2) hf2
                simp only [Option.some.injEq, Addr.mk.injEq, and_true] at hbo
                obtain ⟨rfl, rfl⟩ := hbo
                simp only at d1 d2
                have hb2 : b < wr.heap.size := World.block_lt_of_cell? wr _ d1
                have HF2 := Lib.hid hf2
                have HB8 := Lib.hid (HBl.out.alloc HBl.out.size (.cells #[.int .i64 a2, .int .i64 k2] 29 (0, 0)))
                clear hf2
                by_cases haa : a2 = a
                · subst haa
                  have HX := Lib.hid (armGood_twice HF.out HF2.out hqj)
                  go_wp2_with fail
                  go_ret
                  refine ⟨L, ?_, ?_⟩
                  · rw [armE_no HLN.out hlt HX.out] <;> rfl
                  · rw [armD_no HLN.out hlt HX.out]; exact HU0.out.call HB8.out
                · have hne : (a2 == a) = false := by rw [beq_eq_false_iff_ne]; exact haa
                  have HNE := Lib.hid haa
                  clear haa
                  go_wp2_with fail
                  go_roundw
                  case rel =>
                    refine ⟨q + 1, by omega, by go_num, ?_, HB8.out⟩
                    intro i f hi hif
                    by_cases hiq : i = q
                    · subst hiq
                      rw [HF2.out] at hif
                      cases hif
                      exact HNE.out
                    · exact HDs.out i f (by omega) hif
                  case measure => simp [intOf]; omega
              · obtain rfl : q = j := by omega
                go_wp2_with fail
                go_roundw
                case rel => exact ⟨q + 1, by omega, by go_num, armAll_succ HG.out (armGood_yes HF.out (by omega) (by decide) HDs.out), HUB.out⟩
                case measure => simp [intOf]; omega
        · have hk1 : (k != 1) = true := by rw [bne_iff_ne]; omega
          have hk2 : (k != 2) = true := by rw [bne_iff_ne]; omega
          have HX := Lib.hid (armGood_kind HF.out (by omega) (by omega))
          clear hk
          go_wp2_with fail
          go_ret
          refine ⟨L, ?_, ?_⟩
          · rw [armE_no HLN.out hlt HX.out] <;> rfl
          · rw [armD_no HLN.out hlt HX.out]; exact HU0.out
    · have hjn : n = j := by omega
      subst hjn
      have hok : Dk.armOk l = true := by rw [armOk_def, HLN.out]; exact HG.out
      obtain ⟨q0, q1, q2, q3, q4, q5, qf⟩ := dkCells HB.out
      have hpl : p < wr.heap.size := World.block_lt_of_cell? wr _ q2
      cases hoff : D.off with
      | true =>
        have HE := Lib.hid (show D.armE l = 104 by unfold Dk.armE; rw [hok, hoff]; rfl)
        have HD := Lib.hid (show D.armD l = D by unfold Dk.armD; rw [HE.out]; rfl)
        rw [hoff] at q2
        clear hoff hok
        go_wp2_with fail
        go_ret
        refine ⟨L, ?_, ?_⟩
        · rw [HE.out] <;> rfl
        · rw [HD.out]; exact HB.out
      | false =>
        have HE := Lib.hid (show D.armE l = 0 by unfold Dk.armE; rw [hok, hoff]; rfl)
        have HD := Lib.hid (show D.armD l = { D with fs := l, done := 0 } by unfold Dk.armD; rw [HE.out]; rfl)
        rw [hoff] at q2
        clear hoff hok q0 q1 q3 q4 q5
        obtain ⟨is, his, hsz0, hsz1, hsz2⟩ := info_parts info_ft
        go_wp2_with (at_builtin; refine wpList_append_pairs rfl _ _ 22 rfl 29 is _ 16 Try.underlying22 his hsz0 hsz1 hsz2 rfl rfl ao n c (fcs l) rfl ?hm ?hc ?hn ?hmax ?hby ?_)
        case hm => rw [show (fcs l).length = l.length * 2 from prs_len _ _ _, HLN.out]
        case hc => exact fcs_cells (HR.out _ D HB.out)
        case hn => exact HAO.out
        case hmax => unfold maxLen; omega
        case hby => omega
        intro v w2 hown hb
        obtain ⟨av, cv, rfl, _, _⟩ := owns2 (It.lst_of hown)
        have h1 := (HB.out.owns hb hown).alloc #[.slice av n cv] 22
        have h2 := dkArmed HLN.out h1
        have HB3 := Lib.hid (dkPut3 h2 0)
        obtain ⟨q0, q1, q2, q3, q4, q5, qf⟩ := dkCells (HB.out.call hb)
        have hpl2 : p < w2.heap.size := World.block_lt_of_cell? w2 _ q2
        clear h1 h2 hown hb HB q0 q1 q2 q4
        go_wp2_with fail
        go_ret
        refine ⟨{ L with mt := some (w2.heap.size, .slice av n cv) }, ?_, ?_⟩
        · rw [HE.out] <;> rfl
        · have h3 := HB3.out
          rw [World.setCell_alloc_past _ p 5 _ hpl2, World.setCell_alloc_past _ p 3 _ (by simpa using hpl2)] at h3
          rw [HD.out]; exact h3
end Go.Proofs.Ytkndlpihhfjcpaa
