/- Right, of the program and of the document. -/
import Derived.Test.YtinfhlepjmollaaDoorSecRefGet
namespace Go.Proofs.YtinfhlepjmollaaDoor
open Go.RowKit
/-- What Right answers. -/
def rightO (b tag : List (BitVec 8)) (ep sq pl : Int) : Bool := (getS b).isSome && ((getV b).tag == tag && ((getV b).epoch == ep && ((getV b).seq == sq && (getV b).place == pl)))
def rightB (b tag : List (BitVec 8)) (ep sq pl : Int) : List (BitVec 8) := if rightO b tag ep sq pl then (getV b).body else []
theorem right_no {b tag : List (BitVec 8)} {ep sq pl : Int} (h : rightO b tag ep sq pl = false) : rightB b tag ep sq pl = [] := by simp [rightB, h]
theorem right_yes {b tag : List (BitVec 8)} {ep sq pl : Int} (h : rightO b tag ep sq pl = true) : rightB b tag ep sq pl = (getV b).body := by simp [rightB, h]
theorem getE_cases (b : List (BitVec 8)) : ((getS b).isSome = true ∧ getE b = 0) ∨ ((getS b).isSome = false ∧ getE b = 117) := by
  unfold getE
  cases (getS b).isSome
  · exact Or.inr ⟨rfl, by simp⟩
  · exact Or.inl ⟨rfl, by simp⟩
theorem getV_tag {b : List (BitVec 8)} (h : (getS b).isSome = true) : (getV b).tag = b.take 4 := by
  unfold getS at h
  split at h
  · rename_i h1
    unfold getV getS
    rw [if_pos h1]
    rfl
  · cases h
set_option maxHeartbeats 4000000 in
theorem secRight (b : List (BitVec 8)) (ao : Option Addr) (n cap : Nat) (tag : List (BitVec 8)) (ep sq pl : Int) (w : World) (hn : b.length = n) (hcap : n ≤ cap) (hr : Rd w ao b) (ht : Tab w) (hT : 0 < w.heap.size) :
   Calls Tryd.prog 19 #[.slice ao n cap, .string (str tag), .int .i64 ep, .int .i64 sq, .int .i64 pl] w fun e w' => ∃ ar cr, e = .returned (.tuple #[.slice ar (rightB b tag ep sq pl).length cr, .bool (rightO b tag ep sq pl)]) ∧ Mine w' w.heap.size 5 ar cr (rightB b tag ep sq pl) ∧ Below w.heap.size w w' := by
  have HG := fun (W : World) (hb : Below w.heap.size w W) => secGet b ao n cap W hn hcap (hr.on hb) (ht.below hb hT) (Nat.lt_of_lt_of_le hT hb.size)
  obtain ⟨V, hV⟩ : ∃ V, getV b = V := ⟨_, rfl⟩
  obtain ⟨vt, ve, vs, vp, vb⟩ := V
  rw [hV] at HG
  unfold Sec.val at HG
  simp only at HG
  have HV := Lib.hid hV
  clear hV
  go_enter Tryd.func19, Tryd.ntmps19
  go_wp2_with fail
  refine (HG _ (Below.refl _ _)).mono ?_
  rintro e W0 ⟨ar, cr, rfl, Mx, hb⟩
  have HB := Lib.hid ((Bag.start w).mine hb Mx)
  clear Mx hb
  rcases getE_cases b with ⟨he1, he2⟩ | ⟨he1, he2⟩
  · rw [he2]
    have HE := Lib.hid he1
    clear he1 he2 HG
    by_cases d1 : vt = tag
    · subst d1
      by_cases d2 : ve = ep
      · subst d2
        by_cases d3 : vs = sq
        · subst d3
          by_cases d4 : vp = pl
          · subst d4
            have hz : rightO b vt ve vs vp = true := by simp [rightO, HE.out, HV.out]
            have HR0 := Lib.hid hz
            have HR1 := Lib.hid (right_yes hz)
            clear hz
            go_wp2_with fail
            generalize hU : W0.alloc (.cells #[.string (str vt), .int .i64 ve, .int .i64 vs, .int .i64 vp, .slice ar vb.length cr] 24 (0, 0)) = U1
            have h0 := HB.out.alloc #[.string (str vt), .int .i64 ve, .int .i64 vs, .int .i64 vp, .slice ar vb.length cr] 24
            rw [hU] at h0
            clear HB
            have HB := Lib.hid h0
            clear h0
            clear hU
            go_ret2
            rw [HR0.out, HR1.out, HV.out]
            exact ⟨ar, cr, rfl, HB.out.mineMine 1 rfl, HB.out.below⟩
          · have hz : rightO b vt ve vs pl = false := by simp [rightO, HE.out, HV.out, d4]
            have HR0 := Lib.hid hz
            have HR1 := Lib.hid (right_no hz)
            have d4x : (vp != pl) = true := by simp [d4]
            clear hz d4
            go_wp2_with fail
            generalize hU : W0.alloc (.cells #[.string (str vt), .int .i64 ve, .int .i64 vs, .int .i64 vp, .slice ar vb.length cr] 24 (0, 0)) = U1
            have h0 := HB.out.alloc #[.string (str vt), .int .i64 ve, .int .i64 vs, .int .i64 vp, .slice ar vb.length cr] 24
            rw [hU] at h0
            clear HB
            have HB := Lib.hid h0
            clear h0
            clear hU
            go_ret2
            rw [HR0.out, HR1.out]
            exact ⟨none, 0, rfl, Or.inl ⟨rfl, rfl, rfl⟩, HB.out.below⟩
        · have hz : rightO b vt ve sq pl = false := by simp [rightO, HE.out, HV.out, d3]
          have HR0 := Lib.hid hz
          have HR1 := Lib.hid (right_no hz)
          have d3x : (vs != sq) = true := by simp [d3]
          clear hz d3
          go_wp2_with fail
          generalize hU : W0.alloc (.cells #[.string (str vt), .int .i64 ve, .int .i64 vs, .int .i64 vp, .slice ar vb.length cr] 24 (0, 0)) = U1
          have h0 := HB.out.alloc #[.string (str vt), .int .i64 ve, .int .i64 vs, .int .i64 vp, .slice ar vb.length cr] 24
          rw [hU] at h0
          clear HB
          have HB := Lib.hid h0
          clear h0
          clear hU
          go_ret2
          rw [HR0.out, HR1.out]
          exact ⟨none, 0, rfl, Or.inl ⟨rfl, rfl, rfl⟩, HB.out.below⟩
      · have hz : rightO b vt ep sq pl = false := by simp [rightO, HE.out, HV.out, d2]
        have HR0 := Lib.hid hz
        have HR1 := Lib.hid (right_no hz)
        have d2x : (ve != ep) = true := by simp [d2]
        clear hz d2
        go_wp2_with fail
        generalize hU : W0.alloc (.cells #[.string (str vt), .int .i64 ve, .int .i64 vs, .int .i64 vp, .slice ar vb.length cr] 24 (0, 0)) = U1
        have h0 := HB.out.alloc #[.string (str vt), .int .i64 ve, .int .i64 vs, .int .i64 vp, .slice ar vb.length cr] 24
        rw [hU] at h0
        clear HB
        have HB := Lib.hid h0
        clear h0
        clear hU
        go_ret2
        rw [HR0.out, HR1.out]
        exact ⟨none, 0, rfl, Or.inl ⟨rfl, rfl, rfl⟩, HB.out.below⟩
    · have hz : rightO b tag ep sq pl = false := by simp [rightO, HE.out, HV.out, d1]
      have HR0 := Lib.hid hz
      have HR1 := Lib.hid (right_no hz)
      have d1x : (vt == tag) = false := by rw [beq_eq_false_iff_ne]; exact d1
      clear hz d1
      go_wp2_with fail
      generalize hU : W0.alloc (.cells #[.string (str vt), .int .i64 ve, .int .i64 vs, .int .i64 vp, .slice ar vb.length cr] 24 (0, 0)) = U1
      have h0 := HB.out.alloc #[.string (str vt), .int .i64 ve, .int .i64 vs, .int .i64 vp, .slice ar vb.length cr] 24
      rw [hU] at h0
      clear HB
      have HB := Lib.hid h0
      clear h0
      clear hU
      go_ret2
      rw [HR0.out, HR1.out]
      exact ⟨none, 0, rfl, Or.inl ⟨rfl, rfl, rfl⟩, HB.out.below⟩
  · rw [he2]
    have hz : rightO b tag ep sq pl = false := by simp [rightO, he1]
    have HR0 := Lib.hid hz
    have HR1 := Lib.hid (right_no hz)
    clear hz he1 he2 HG
    go_wp2_with fail
    generalize hU : W0.alloc (.cells #[.string (str vt), .int .i64 ve, .int .i64 vs, .int .i64 vp, .slice ar vb.length cr] 24 (0, 0)) = U1
    have h0 := HB.out.alloc #[.string (str vt), .int .i64 ve, .int .i64 vs, .int .i64 vp, .slice ar vb.length cr] 24
    rw [hU] at h0
    clear HB
    have HB := Lib.hid h0
    clear h0
    clear hU
    go_ret2
    rw [HR0.out, HR1.out]
    exact ⟨none, 0, rfl, Or.inl ⟨rfl, rfl, rfl⟩, HB.out.below⟩
set_option maxHeartbeats 4000000 in
theorem refRight (b : List (BitVec 8)) (ao : Option Addr) (n cap : Nat) (tag : List (BitVec 8)) (ep sq pl : Int) (w : World) (hn : b.length = n) (hcap : n ≤ cap) (hr : Rd w ao b) :
   Calls Tryd.prog 20 #[.slice ao n cap, .string (str tag), .int .i64 ep, .int .i64 sq, .int .i64 pl] w fun e w' => ∃ ar cr, e = .returned (.tuple #[.slice ar (rightB b tag ep sq pl).length cr, .bool (rightO b tag ep sq pl)]) ∧ Mine w' w.heap.size 5 ar cr (rightB b tag ep sq pl) ∧ Below w.heap.size w w' := by
  have HG := fun (W : World) (hb : Below w.heap.size w W) => refGet b ao n cap W hn hcap (hr.on hb)
  obtain ⟨V, hV⟩ : ∃ V, getV b = V := ⟨_, rfl⟩
  obtain ⟨vt, ve, vs, vp, vb⟩ := V
  rw [hV] at HG
  unfold Sec.val at HG
  simp only at HG
  have HV := Lib.hid hV
  by_cases h512 : n = 512
  · subst h512
    obtain ⟨blk, off, rfl, hcell⟩ := hr.at (by omega)
    obtain ⟨t4, ht4⟩ : ∃ t4, b.take 4 = t4 := ⟨_, rfl⟩
    have hl4 : t4.length = 4 := by rw [← ht4]; simp; omega
    have hr4 := hr.take 4
    rw [ht4] at hr4
    have hcv := cvRun w (some ⟨blk, off, none⟩) t4 4 cap hl4 hr4
    have hc4 : (4 : Int) ≤ (cap : Int) := by omega
    have HT4 := Lib.hid ht4
    clear hcell hr hr4 ht4 hV hl4
    by_cases htt : t4 = tag
    · have htx : (t4 == tag) = true := by rw [beq_iff_eq]; exact htt
      clear htt
      go_enter Tryd.func20, Tryd.ntmps20
      go_wp2_with fail
      refine (HG _ (Below.refl _ _)).mono ?_
      rintro e W0 ⟨ar, cr, rfl, Mx, hb⟩
      have HB := Lib.hid ((Bag.start w).mine hb Mx)
      clear Mx hb
      rcases getE_cases b with ⟨he1, he2⟩ | ⟨he1, he2⟩
      · rw [he2]
        have HE := Lib.hid he1
        clear he1 he2 HG
        by_cases d1 : vt = tag
        · subst d1
          by_cases d2 : ve = ep
          · subst d2
            by_cases d3 : vs = sq
            · subst d3
              by_cases d4 : vp = pl
              · subst d4
                have hz : rightO b vt ve vs vp = true := by simp [rightO, HE.out, HV.out]
                have HR0 := Lib.hid hz
                have HR1 := Lib.hid (right_yes hz)
                clear hz
                go_wp2_with fail
                generalize hU : W0.alloc (.cells #[.string (str vt), .int .i64 ve, .int .i64 vs, .int .i64 vp, .slice ar vb.length cr] 24 (0, 0)) = U1
                have h0 := HB.out.alloc #[.string (str vt), .int .i64 ve, .int .i64 vs, .int .i64 vp, .slice ar vb.length cr] 24
                rw [hU] at h0
                clear HB
                have HB := Lib.hid h0
                clear h0
                clear hU
                go_ret2
                rw [HR0.out, HR1.out, HV.out]
                exact ⟨ar, cr, rfl, HB.out.mineMine 1 rfl, HB.out.below⟩
              · have hz : rightO b vt ve vs pl = false := by simp [rightO, HE.out, HV.out, d4]
                have HR0 := Lib.hid hz
                have HR1 := Lib.hid (right_no hz)
                have d4x : (vp != pl) = true := by simp [d4]
                clear hz d4
                go_wp2_with fail
                generalize hU : W0.alloc (.cells #[.string (str vt), .int .i64 ve, .int .i64 vs, .int .i64 vp, .slice ar vb.length cr] 24 (0, 0)) = U1
                have h0 := HB.out.alloc #[.string (str vt), .int .i64 ve, .int .i64 vs, .int .i64 vp, .slice ar vb.length cr] 24
                rw [hU] at h0
                clear HB
                have HB := Lib.hid h0
                clear h0
                clear hU
                go_ret2
                rw [HR0.out, HR1.out]
                exact ⟨none, 0, rfl, Or.inl ⟨rfl, rfl, rfl⟩, HB.out.below⟩
            · have hz : rightO b vt ve sq pl = false := by simp [rightO, HE.out, HV.out, d3]
              have HR0 := Lib.hid hz
              have HR1 := Lib.hid (right_no hz)
              have d3x : (vs != sq) = true := by simp [d3]
              clear hz d3
              go_wp2_with fail
              generalize hU : W0.alloc (.cells #[.string (str vt), .int .i64 ve, .int .i64 vs, .int .i64 vp, .slice ar vb.length cr] 24 (0, 0)) = U1
              have h0 := HB.out.alloc #[.string (str vt), .int .i64 ve, .int .i64 vs, .int .i64 vp, .slice ar vb.length cr] 24
              rw [hU] at h0
              clear HB
              have HB := Lib.hid h0
              clear h0
              clear hU
              go_ret2
              rw [HR0.out, HR1.out]
              exact ⟨none, 0, rfl, Or.inl ⟨rfl, rfl, rfl⟩, HB.out.below⟩
          · have hz : rightO b vt ep sq pl = false := by simp [rightO, HE.out, HV.out, d2]
            have HR0 := Lib.hid hz
            have HR1 := Lib.hid (right_no hz)
            have d2x : (ve != ep) = true := by simp [d2]
            clear hz d2
            go_wp2_with fail
            generalize hU : W0.alloc (.cells #[.string (str vt), .int .i64 ve, .int .i64 vs, .int .i64 vp, .slice ar vb.length cr] 24 (0, 0)) = U1
            have h0 := HB.out.alloc #[.string (str vt), .int .i64 ve, .int .i64 vs, .int .i64 vp, .slice ar vb.length cr] 24
            rw [hU] at h0
            clear HB
            have HB := Lib.hid h0
            clear h0
            clear hU
            go_ret2
            rw [HR0.out, HR1.out]
            exact ⟨none, 0, rfl, Or.inl ⟨rfl, rfl, rfl⟩, HB.out.below⟩
        · have hz : rightO b tag ep sq pl = false := by simp [rightO, HE.out, HV.out, d1]
          have HR0 := Lib.hid hz
          have HR1 := Lib.hid (right_no hz)
          have d1x : (vt == tag) = false := by rw [beq_eq_false_iff_ne]; exact d1
          clear hz d1
          go_wp2_with fail
          generalize hU : W0.alloc (.cells #[.string (str vt), .int .i64 ve, .int .i64 vs, .int .i64 vp, .slice ar vb.length cr] 24 (0, 0)) = U1
          have h0 := HB.out.alloc #[.string (str vt), .int .i64 ve, .int .i64 vs, .int .i64 vp, .slice ar vb.length cr] 24
          rw [hU] at h0
          clear HB
          have HB := Lib.hid h0
          clear h0
          clear hU
          go_ret2
          rw [HR0.out, HR1.out]
          exact ⟨none, 0, rfl, Or.inl ⟨rfl, rfl, rfl⟩, HB.out.below⟩
      · rw [he2]
        have hz : rightO b tag ep sq pl = false := by simp [rightO, he1]
        have HR0 := Lib.hid hz
        have HR1 := Lib.hid (right_no hz)
        clear hz he1 he2 HG
        go_wp2_with fail
        generalize hU : W0.alloc (.cells #[.string (str vt), .int .i64 ve, .int .i64 vs, .int .i64 vp, .slice ar vb.length cr] 24 (0, 0)) = U1
        have h0 := HB.out.alloc #[.string (str vt), .int .i64 ve, .int .i64 vs, .int .i64 vp, .slice ar vb.length cr] 24
        rw [hU] at h0
        clear HB
        have HB := Lib.hid h0
        clear h0
        clear hU
        go_ret2
        rw [HR0.out, HR1.out]
        exact ⟨none, 0, rfl, Or.inl ⟨rfl, rfl, rfl⟩, HB.out.below⟩
    · have hz : rightO b tag ep sq pl = false := by
        cases hs : (getS b).isSome with
        | false => simp [rightO, hs]
        | true =>
          have := getV_tag hs
          rw [HT4.out] at this
          simp [rightO, this, htt]
      have HR0 := Lib.hid hz
      have HR1 := Lib.hid (right_no hz)
      have htx : (t4 == tag) = false := by rw [beq_eq_false_iff_ne]; exact htt
      clear hz htt HG
      go_enter Tryd.func20, Tryd.ntmps20
      go_wp2_with fail
      go_ret2
      rw [HR0.out, HR1.out]
      exact ⟨none, 0, rfl, Or.inl ⟨rfl, rfl, rfl⟩, Below.refl _ _⟩
  · have hz : rightO b tag ep sq pl = false := by simp [rightO, getS_len (show b.length ≠ 512 by omega)]
    have HR0 := Lib.hid hz
    have HR1 := Lib.hid (right_no hz)
    clear hz HG hr hV
    go_enter Tryd.func20, Tryd.ntmps20
    go_wp2_with fail
    go_ret2
    rw [HR0.out, HR1.out]
    exact ⟨none, 0, rfl, Or.inl ⟨rfl, rfl, rfl⟩, Below.refl _ _⟩
end Go.Proofs.YtinfhlepjmollaaDoor
