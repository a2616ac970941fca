/- The walk of SectorRights. -/
import Derived.Test.YtinfhlepjmollaaDoorSecGets
import Derived.Test.YtinfhlepjmollaaDoorSecMayL
import Derived.Deep.RegionHeld3
namespace Go.Proofs.YtinfhlepjmollaaDoor
open Go.RowKit
set_option maxRecDepth 100000 in
set_option maxHeartbeats 4000000 in
theorem lawSectorRights (b : List (BitVec 8)) (ao : Option Addr) (cap : Nat) (tag : List (BitVec 8)) (ep sq pl : Int) (w : World) (hlc : b.length ≤ cap) (hr : Rd w ao b) (ht : Tab w) (hT : 0 < w.heap.size) :
   Calls Tryd.prog 5 #[.slice ao b.length cap, .string (str tag), .int .i64 ep, .int .i64 sq, .int .i64 pl] w fun e w' => e = .returned (.bool true) ∧ Below w.heap.size w w' := by
  have HTB := Lib.hid (fun (w' : World) (hb : Below w.heap.size w w') => (⟨ht.below hb hT, Nat.lt_of_lt_of_le hT hb.size⟩ : _ ∧ _))
  have HRB := Lib.hid (fun (w' : World) (hb : Below w.heap.size w w') => hr.on hb)
  obtain ⟨V, hV⟩ : ∃ V, getV b = V := ⟨_, rfl⟩
  obtain ⟨vt, ve, vs, vp, vb⟩ := V
  obtain ⟨E, hE⟩ : ∃ E, getE b = E := ⟨_, rfl⟩
  have HVE := Lib.hid (⟨hV, hE⟩ : _ ∧ _)
  clear hV hE
  clear hr ht hT
  go_enter Tryd.func5, Tryd.ntmps5
  go_wp2_with fail
  have HB := Lib.hid (Bag.start w)
  refine (lawFirst _ (HTB.out _ (Below.refl _ _)).1 (HTB.out _ (Below.refl _ _)).2).mono ?_
  rintro e W1 ⟨rfl, hb⟩
  have h0 := HB.out.call hb
  clear HB
  have HB := Lib.hid h0
  clear h0
  clear hb
  by_cases hlen : 2000 < b.length
  · have hlx : (2000 : Int) < (b.length : Int) := by omega
    go_wp2_with fail
    go_ret
    exact ⟨rfl, HB.out.below⟩
  obtain ⟨ro, hro⟩ : ∃ r, rightO b tag ep sq pl = r := ⟨_, rfl⟩
  obtain ⟨rb, hrb⟩ : ∃ r, rightB b tag ep sq pl = r := ⟨_, rfl⟩
  have hrl : rb.length ≤ 281474976710656 := by
    have := getV_len b (by omega)
    rw [← hrb]; unfold rightB; split
    · exact this
    · simp
  have HRL := Lib.hid hrl
  have HRo := Lib.hid hro
  have HRb := Lib.hid hrb
  clear hro hrb hrl
  go_wp2_with fail
  refine (roomOf ao b b.length cap _ rfl (by omega) (HRB.out _ HB.out.below)).mono ?_
  rintro e W2 ⟨g, cx, rfl, hg, hcx, Ox, hb⟩
  have h0 := HB.out.own hb Ox hg
  clear HB
  have HB := Lib.hid h0
  clear h0
  clear Ox hg
  clear hb
  go_wp2_with fail
  have h := secRight b (some ⟨g, 0, none⟩) b.length (b.length + 3) tag ep sq pl W2 rfl (by omega) (HB.out.mineOwn 0 rfl).pre.rd (HTB.out _ HB.out.below).1 (HTB.out _ HB.out.below).2
  rw [HRo.out, HRb.out] at h
  refine h.mono ?_
  clear h
  rintro e W3 ⟨ar, cr, rfl, Mx, hb⟩
  have h0 := HB.out.mine hb Mx
  clear HB
  have HB := Lib.hid h0
  clear h0
  clear Mx hb
  go_wp2_with fail
  have h := refRight b ao b.length (cap) tag ep sq pl W3 rfl hlc (HRB.out _ HB.out.below)
  rw [HRo.out, HRb.out] at h
  refine h.mono ?_
  clear h
  rintro e W4 ⟨as_, cs, rfl, Mx, hb⟩
  have h0 := HB.out.mine hb Mx
  clear HB
  have HB := Lib.hid h0
  clear h0
  clear Mx hb
  go_wp2_with fail
  refine (sameTrue ar as_ rb rb.length rb.length cr cs _ rfl rfl HRL.out (HB.out.mineRd 1 rfl) (HB.out.mineRd 0 rfl)).mono ?_
  rintro e W5 ⟨rfl, hst⟩
  have hb := hst.below W4.heap.size
  clear hst
  have h0 := HB.out.call hb
  clear HB
  have HB := Lib.hid h0
  clear h0
  clear hb
  go_wp2_with fail
  refine (roomOf ao b b.length cap _ rfl (by omega) (HRB.out _ HB.out.below)).mono ?_
  rintro e W6 ⟨g2, cy, rfl, hg, hcy, Ox, hb⟩
  have h0 := HB.out.own hb Ox hg
  clear HB
  have HB := Lib.hid h0
  clear h0
  clear Ox hg
  clear hb
  have hl3 : (b ++ [161#8, 162#8, 163#8]).length = b.length + 3 := by rw [List.length_append]; rfl
  have HL3 := Lib.hid hl3
  clear hl3
  go_wp2_with fail
  refine (sameTrue (some ⟨g, 0, none⟩) (some ⟨g2, 0, none⟩) (b ++ [161#8, 162#8, 163#8]) (b.length + 3) (b.length + 3) cx cy _ HL3.out HL3.out (by omega) (HB.out.mineRd 3 rfl) (HB.out.mineRd 0 rfl)).mono ?_
  rintro e W7 ⟨rfl, hst⟩
  have hb := hst.below W6.heap.size
  clear hst
  have h0 := HB.out.call hb
  clear HB
  have HB := Lib.hid h0
  clear h0
  clear hb
  have hrr : (ro != ro) = false := by simp
  go_wp2_with fail
  clear hrr
  have h := refGet b ao b.length cap W7 rfl hlc (HRB.out _ HB.out.below)
  rw [HVE.out.1, HVE.out.2] at h
  unfold Sec.val at h
  refine h.mono ?_
  clear h
  rintro e W8 ⟨av, cv, rfl, Mx, hb⟩
  have h0 := HB.out.mine hb Mx
  clear HB
  have HB := Lib.hid h0
  clear h0
  clear Mx hb
  cases hg : getS b with
  | none =>
    obtain rfl : E = 117 := by rw [← HVE.out.2]; exact (getV_none hg).2
    clear hg
    go_wp2_with fail
    generalize hU : W8.alloc (.cells #[.string (str vt), .int .i64 ve, .int .i64 vs, .int .i64 vp, .slice av vb.length cv] 24 (0, 0)) = U9
    have h0 := HB.out.alloc #[.string (str vt), .int .i64 ve, .int .i64 vs, .int .i64 vp, .slice av vb.length cv] 24
    rw [hU] at h0
    clear HB
    have HB := Lib.hid h0
    clear h0
    clear hU
    go_ret
    exact ⟨rfl, HB.out.below⟩
  | some S =>
    obtain rfl : E = 0 := by rw [← HVE.out.2]; exact (getV_some hg).2
    obtain rfl : S = ⟨vt, ve, vs, vp, vb⟩ := (getV_some hg).1.symm.trans HVE.out.1
    obtain ⟨hm, hby⟩ := getS_spec hg
    have hbl := bytes_len hm
    rw [hby] at hbl
    have hro2 : rightO b vt ve vs vp = true := by rw [← hby, rightO_bytes hm]; simp
    have hrb2 : rightB b vt ve vs vp = vb := by rw [right_yes hro2, HVE.out.1]
    have HM := Lib.hid hm
    have HBy := Lib.hid hby
    have HR2 := Lib.hid (⟨hro2, hrb2⟩ : _ ∧ _)
    have hi1 : (b.length : Int) ≤ (b.length : Int) + 3 := by omega
    have hi0 : (0 : Int) ≤ (b.length : Int) := by omega
    have hi3 : (0 : Int) ≤ (b.length : Int) + 3 := by omega
    have hi4 : ((b.length : Int) + 3).toNat = b.length + 3 := by omega
    have hi2 : (b.length : Int) + 3 ≤ (cx : Int) := by omega
    have hvl : vb.length ≤ 281474976710656 := by
      have := (may_iff.1 hm).2.2.2.2
      simp only at this; omega
    have HVL := Lib.hid hvl
    have HBl := Lib.hid hbl
    clear hg hm hby hro2 hrb2 hvl hbl
    go_wp2_with fail
    generalize hU : W8.alloc (.cells #[.string (str vt), .int .i64 ve, .int .i64 vs, .int .i64 vp, .slice av vb.length cv] 24 (0, 0)) = U9
    have h0 := HB.out.alloc #[.string (str vt), .int .i64 ve, .int .i64 vs, .int .i64 vp, .slice av vb.length cv] 24
    rw [hU] at h0
    clear HB
    have HB := Lib.hid h0
    clear h0
    clear hU
    obtain ⟨qV_0, qV_1, qV_2, qV_3, qV_4, qV_f⟩ := cells5 (HB.out.box 0 rfl)
    have qV_l := HB.out.boxLt 0 rfl
    have hbd := HB.out.drew
    have HBd := Lib.hid hbd
    clear hbd
    have h := secRight b (some ⟨g, 0, none⟩) b.length (b.length + 3) vt ve vs vp U9.drew rfl (by omega) (HBd.out.mineOwn 5 rfl).pre.rd (HTB.out _ HBd.out.below).1 (HTB.out _ HBd.out.below).2
    rw [HR2.out.1, HR2.out.2] at h
    have HH := Lib.hid h
    clear h
    go_region_held3 (fun w' => w'.cell? ⟨W8.heap.size, 0, none⟩ = some (.string (str vt)) ∧ w'.cell? ⟨W8.heap.size, 1, none⟩ = some (.int .i64 ve) ∧ w'.cell? ⟨W8.heap.size, 2, none⟩ = some (.int .i64 vs) ∧ w'.cell? ⟨W8.heap.size, 3, none⟩ = some (.int .i64 vp)) (((try simp only [cell_drew]); (refine ⟨?_, ?_, ?_, ?_⟩ <;> with_reducible assumption))) ((go_at_call 19; refine HH.out.mono ?_; rintro e W10 ⟨aq, cq, he, Mx, hb⟩; obtain rfl := he; have z0 : W10.cell? ⟨W8.heap.size, 0, none⟩ = some (.string (str vt)) := (cells5 ((HBd.out.call hb).box 0 rfl)).1; have z1 : W10.cell? ⟨W8.heap.size, 1, none⟩ = some (.int .i64 ve) := (cells5 ((HBd.out.call hb).box 0 rfl)).2.1; have z2 : W10.cell? ⟨W8.heap.size, 2, none⟩ = some (.int .i64 vs) := (cells5 ((HBd.out.call hb).box 0 rfl)).2.2.1; have z3 : W10.cell? ⟨W8.heap.size, 3, none⟩ = some (.int .i64 vp) := (cells5 ((HBd.out.call hb).box 0 rfl)).2.2.2.1))
    clear HB
    have h0 := HBd.out.mine hb Mx
    clear HBd
    have HB := Lib.hid h0
    clear h0 Mx hb HH z0 z1 z2 z3
    clear qV_0 qV_1 qV_2 qV_3 qV_4 qV_f qV_l
    obtain ⟨qV_0, qV_1, qV_2, qV_3, qV_4, qV_f⟩ := cells5 (HB.out.box 1 rfl)
    have qV_l := HB.out.boxLt 1 rfl
    go_wp2_with fail
    clear qV_0 qV_1 qV_2 qV_3 qV_4 qV_f qV_l
    refine (sameTrue aq av vb vb.length vb.length cq cv _ rfl rfl HVL.out (HB.out.mineRd 0 rfl) (HB.out.mineRd 2 rfl)).mono ?_
    rintro e W11 ⟨rfl, hst⟩
    have hb := hst.below W10.heap.size
    clear hst
    have h0 := HB.out.call hb
    clear HB
    have HB := Lib.hid h0
    clear h0
    clear hb
    have hbl := HBl.out
    obtain ⟨k, hk⟩ : ∃ k, b.length = k + 1 := ⟨511, by omega⟩
    have hkI : (b.length : Int) - 1 = (k : Int) := by omega
    have hkb : k < b.length := by omega
    have hcell := (HB.out.mineOwn 6 rfl).pre.cell k hkb
    have hfree := (HB.out.mineOwn 6 rfl).free k
    obtain ⟨yy, hy⟩ : ∃ y, b.getD k 0#8 = y := ⟨_, rfl⟩
    rw [hy] at hcell
    have hxo : bits .xor .u8 (n8 yy) 1 = n8 (yy ^^^ 1#8) := by rw [show (1 : Int) = n8 1#8 from by unfold n8; rfl, xor8]
    have hk1 : (0 : Int) ≤ (b.length : Int) - 1 := by omega
    have hbad : getS (b.set k (yy ^^^ 1#8)) = none := by rw [← hy, ← HBy.out]; exact getS_turned HM.out k 1#8 (by omega) (by decide)
    have HBad := Lib.hid hbad
    have HY := Lib.hid hy
    have HK := Lib.hid hk
    clear hy hbad hk hbl
    go_wp2_with fail
    generalize hU : W11.setCell ⟨g, k, none⟩ (.int .u8 (n8 (yy ^^^ 1#8))) = U12
    have h0 := HB.out.byte 6 rfl k (yy ^^^ 1#8)
    rw [hU, List.set_append_left _ _ hkb] at h0
    simp only [List.set_cons_zero, List.set_cons_succ] at h0
    clear HB
    have HB := Lib.hid h0
    clear h0
    clear hU hcell hfree hkI hk1 hxo
    obtain ⟨qV_0, qV_1, qV_2, qV_3, qV_4, qV_f⟩ := cells5 (HB.out.box 1 rfl)
    have qV_l := HB.out.boxLt 1 rfl
    have hbd := HB.out.drew
    have HBd := Lib.hid hbd
    clear hbd
    have h := secRight (b.set k (yy ^^^ 1#8)) (some ⟨g, 0, none⟩) b.length (b.length + 3) vt ve vs vp U12.drew List.length_set (by omega) (HBd.out.mineOwn 6 rfl).pre.rd (HTB.out _ HBd.out.below).1 (HTB.out _ HBd.out.below).2
    have hro := rightO_none HBad.out vt ve vs vp
    rw [hro, right_no hro] at h
    clear hro
    have HH := Lib.hid h
    clear h
    go_region_held3 (fun w' => w'.cell? ⟨W8.heap.size, 0, none⟩ = some (.string (str vt)) ∧ w'.cell? ⟨W8.heap.size, 1, none⟩ = some (.int .i64 ve) ∧ w'.cell? ⟨W8.heap.size, 2, none⟩ = some (.int .i64 vs) ∧ w'.cell? ⟨W8.heap.size, 3, none⟩ = some (.int .i64 vp)) (((try simp only [cell_drew]); (refine ⟨?_, ?_, ?_, ?_⟩ <;> with_reducible assumption))) ((go_at_call 19; refine HH.out.mono ?_; rintro e W13 ⟨az, cz, he, Mx, hb⟩; obtain rfl := he; have z0 : W13.cell? ⟨W8.heap.size, 0, none⟩ = some (.string (str vt)) := (cells5 ((HBd.out.call hb).box 1 rfl)).1; have z1 : W13.cell? ⟨W8.heap.size, 1, none⟩ = some (.int .i64 ve) := (cells5 ((HBd.out.call hb).box 1 rfl)).2.1; have z2 : W13.cell? ⟨W8.heap.size, 2, none⟩ = some (.int .i64 vs) := (cells5 ((HBd.out.call hb).box 1 rfl)).2.2.1; have z3 : W13.cell? ⟨W8.heap.size, 3, none⟩ = some (.int .i64 vp) := (cells5 ((HBd.out.call hb).box 1 rfl)).2.2.2.1))
    clear HB
    have h0 := HBd.out.mine hb Mx
    clear HBd
    have HB := Lib.hid h0
    clear h0 Mx hb HH z0 z1 z2 z3
    clear qV_0 qV_1 qV_2 qV_3 qV_4 qV_f qV_l
    go_wp2_with fail
    go_ret
    exact ⟨rfl, HB.out.below⟩
end Go.Proofs.YtinfhlepjmollaaDoor
