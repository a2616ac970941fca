/- The device of which the document fixes all: how it stands, call by call. No program in sight. The law's first: a device of which the document fixes all. -/
import Derived.Test.YtkndlpihhfjcpaaDkMem
import Derived.Test.YtkndlpihhfjcpaaDlHelp
namespace Go.Proofs.Ytkndlpihhfjcpaa
namespace Dk
section
variable {Z : List (List (BitVec 8))} {A : List (BitVec 8)}
def d0 (Z : List (List (BitVec 8))) : Dk := ⟨Z, [], false, 0, 0, []⟩
def d1 (Z : List (List (BitVec 8))) (A : List (BitVec 8)) : Dk := ⟨Z, [(3, A)], false, 1, 0, []⟩
def d2 (Z : List (List (BitVec 8))) (A : List (BitVec 8)) : Dk := ⟨Z, [(3, A)], false, 2, 0, []⟩
def d3 (Z : List (List (BitVec 8))) (A : List (BitVec 8)) : Dk := ⟨Z, [(3, A)], false, 0, 0, [(1, 2)]⟩
def d4 (Z : List (List (BitVec 8))) (A : List (BitVec 8)) : Dk := ⟨Z, [(3, A)], false, 1, 0, [(1, 2)]⟩
def d5 (Z : List (List (BitVec 8))) (A : List (BitVec 8)) : Dk := ⟨Z.set 3 A, [], false, 2, 0, [(1, 2)]⟩
theorem inn3 {D : Dk} (h : D.ls.length = 32) : D.inn 3 = true := by unfold inn; rw [h]; rfl
theorem d0_op : (d0 Z).opE = 0 ∧ (d0 Z).opD = ⟨Z, [], false, 1, 0, []⟩ := by constructor <;> simp [opE, opD, d0, kindAt]
theorem d1_op : (d1 Z A).opE = 0 ∧ (d1 Z A).opD = d2 Z A := by constructor <;> simp [opE, opD, d1, d2, kindAt]
theorem d3_op : (d3 Z A).opE = 103 ∧ (d3 Z A).opD = d4 Z A := by constructor <;> simp [opE, opD, d3, d4, kindAt]
theorem d4_op : (d4 Z A).opE = 0 ∧ (d4 Z A).opD = ⟨Z, [(3, A)], false, 2, 0, [(1, 2)]⟩ := by constructor <;> simp [opE, opD, d4, kindAt]
theorem d0_write (hZ : Z.length = 32) (hA : A.length = 512) : (d0 Z).writeE 3 A = 0 ∧ (d0 Z).writeD 3 A = d1 Z A := by
  unfold writeE writeD
  rw [inn3 (D := d0 Z) hZ, hA, d0_op.1, d0_op.2]
  exact ⟨rfl, rfl⟩
theorem d1_read (hZ : Z.length = 32) : (d1 Z A).readE 3 = 0 ∧ (d1 Z A).readD 3 = d2 Z A ∧ (d1 Z A).readB 3 = A := by
  have e : (d1 Z A).readE 3 = 0 := by unfold readE; rw [inn3 (D := d1 Z A) hZ, d1_op.1]; rfl
  refine ⟨e, ?_, ?_⟩
  · unfold readD; rw [inn3 (D := d1 Z A) hZ, d1_op.2]; rfl
  · unfold readB; rw [e]; rfl
theorem d2_arm : (d2 Z A).armE [(1, 2)] = 0 ∧ (d2 Z A).armD [(1, 2)] = d3 Z A := by
  have h : armOk [(1, 2)] = true := by decide
  have e : (d2 Z A).armE [(1, 2)] = 0 := by unfold armE; rw [h]; rfl
  exact ⟨e, by unfold armD; rw [e]; rfl⟩
theorem d3_flush : (d3 Z A).flushD = d4 Z A := by
  unfold flushD
  rw [d3_op.1, d3_op.2]
  rfl
theorem d4_flush : (d4 Z A).flushD = d5 Z A := by
  unfold flushD
  rw [d4_op.1, d4_op.2]
  rfl
end
/-- A byte of the bytes that last. -/
theorem flat_get {ls : List (List (BitVec 8))} (h : ∀ l ∈ ls, l.length = 512) : ∀ {i j : Nat} {l : List (BitVec 8)} {x : BitVec 8}, ls[i]? = some l → l[j]? = some x → ls.flatten[i * 512 + j]? = some x := by
  induction ls with
  | nil => intro i j l x hi; simp at hi
  | cons a r ih =>
    intro i j l x hi hj
    have ha := h a List.mem_cons_self
    match i with
    | 0 =>
      simp only [List.getElem?_cons_zero, Option.some.injEq] at hi
      subst hi
      rw [List.flatten_cons, Nat.zero_mul, Nat.zero_add, List.getElem?_append_left (List.getElem?_eq_some_iff.1 hj).1]
      exact hj
    | i + 1 =>
      rw [List.flatten_cons, List.getElem?_append_right (by rw [ha]; omega), ha, show (i + 1) * 512 + j - 512 = i * 512 + j by omega]
      exact ih (fun l hl => h l (List.mem_cons_of_mem _ hl)) (by simpa using hi) hj
end Dk
open Go.RowKit
theorem n8_65 : (65 : Int) = n8 65#8 := by unfold n8; rfl
theorem fd_one {W : World} {b : Nat} {a k : Int} {t : TypeId} (h : W.heap[b]? = some (.cells #[.int .i64 a, .int .i64 k] t (0, 0))) : Fd W (some ⟨b, 0, none⟩) [(a, k)] := by
  intro j f hj
  match j with
  | 0 =>
    simp at hj; subst hj
    exact ⟨b, 0, rfl, cell_of_row W b 0 _ _ _ h, cell_of_row W b 1 _ _ _ h⟩
  | j + 1 => simp at hj
/-- A byte in a list of one's own. -/
theorem Bag.byteAt {w W : World} {l : List It} (h : Bag w W l) (i : Nat) {e : TypeId} {g cap : Nat} {m : List (BitVec 8)} (hi : l[i]? = some (.mine e (some ⟨g, 0, none⟩) cap m)) (j : Nat) {x : BitVec 8} (hx : m[j]? = some x) : W.cell? ⟨g, j, none⟩ = some (.int .u8 (n8 x)) := by
  have h1 := (h.mineOwn i hi).cell j (List.getElem?_eq_some_iff.1 hx).1
  rw [h1]
  simp [List.getD, hx]
set_option maxRecDepth 100000 in
set_option maxHeartbeats 4000000 in
theorem dlFirst (w : World) : Calls Try.prog 10 #[] w fun e w' => e = .returned (.bool true) ∧ Below w.heap.size w w' := by
  obtain ⟨Z, hZZ⟩ : ∃ Z, List.replicate 32 Dk.zs = Z := ⟨_, rfl⟩
  have hZ : Z.length = 32 := by rw [← hZZ]; exact List.length_replicate ..
  have hZ5 : ∀ l ∈ Z, l.length = 512 := by
    rw [← hZZ]
    intro l hl
    rw [(List.mem_replicate.1 hl).2]
    exact Dk.zs_len
  have hnew : Dk.new 32 = Dk.d0 Z := by rw [← hZZ]; rfl
  obtain ⟨A, hAA⟩ : ∃ A, fullB 65#8 = A := ⟨_, rfl⟩
  have hA : A.length = 512 := by rw [← hAA]; exact fullB_len _
  have hfull : ∀ W, Calls Try.prog 30 #[.int .u8 65] W fun e w' => ∃ g, e = .returned (slv g) ∧ W.heap.size ≤ g ∧ Own w' g 512 5 A ∧ Below W.heap.size W w' := by
    intro W
    have h := fullOf 65#8 W
    rw [← n8_65, hAA] at h
    exact h
  have w0 : Dk.Wf (Dk.d0 Z) 0 := ⟨by simp [Dk.d0, hZ], by simp [Dk.d0, hZ], hZ5, by simp [Dk.d0], by simp [Dk.d0], by simp [Dk.d0], by simp [Dk.d0], by simp [Dk.d0]⟩
  have w1 := w0.write 3 A
  rw [(Dk.d0_write hZ hA).2] at w1
  have w2 := w1.read 3
  rw [(Dk.d1_read hZ).2.1] at w2
  have w3 := w2.arm [(1, 2)]
  rw [Dk.d2_arm.2] at w3
  have w4 := w3.flush
  rw [Dk.d3_flush] at w4
  have w5 := w4.flush
  rw [Dk.d4_flush] at w5
  have z3 : Z[3]? = some Dk.zs := by rw [← hZZ, List.getElem?_replicate, if_pos (by omega)]
  have z4 : Z[4]? = some Dk.zs := by rw [← hZZ, List.getElem?_replicate, if_pos (by omega)]
  have zz : ∀ j, j < 512 → Dk.zs[j]? = some 0#8 := fun j hj => by unfold Dk.zs; rw [List.getElem?_replicate, if_pos hj]
  have hA0 : A[0]? = some 65#8 := by rw [← hAA]; exact fullB_get _ 0 (by omega)
  have hA9 : A[511]? = some 65#8 := by rw [← hAA]; exact fullB_get _ 511 (by omega)
  have b0 : Z.flatten[1536]? = some 0#8 := Dk.flat_get hZ5 (i := 3) (j := 0) z3 (zz 0 (by omega))
  have hS5 : ∀ l ∈ Z.set 3 A, l.length = 512 := Dk.set_all hZ5 hA
  have s3 : (Z.set 3 A)[3]? = some A := List.getElem?_set_self (by omega)
  have b1 : (Z.set 3 A).flatten[1536]? = some 65#8 := Dk.flat_get hS5 (i := 3) (j := 0) s3 hA0
  have b2 : (Z.set 3 A).flatten[2047]? = some 65#8 := Dk.flat_get hS5 (i := 3) (j := 511) s3 hA9
  have b3 : (Z.set 3 A).flatten[2048]? = some 0#8 := Dk.flat_get hS5 (i := 4) (j := 0) (by rw [List.getElem?_set_ne (by omega)]; exact z4) (zz 0 (by omega))
  have HZ := Lib.hid hZ
  have HA := Lib.hid hA
  have HF := Lib.hid hfull
  have HNew := Lib.hid hnew
  have W0 := Lib.hid w0
  have W1 := Lib.hid w1
  have W2 := Lib.hid w2
  have W3 := Lib.hid w3
  have W4 := Lib.hid w4
  have W5 := Lib.hid w5
  have B0 := Lib.hid b0
  have B1 := Lib.hid b1
  have B2 := Lib.hid b2
  have B3 := Lib.hid b3
  clear hZZ hZ hZ5 hnew hAA hA hfull w0 w1 w2 w3 w4 w5 z3 z4 zz hA0 hA9 b0 hS5 s3 b1 b2 b3
  go_enter Try.func10, Try.ntmps10
  go_wp2_with fail
  refine (dkNew 32 w (by omega) (by omega)).mono ?_
  rintro e U1 ⟨p, L0, rfl, hB⟩
  rw [disk_iff, HNew.out] at hB
  have HB := Lib.hid hB
  clear hB
  go_wp2_with fail
  refine (dkNewNo 31 U1 (by omega)).mono ?_
  rintro e w' ⟨rfl, rfl⟩
  go_wp2_with fail
  refine (HF.out U1).mono ?_
  rintro e U2 ⟨g1, rfl, hg, hO, hb⟩
  have h0 := dkl_in (HB.out.own hb hO hg)
  clear HB hg hO hb
  have HB := Lib.hid h0
  clear h0
  unfold slv
  go_wp2_with fail
  refine (dkWrite w U2 p L0 (Dk.d0 Z) _ 0 3 (some ⟨g1, 0, none⟩) A 512 512 HA.out W0.out (by omega) (by simp [Dk.d0]) (by omega) (by omega) (fun W' D' h => h.mineRd 6 rfl) HB.out).mono ?_
  rintro e U3 ⟨L1, he, hB⟩
  rw [(Dk.d0_write HZ.out HA.out).1] at he
  rw [(Dk.d0_write HZ.out HA.out).2] at hB
  subst he
  clear HB
  have HB := Lib.hid hB
  clear hB
  go_wp2_with fail
  refine (dkRead w U3 p L1 (Dk.d1 Z A) _ 1 3 W1.out (by omega) (by simp [Dk.d1]) (by omega) (by omega) HB.out).mono ?_
  rintro e U4 ⟨a2, c2, he, hB⟩
  rw [(Dk.d1_read HZ.out).1, (Dk.d1_read HZ.out).2.2, HA.out] at he
  rw [(Dk.d1_read HZ.out).2.1, (Dk.d1_read HZ.out).2.2] at hB
  subst he
  clear HB
  have HB := Lib.hid (dkl_in hB)
  clear hB
  go_wp2_with fail
  refine (HF.out U4).mono ?_
  rintro e U5 ⟨g3, rfl, hg, hO, hb⟩
  have h0 := dkl_in (HB.out.own hb hO hg)
  clear HB hg hO hb
  have HB := Lib.hid h0
  clear h0
  unfold slv
  go_wp2_with fail
  refine (sameTrue a2 (some ⟨g3, 0, none⟩) A 512 512 c2 512 U5 HA.out HA.out (by omega) (HB.out.mineRd 7 rfl) (HB.out.mineRd 6 rfl)).mono ?_
  rintro e U6 ⟨rfl, hst⟩
  have h0 := HB.out.still hst
  clear HB hst
  have HB := Lib.hid h0
  clear h0
  go_wp2_with fail
  refine (dkDurable w U6 p L1 (Dk.d2 Z A) _ 2 W2.out HB.out).mono ?_
  rintro e U7 ⟨a4, c4, he, hB⟩
  obtain ⟨g4, rfl⟩ := hB.mineSome 0 rfl (by rw [flat_len _ W2.out.sec]; simp only [Dk.d2]; rw [HZ.out]; omega)
  rw [show (Dk.d2 Z A).ls.length * 512 = 16384 by simp only [Dk.d2]; rw [HZ.out]] at he
  subst he
  clear HB
  have HB := Lib.hid (show Bag w U7 (dkl p L1 (Dk.d2 Z A) (.mine 5 (some ⟨g4, 0, none⟩) c4 Z.flatten :: _) ) from dkl_in hB)
  clear hB
  have x0 := HB.out.byteAt 6 rfl 1536 B0.out
  rw [← n8_zero] at x0
  go_wp2_with (go_at_call 13; refine (numOf _ _).mono ?_; rintro e w' ⟨rfl, rfl⟩)
  clear x0
  generalize hbx : U7.heap.size = bx
  have h0 := HB.out.alloc #[.int .i64 1, .int .i64 2] 29
  rw [hbx] at h0
  generalize hU : U7.alloc (.cells #[.int .i64 1, .int .i64 2] 29 (0, 0)) = U8 at h0 ⊢
  clear HB hbx hU
  have HB := Lib.hid (dkl_in h0)
  clear h0
  refine (dkArm w U8 p L1 (Dk.d2 Z A) _ (some ⟨bx, 0, none⟩) [(1, 2)] 1 1 rfl (by omega) (by omega) (fun h => by cases h) (fun W' D' h => fd_one (h.box 6 rfl)) HB.out).mono ?_
  rintro e U9 ⟨L2, he, hB⟩
  rw [Dk.d2_arm.1] at he
  rw [Dk.d2_arm.2] at hB
  subst he
  clear HB
  have HB := Lib.hid hB
  clear hB
  go_wp2_with fail
  refine (dkFlush w U9 p L2 (Dk.d3 Z A) _ 2 W3.out (by omega) (by simp [Dk.d3]) HB.out).mono ?_
  rintro e U10 ⟨L3, he, hB⟩
  rw [Dk.d3_op.1] at he
  rw [Dk.d3_flush] at hB
  subst he
  clear HB
  have HB := Lib.hid hB
  clear hB
  go_wp2_with fail
  refine (dkFlush w U10 p L3 (Dk.d4 Z A) _ 3 W4.out (by omega) (by simp [Dk.d4]) HB.out).mono ?_
  rintro e U11 ⟨L4, he, hB⟩
  rw [Dk.d4_op.1] at he
  rw [Dk.d4_flush] at hB
  subst he
  clear HB
  have HB := Lib.hid hB
  clear hB
  go_wp2_with fail
  refine (dkDone HB.out).mono ?_
  rintro e w' ⟨he, hw⟩
  obtain rfl := hw
  obtain rfl : e = .returned (.int .i64 2) := he
  go_wp2_with fail
  refine (dkDurable w U11 p L4 (Dk.d5 Z A) _ 4 W5.out HB.out).mono ?_
  rintro e U12 ⟨a5, c5, he, hB⟩
  obtain ⟨g5, rfl⟩ := hB.mineSome 0 rfl (by rw [flat_len _ W5.out.sec]; simp only [Dk.d5, List.length_set]; rw [HZ.out]; omega)
  rw [show (Dk.d5 Z A).ls.length * 512 = 16384 by simp only [Dk.d5, List.length_set]; rw [HZ.out]] at he
  subst he
  clear HB
  have HB := Lib.hid hB
  clear hB
  have y1 := HB.out.byteAt 0 rfl 1536 B1.out
  have y2 := HB.out.byteAt 0 rfl 2047 B2.out
  have y3 := HB.out.byteAt 0 rfl 2048 B3.out
  have y4 := HB.out.byteAt 8 rfl 1536 B0.out
  rw [← n8_zero] at y3 y4
  rw [← n8_65] at y1 y2
  go_wp2_with (go_at_call 13; refine (numOf _ _).mono ?_; rintro e w' ⟨rfl, rfl⟩)
  go_ret
  exact ⟨rfl, HB.out.below⟩
end Go.Proofs.Ytkndlpihhfjcpaa
