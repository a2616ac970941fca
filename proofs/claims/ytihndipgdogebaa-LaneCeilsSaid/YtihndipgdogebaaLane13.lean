/- The lines that every law of the lane asks first. -/
import Derived.Test.YtihndipgdogebaaLane12
namespace Go.Proofs.Ytihndipgdogebaa
open Go.RowKit
def ka : Ln := ⟨key1, 0, 1, 0, 0, 0, 0, 0⟩
theorem fits_a : ka.fits := by constructor <;> decide
def kb : Ln := ⟨key1, 0, 1, 0, 10, 0, 0, 0⟩
theorem fits_b : kb.fits := by constructor <;> decide
def kc : Ln := ⟨key1, 0, 1, 2, 10, 0, 0, 0⟩
theorem fits_c : kc.fits := by constructor <;> decide
def kd : Ln := ⟨key1, 0, 2, 2, 11, 10, 0, 0⟩
theorem fits_d : kd.fits := by constructor <;> decide
def kf : Ln := ⟨key1, 0, 3, 2, 10, 17, 5, 0⟩
theorem fits_f : kf.fits := by constructor <;> decide
def kh : Ln := ⟨key1, 0, 4, 2, 0, 0, 5, 0⟩
theorem fits_h : kh.fits := by constructor <;> decide
def kj : Ln := ⟨key1, 0, 3, 2, 10, 27, 5, 0⟩
theorem fits_j : kj.fits := by constructor <;> decide
theorem eq_a : newL key1 0 = ka := by rfl
theorem eq_b : reserveL ka 0 10 = kb := by rfl
theorem eq_c : proposeL kb = kc := by rfl
theorem eq_d : openedL kc 2 0 10 = kd := by rfl
theorem eq_f : answeredL kd 3 7 5 0 10 = kf := by rfl
theorem eq_h : againL kf = kh := by rfl
theorem eq_j : raiseL kf 17 10 = kj := by rfl
theorem eq_cg : nextG kb = 2 := by rfl
theorem eq_ce : nextE kb = 0 := by rfl
theorem eq_fa : atA kd 3 7 5 0 10 = 0 := by rfl
theorem eq_he : nextE kf = 0 := by rfl
theorem eq_hok : kh.ok = true := by rfl
theorem eq_up : upF 3 1 = 4 := by rfl
set_option maxHeartbeats 4000000 in
theorem laneKnown (w : World) : Calls Try.prog 13 #[] w fun e w' => e = .returned (.bool true) ∧ Below w.heap.size w w' := by
  go_enter Try.func13, Try.ntmps13
  go_wp2_with fail
  refine (laneKey _).mono ?_
  rintro e v1 ⟨g, he, hg, ho, hb1⟩
  obtain rfl := he
  go_wp2_with fail
  refine (laneNew key1 0 (some ⟨g, 0, none⟩) 32 _ ho.rd).mono ?_
  rintro e v2 ⟨aa, ca, he, hma, hb⟩
  rw [eq_a] at he hma
  obtain rfl : e = .returned (.agg #[.slice aa key1.length ca, .int .i64 0, .int .i64 1, .int .i64 0, .int .u64 0, .int .u64 0, .int .i64 0, .int .i64 0]) := he
  have hB2 := hb1.trans (hb.mono hb1.size)
  have hz2 := hB2.size
  clear hb hb1 ho hg
  go_wp2_with fail
  refine (laneReserve ka aa ca 0 10 (by decide) (by decide) _ fits_a ((hma.below (fresh1 _ _)).rd)).mono ?_
  rintro e v3 ⟨ab, cb, he, hmb, hb⟩
  rw [eq_b] at he hmb
  obtain rfl : e = .returned (.agg #[.slice ab key1.length cb, .int .i64 0, .int .i64 1, .int .i64 0, .int .u64 10, .int .u64 0, .int .i64 0, .int .i64 0]) := he
  have hB3 := (below_push (o := (.cells #[.slice aa key1.length ca, .int .i64 0, .int .i64 1, .int .i64 0, .int .u64 0, .int .u64 0, .int .i64 0, .int .i64 0] 27 (0, 0))) hB2).trans (hb.mono (by simp only [alloc_size]; omega))
  have hz3 : v2.heap.size + 1 ≤ v3.heap.size := by have h := hb.size; simp only [alloc_size] at h; exact h
  have xa : v3.heap[v2.heap.size]? = some (.cells #[.slice aa key1.length ca, .int .i64 0, .int .i64 1, .int .i64 0, .int .u64 0, .int .u64 0, .int .i64 0, .int .i64 0] 27 (0, 0)) := (hb.block (v2.heap.size) (by simp only [alloc_size]; omega)).trans (heap_alloc_new _ _)
  have Xa := Lib.hid xa
  clear xa
  have hra : Rd v3 aa key1 := (hma.below (fresh1 _ _)).rd.on hb
  clear hb
  go_wp2_with fail
  refine (lanePropose kb ab cb _ fits_b ((hmb.below (fresh1 _ _)).rd)).mono ?_
  rintro e v4 ⟨ac, cc, he, hmc, hb⟩
  rw [eq_c] at he hmc
  rw [eq_cg] at he
  rw [eq_ce] at he
  obtain rfl : e = .returned (.tuple #[.agg #[.slice ac key1.length cc, .int .i64 0, .int .i64 1, .int .i64 2, .int .u64 10, .int .u64 0, .int .i64 0, .int .i64 0], .int .i64 2, .int .i64 0]) := he
  have hB4 := (below_push (o := (.cells #[.slice ab key1.length cb, .int .i64 0, .int .i64 1, .int .i64 0, .int .u64 10, .int .u64 0, .int .i64 0, .int .i64 0] 27 (0, 0))) hB3).trans (hb.mono (by simp only [alloc_size]; omega))
  have hz4 : v3.heap.size + 1 ≤ v4.heap.size := by have h := hb.size; simp only [alloc_size] at h; exact h
  have xa : v4.heap[v2.heap.size]? = some (.cells #[.slice aa key1.length ca, .int .i64 0, .int .i64 1, .int .i64 0, .int .u64 0, .int .u64 0, .int .i64 0, .int .i64 0] 27 (0, 0)) := (hb.block (v2.heap.size) (by simp only [alloc_size]; omega)).trans ((alloc_old _ _ _ (by omega)).trans Xa.out)
  clear Xa
  have Xa := Lib.hid xa
  clear xa
  have hra : Rd v4 aa key1 := (hra.on (fresh1 _ _)).on hb
  clear hb
  go_wp2_with fail
  refine (laneOpened kc ac cc 2 0 10 (by decide) (by decide) _ fits_c ((hmc.below (fresh1 _ _)).rd)).mono ?_
  rintro e v5 ⟨ad, cd, he, hmd, hb⟩
  rw [eq_d] at he hmd
  obtain rfl : e = .returned (.agg #[.slice ad key1.length cd, .int .i64 0, .int .i64 2, .int .i64 2, .int .u64 11, .int .u64 10, .int .i64 0, .int .i64 0]) := he
  have hB5 := (below_push (o := (.cells #[.slice ac key1.length cc, .int .i64 0, .int .i64 1, .int .i64 2, .int .u64 10, .int .u64 0, .int .i64 0, .int .i64 0] 27 (0, 0))) hB4).trans (hb.mono (by simp only [alloc_size]; omega))
  have hz5 : v4.heap.size + 1 ≤ v5.heap.size := by have h := hb.size; simp only [alloc_size] at h; exact h
  have xa : v5.heap[v2.heap.size]? = some (.cells #[.slice aa key1.length ca, .int .i64 0, .int .i64 1, .int .i64 0, .int .u64 0, .int .u64 0, .int .i64 0, .int .i64 0] 27 (0, 0)) := (hb.block (v2.heap.size) (by simp only [alloc_size]; omega)).trans ((alloc_old _ _ _ (by omega)).trans Xa.out)
  clear Xa
  have Xa := Lib.hid xa
  clear xa
  have hra : Rd v5 aa key1 := (hra.on (fresh1 _ _)).on hb
  clear hb
  go_wp2_with fail
  refine (laneAnswered kd ad cd 3 7 5 0 10 (by decide) (by decide) (by decide) _ fits_d ((hmd.below (fresh1 _ _)).rd)).mono ?_
  rintro e v6 ⟨af, cf, he, hmf, hb⟩
  rw [eq_f] at he hmf
  rw [eq_fa] at he
  obtain rfl : e = .returned (.tuple #[.agg #[.slice af key1.length cf, .int .i64 0, .int .i64 3, .int .i64 2, .int .u64 10, .int .u64 17, .int .i64 5, .int .i64 0], .int .u64 0]) := he
  have hB6 := (below_push (o := (.cells #[.slice ad key1.length cd, .int .i64 0, .int .i64 2, .int .i64 2, .int .u64 11, .int .u64 10, .int .i64 0, .int .i64 0] 27 (0, 0))) hB5).trans (hb.mono (by simp only [alloc_size]; omega))
  have hz6 : v5.heap.size + 1 ≤ v6.heap.size := by have h := hb.size; simp only [alloc_size] at h; exact h
  have xa : v6.heap[v2.heap.size]? = some (.cells #[.slice aa key1.length ca, .int .i64 0, .int .i64 1, .int .i64 0, .int .u64 0, .int .u64 0, .int .i64 0, .int .i64 0] 27 (0, 0)) := (hb.block (v2.heap.size) (by simp only [alloc_size]; omega)).trans ((alloc_old _ _ _ (by omega)).trans Xa.out)
  clear Xa
  have Xa := Lib.hid xa
  clear xa
  have hra : Rd v6 aa key1 := (hra.on (fresh1 _ _)).on hb
  have xd : v6.heap[v5.heap.size]? = some (.cells #[.slice ad key1.length cd, .int .i64 0, .int .i64 2, .int .i64 2, .int .u64 11, .int .u64 10, .int .i64 0, .int .i64 0] 27 (0, 0)) := (hb.block (v5.heap.size) (by simp only [alloc_size]; omega)).trans (heap_alloc_new _ _)
  have Xd := Lib.hid xd
  clear xd
  have hrd : Rd v6 ad key1 := (hmd.below (fresh1 _ _)).rd.on hb
  clear hb
  go_wp2_with fail
  refine (laneAgain kf af cf _ fits_f ((hmf.below (fresh1 _ _)).rd)).mono ?_
  rintro e v7 ⟨ah, ch, he, hmh, hb⟩
  rw [eq_h] at he hmh
  rw [eq_he] at he
  obtain rfl : e = .returned (.tuple #[.agg #[.slice ah key1.length ch, .int .i64 0, .int .i64 4, .int .i64 2, .int .u64 0, .int .u64 0, .int .i64 5, .int .i64 0], .int .i64 0]) := he
  have hB7 := (below_push (o := (.cells #[.slice af key1.length cf, .int .i64 0, .int .i64 3, .int .i64 2, .int .u64 10, .int .u64 17, .int .i64 5, .int .i64 0] 27 (0, 0))) hB6).trans (hb.mono (by simp only [alloc_size]; omega))
  have hz7 : v6.heap.size + 1 ≤ v7.heap.size := by have h := hb.size; simp only [alloc_size] at h; exact h
  have xa : v7.heap[v2.heap.size]? = some (.cells #[.slice aa key1.length ca, .int .i64 0, .int .i64 1, .int .i64 0, .int .u64 0, .int .u64 0, .int .i64 0, .int .i64 0] 27 (0, 0)) := (hb.block (v2.heap.size) (by simp only [alloc_size]; omega)).trans ((alloc_old _ _ _ (by omega)).trans Xa.out)
  clear Xa
  have Xa := Lib.hid xa
  clear xa
  have hra : Rd v7 aa key1 := (hra.on (fresh1 _ _)).on hb
  have xd : v7.heap[v5.heap.size]? = some (.cells #[.slice ad key1.length cd, .int .i64 0, .int .i64 2, .int .i64 2, .int .u64 11, .int .u64 10, .int .i64 0, .int .i64 0] 27 (0, 0)) := (hb.block (v5.heap.size) (by simp only [alloc_size]; omega)).trans ((alloc_old _ _ _ (by omega)).trans Xd.out)
  clear Xd
  have Xd := Lib.hid xd
  clear xd
  have hrd : Rd v7 ad key1 := (hrd.on (fresh1 _ _)).on hb
  have xf : v7.heap[v6.heap.size]? = some (.cells #[.slice af key1.length cf, .int .i64 0, .int .i64 3, .int .i64 2, .int .u64 10, .int .u64 17, .int .i64 5, .int .i64 0] 27 (0, 0)) := (hb.block (v6.heap.size) (by simp only [alloc_size]; omega)).trans (heap_alloc_new _ _)
  have Xf := Lib.hid xf
  clear xf
  have hrf : Rd v7 af key1 := (hmf.below (fresh1 _ _)).rd.on hb
  clear hb
  have xf := Xf.out
  have q0 : v7.cell? ⟨v6.heap.size, 0, none⟩ = some (.slice af key1.length cf) := cell_of_row v7 (v6.heap.size) 0 _ _ _ xf
  have q1 : v7.cell? ⟨v6.heap.size, 1, none⟩ = some (.int .i64 0) := cell_of_row v7 (v6.heap.size) 1 _ _ _ xf
  have q2 : v7.cell? ⟨v6.heap.size, 2, none⟩ = some (.int .i64 3) := cell_of_row v7 (v6.heap.size) 2 _ _ _ xf
  have q3 : v7.cell? ⟨v6.heap.size, 3, none⟩ = some (.int .i64 2) := cell_of_row v7 (v6.heap.size) 3 _ _ _ xf
  have q4 : v7.cell? ⟨v6.heap.size, 4, none⟩ = some (.int .u64 10) := cell_of_row v7 (v6.heap.size) 4 _ _ _ xf
  have q5 : v7.cell? ⟨v6.heap.size, 5, none⟩ = some (.int .u64 17) := cell_of_row v7 (v6.heap.size) 5 _ _ _ xf
  have q6 : v7.cell? ⟨v6.heap.size, 6, none⟩ = some (.int .i64 5) := cell_of_row v7 (v6.heap.size) 6 _ _ _ xf
  have q7 : v7.cell? ⟨v6.heap.size, 7, none⟩ = some (.int .i64 0) := cell_of_row v7 (v6.heap.size) 7 _ _ _ xf
  have qf (i : Nat) : v7.frozen? ⟨v6.heap.size, i, none⟩ = false := frozen_of_row v7 (v6.heap.size) i _ _ xf
  clear xf
  have hltf : v6.heap.size < v7.heap.size := by omega
  have hrf7 := hrf.on (fresh1 v7 (.cells #[.slice ah key1.length ch, .int .i64 0, .int .i64 4, .int .i64 2, .int .u64 0, .int .u64 0, .int .i64 5, .int .i64 0] 27 (0, 0)))
  go_wp2_with fail
  refine (laneRaise kf af cf 17 10 (by decide) (by decide) _ fits_f hrf7).mono ?_
  rintro e v8 ⟨aj, cj, he, hmj, hb⟩
  rw [eq_j] at he hmj
  obtain rfl : e = .returned (.agg #[.slice aj key1.length cj, .int .i64 0, .int .i64 3, .int .i64 2, .int .u64 10, .int .u64 27, .int .i64 5, .int .i64 0]) := he
  have hB8 := (below_push (o := (.cells #[.slice ah key1.length ch, .int .i64 0, .int .i64 4, .int .i64 2, .int .u64 0, .int .u64 0, .int .i64 5, .int .i64 0] 27 (0, 0))) hB7).trans (hb.mono (by simp only [alloc_size]; omega))
  have hz8 : v7.heap.size + 1 ≤ v8.heap.size := by have h := hb.size; simp only [alloc_size] at h; exact h
  have xa : v8.heap[v2.heap.size]? = some (.cells #[.slice aa key1.length ca, .int .i64 0, .int .i64 1, .int .i64 0, .int .u64 0, .int .u64 0, .int .i64 0, .int .i64 0] 27 (0, 0)) := (hb.block (v2.heap.size) (by simp only [alloc_size]; omega)).trans ((alloc_old _ _ _ (by omega)).trans Xa.out)
  clear Xa
  have Xa := Lib.hid xa
  clear xa
  have hra : Rd v8 aa key1 := (hra.on (fresh1 _ _)).on hb
  have xd : v8.heap[v5.heap.size]? = some (.cells #[.slice ad key1.length cd, .int .i64 0, .int .i64 2, .int .i64 2, .int .u64 11, .int .u64 10, .int .i64 0, .int .i64 0] 27 (0, 0)) := (hb.block (v5.heap.size) (by simp only [alloc_size]; omega)).trans ((alloc_old _ _ _ (by omega)).trans Xd.out)
  clear Xd
  have Xd := Lib.hid xd
  clear xd
  have hrd : Rd v8 ad key1 := (hrd.on (fresh1 _ _)).on hb
  have xf : v8.heap[v6.heap.size]? = some (.cells #[.slice af key1.length cf, .int .i64 0, .int .i64 3, .int .i64 2, .int .u64 10, .int .u64 17, .int .i64 5, .int .i64 0] 27 (0, 0)) := (hb.block (v6.heap.size) (by simp only [alloc_size]; omega)).trans ((alloc_old _ _ _ (by omega)).trans Xf.out)
  clear Xf
  have Xf := Lib.hid xf
  clear xf
  have hrf : Rd v8 af key1 := (hrf.on (fresh1 _ _)).on hb
  have xh : v8.heap[v7.heap.size]? = some (.cells #[.slice ah key1.length ch, .int .i64 0, .int .i64 4, .int .i64 2, .int .u64 0, .int .u64 0, .int .i64 5, .int .i64 0] 27 (0, 0)) := (hb.block (v7.heap.size) (by simp only [alloc_size]; omega)).trans (heap_alloc_new _ _)
  have Xh := Lib.hid xh
  clear xh
  have hrh : Rd v8 ah key1 := (hmh.below (fresh1 _ _)).rd.on hb
  clear hb
  clear q0 q1 q2 q3 q4 q5 q6 q7 qf
  clear hrf7
  go_wp2_with fail
  generalize hW : v8.alloc (.cells #[.slice aj key1.length cj, .int .i64 0, .int .i64 3, .int .i64 2, .int .u64 10, .int .u64 27, .int .i64 5, .int .i64 0] 27 (0, 0)) = U0
  have hBU : Below w.heap.size w U0 := by rw [← hW]; exact below_push hB8
  have hzU : U0.heap.size = v8.heap.size + 1 := by rw [← hW]; exact alloc_size _ _
  have xa : U0.heap[v2.heap.size]? = some (.cells #[.slice aa key1.length ca, .int .i64 0, .int .i64 1, .int .i64 0, .int .u64 0, .int .u64 0, .int .i64 0, .int .i64 0] 27 (0, 0)) := by rw [← hW]; exact (alloc_old _ _ _ (by omega)).trans Xa.out
  have hra0 : Rd U0 aa key1 := by rw [← hW]; exact hra.on (fresh1 _ _)
  clear Xa hra
  have Xa := Lib.hid xa
  clear xa
  have xd : U0.heap[v5.heap.size]? = some (.cells #[.slice ad key1.length cd, .int .i64 0, .int .i64 2, .int .i64 2, .int .u64 11, .int .u64 10, .int .i64 0, .int .i64 0] 27 (0, 0)) := by rw [← hW]; exact (alloc_old _ _ _ (by omega)).trans Xd.out
  have hrd0 : Rd U0 ad key1 := by rw [← hW]; exact hrd.on (fresh1 _ _)
  clear Xd hrd
  have Xd := Lib.hid xd
  clear xd
  have xf : U0.heap[v6.heap.size]? = some (.cells #[.slice af key1.length cf, .int .i64 0, .int .i64 3, .int .i64 2, .int .u64 10, .int .u64 17, .int .i64 5, .int .i64 0] 27 (0, 0)) := by rw [← hW]; exact (alloc_old _ _ _ (by omega)).trans Xf.out
  have hrf0 : Rd U0 af key1 := by rw [← hW]; exact hrf.on (fresh1 _ _)
  clear Xf hrf
  have Xf := Lib.hid xf
  clear xf
  have xh : U0.heap[v7.heap.size]? = some (.cells #[.slice ah key1.length ch, .int .i64 0, .int .i64 4, .int .i64 2, .int .u64 0, .int .u64 0, .int .i64 5, .int .i64 0] 27 (0, 0)) := by rw [← hW]; exact (alloc_old _ _ _ (by omega)).trans Xh.out
  have hrh0 : Rd U0 ah key1 := by rw [← hW]; exact hrh.on (fresh1 _ _)
  clear Xh hrh
  have Xh := Lib.hid xh
  clear xh
  have xj : U0.heap[v8.heap.size]? = some (.cells #[.slice aj key1.length cj, .int .i64 0, .int .i64 3, .int .i64 2, .int .u64 10, .int .u64 27, .int .i64 5, .int .i64 0] 27 (0, 0)) := by rw [← hW]; exact heap_alloc_new _ _
  have Xj := Lib.hid xj
  clear xj hW hma hmb hmc hmd hmf hmh hmj hB2 hB3 hB4 hB5 hB6 hB7 hB8
  have hj0 : v8.heap.size < U0.heap.size := by omega
  have xa := Xa.out
  have q0 : U0.cell? ⟨v2.heap.size, 0, none⟩ = some (.slice aa key1.length ca) := cell_of_row U0 (v2.heap.size) 0 _ _ _ xa
  have q1 : U0.cell? ⟨v2.heap.size, 1, none⟩ = some (.int .i64 0) := cell_of_row U0 (v2.heap.size) 1 _ _ _ xa
  have q2 : U0.cell? ⟨v2.heap.size, 2, none⟩ = some (.int .i64 1) := cell_of_row U0 (v2.heap.size) 2 _ _ _ xa
  have q3 : U0.cell? ⟨v2.heap.size, 3, none⟩ = some (.int .i64 0) := cell_of_row U0 (v2.heap.size) 3 _ _ _ xa
  have q4 : U0.cell? ⟨v2.heap.size, 4, none⟩ = some (.int .u64 0) := cell_of_row U0 (v2.heap.size) 4 _ _ _ xa
  have q5 : U0.cell? ⟨v2.heap.size, 5, none⟩ = some (.int .u64 0) := cell_of_row U0 (v2.heap.size) 5 _ _ _ xa
  have q6 : U0.cell? ⟨v2.heap.size, 6, none⟩ = some (.int .i64 0) := cell_of_row U0 (v2.heap.size) 6 _ _ _ xa
  have q7 : U0.cell? ⟨v2.heap.size, 7, none⟩ = some (.int .i64 0) := cell_of_row U0 (v2.heap.size) 7 _ _ _ xa
  have qf (i : Nat) : U0.frozen? ⟨v2.heap.size, i, none⟩ = false := frozen_of_row U0 (v2.heap.size) i _ _ xa
  clear xa
  go_region_held3 (fun w' => w'.cell? ⟨v2.heap.size, 0, none⟩ = some (.slice aa key1.length ca) ∧ w'.cell? ⟨v2.heap.size, 1, none⟩ = some (.int .i64 0) ∧ w'.cell? ⟨v2.heap.size, 2, none⟩ = some (.int .i64 1) ∧ w'.cell? ⟨v2.heap.size, 3, none⟩ = some (.int .i64 0) ∧ w'.cell? ⟨v2.heap.size, 4, none⟩ = some (.int .u64 0) ∧ w'.cell? ⟨v2.heap.size, 5, none⟩ = some (.int .u64 0) ∧ w'.cell? ⟨v2.heap.size, 6, none⟩ = some (.int .i64 0) ∧ w'.cell? ⟨v2.heap.size, 7, none⟩ = some (.int .i64 0)) (((try simp only [cell_drew]); (refine ⟨?_, ?_, ?_, ?_, ?_, ?_, ?_, ?_⟩ <;> with_reducible assumption))) ((first | (go_at_call 43; refine (laneKey U0.drew).mono ?_; rintro e V0 ⟨g0, he, hg0, ho, hb⟩; obtain rfl := he; have hs0 : U0.heap.size ≤ V0.heap.size := hb.size; have d0 : V0.cell? ⟨v2.heap.size, 0, none⟩ = some (.slice aa key1.length ca) := (hb.cell (by show v2.heap.size < _; first | (show _ < U0.heap.size; omega) | omega)).trans q0; have d1 : V0.cell? ⟨v2.heap.size, 1, none⟩ = some (.int .i64 0) := (hb.cell (by show v2.heap.size < _; first | (show _ < U0.heap.size; omega) | omega)).trans q1; have d2 : V0.cell? ⟨v2.heap.size, 2, none⟩ = some (.int .i64 1) := (hb.cell (by show v2.heap.size < _; first | (show _ < U0.heap.size; omega) | omega)).trans q2; have d3 : V0.cell? ⟨v2.heap.size, 3, none⟩ = some (.int .i64 0) := (hb.cell (by show v2.heap.size < _; first | (show _ < U0.heap.size; omega) | omega)).trans q3; have d4 : V0.cell? ⟨v2.heap.size, 4, none⟩ = some (.int .u64 0) := (hb.cell (by show v2.heap.size < _; first | (show _ < U0.heap.size; omega) | omega)).trans q4; have d5 : V0.cell? ⟨v2.heap.size, 5, none⟩ = some (.int .u64 0) := (hb.cell (by show v2.heap.size < _; first | (show _ < U0.heap.size; omega) | omega)).trans q5; have d6 : V0.cell? ⟨v2.heap.size, 6, none⟩ = some (.int .i64 0) := (hb.cell (by show v2.heap.size < _; first | (show _ < U0.heap.size; omega) | omega)).trans q6; have d7 : V0.cell? ⟨v2.heap.size, 7, none⟩ = some (.int .i64 0) := (hb.cell (by show v2.heap.size < _; first | (show _ < U0.heap.size; omega) | omega)).trans q7) | (go_at_call 19; refine (sameLane ka ka aa (some ⟨g0, 0, none⟩) ca 32 V0 (by decide) (by decide) (Rd.on (w := U0.drew) hra0 hb) ho.rd).mono ?_; rintro e U1 ⟨he, hb2⟩; rw [sameL_refl] at he; subst he; have hs2 := hb2.size; have e0 : U1.cell? ⟨v2.heap.size, 0, none⟩ = some (.slice aa key1.length ca) := (hb2.cell (by show v2.heap.size < _; first | (show _ < U0.heap.size; omega) | omega)).trans d0; have e1 : U1.cell? ⟨v2.heap.size, 1, none⟩ = some (.int .i64 0) := (hb2.cell (by show v2.heap.size < _; first | (show _ < U0.heap.size; omega) | omega)).trans d1; have e2 : U1.cell? ⟨v2.heap.size, 2, none⟩ = some (.int .i64 1) := (hb2.cell (by show v2.heap.size < _; first | (show _ < U0.heap.size; omega) | omega)).trans d2; have e3 : U1.cell? ⟨v2.heap.size, 3, none⟩ = some (.int .i64 0) := (hb2.cell (by show v2.heap.size < _; first | (show _ < U0.heap.size; omega) | omega)).trans d3; have e4 : U1.cell? ⟨v2.heap.size, 4, none⟩ = some (.int .u64 0) := (hb2.cell (by show v2.heap.size < _; first | (show _ < U0.heap.size; omega) | omega)).trans d4; have e5 : U1.cell? ⟨v2.heap.size, 5, none⟩ = some (.int .u64 0) := (hb2.cell (by show v2.heap.size < _; first | (show _ < U0.heap.size; omega) | omega)).trans d5; have e6 : U1.cell? ⟨v2.heap.size, 6, none⟩ = some (.int .i64 0) := (hb2.cell (by show v2.heap.size < _; first | (show _ < U0.heap.size; omega) | omega)).trans d6; have e7 : U1.cell? ⟨v2.heap.size, 7, none⟩ = some (.int .i64 0) := (hb2.cell (by show v2.heap.size < _; first | (show _ < U0.heap.size; omega) | omega)).trans d7)))
  clear q0 d0 e0 q1 d1 e1 q2 d2 e2 q3 d3 e3 q4 d4 e4 q5 d5 e5 q6 d6 e6 q7 d7 e7 qf
  have hBU : Below w.heap.size w U1 := (hBU.drew.trans (hb.mono (by have := hBU.size; exact this))).trans (hb2.mono (by have := hBU.size; omega))
  have xd : U1.heap[v5.heap.size]? = some (.cells #[.slice ad key1.length cd, .int .i64 0, .int .i64 2, .int .i64 2, .int .u64 11, .int .u64 10, .int .i64 0, .int .i64 0] 27 (0, 0)) := (hb2.block (v5.heap.size) (by omega)).trans ((hb.block (v5.heap.size) (by show _ < U0.heap.size; omega)).trans Xd.out)
  clear Xd
  have Xd := Lib.hid xd
  clear xd
  have hrd1 : Rd U1 ad key1 := (Rd.on (w := U0.drew) hrd0 hb).on hb2
  clear hrd0
  have xf : U1.heap[v6.heap.size]? = some (.cells #[.slice af key1.length cf, .int .i64 0, .int .i64 3, .int .i64 2, .int .u64 10, .int .u64 17, .int .i64 5, .int .i64 0] 27 (0, 0)) := (hb2.block (v6.heap.size) (by omega)).trans ((hb.block (v6.heap.size) (by show _ < U0.heap.size; omega)).trans Xf.out)
  clear Xf
  have Xf := Lib.hid xf
  clear xf
  have hrf1 : Rd U1 af key1 := (Rd.on (w := U0.drew) hrf0 hb).on hb2
  clear hrf0
  have xh : U1.heap[v7.heap.size]? = some (.cells #[.slice ah key1.length ch, .int .i64 0, .int .i64 4, .int .i64 2, .int .u64 0, .int .u64 0, .int .i64 5, .int .i64 0] 27 (0, 0)) := (hb2.block (v7.heap.size) (by omega)).trans ((hb.block (v7.heap.size) (by show _ < U0.heap.size; omega)).trans Xh.out)
  clear Xh
  have Xh := Lib.hid xh
  clear xh
  have hrh1 : Rd U1 ah key1 := (Rd.on (w := U0.drew) hrh0 hb).on hb2
  clear hrh0
  have xj : U1.heap[v8.heap.size]? = some (.cells #[.slice aj key1.length cj, .int .i64 0, .int .i64 3, .int .i64 2, .int .u64 10, .int .u64 27, .int .i64 5, .int .i64 0] 27 (0, 0)) := (hb2.block (v8.heap.size) (by omega)).trans ((hb.block (v8.heap.size) (by show _ < U0.heap.size; omega)).trans Xj.out)
  clear Xj
  have Xj := Lib.hid xj
  clear xj
  have hj1 : v8.heap.size < U1.heap.size := by omega
  clear hb hb2 ho hra0
  go_wp2_with fail
  have xd := Xd.out
  have q0 : U1.cell? ⟨v5.heap.size, 0, none⟩ = some (.slice ad key1.length cd) := cell_of_row U1 (v5.heap.size) 0 _ _ _ xd
  have q1 : U1.cell? ⟨v5.heap.size, 1, none⟩ = some (.int .i64 0) := cell_of_row U1 (v5.heap.size) 1 _ _ _ xd
  have q2 : U1.cell? ⟨v5.heap.size, 2, none⟩ = some (.int .i64 2) := cell_of_row U1 (v5.heap.size) 2 _ _ _ xd
  have q3 : U1.cell? ⟨v5.heap.size, 3, none⟩ = some (.int .i64 2) := cell_of_row U1 (v5.heap.size) 3 _ _ _ xd
  have q4 : U1.cell? ⟨v5.heap.size, 4, none⟩ = some (.int .u64 11) := cell_of_row U1 (v5.heap.size) 4 _ _ _ xd
  have q5 : U1.cell? ⟨v5.heap.size, 5, none⟩ = some (.int .u64 10) := cell_of_row U1 (v5.heap.size) 5 _ _ _ xd
  have q6 : U1.cell? ⟨v5.heap.size, 6, none⟩ = some (.int .i64 0) := cell_of_row U1 (v5.heap.size) 6 _ _ _ xd
  have q7 : U1.cell? ⟨v5.heap.size, 7, none⟩ = some (.int .i64 0) := cell_of_row U1 (v5.heap.size) 7 _ _ _ xd
  have qf (i : Nat) : U1.frozen? ⟨v5.heap.size, i, none⟩ = false := frozen_of_row U1 (v5.heap.size) i _ _ xd
  clear xd
  go_region_held3 (fun w' => w'.cell? ⟨v5.heap.size, 0, none⟩ = some (.slice ad key1.length cd) ∧ w'.cell? ⟨v5.heap.size, 1, none⟩ = some (.int .i64 0) ∧ w'.cell? ⟨v5.heap.size, 2, none⟩ = some (.int .i64 2) ∧ w'.cell? ⟨v5.heap.size, 3, none⟩ = some (.int .i64 2) ∧ w'.cell? ⟨v5.heap.size, 4, none⟩ = some (.int .u64 11) ∧ w'.cell? ⟨v5.heap.size, 5, none⟩ = some (.int .u64 10) ∧ w'.cell? ⟨v5.heap.size, 6, none⟩ = some (.int .i64 0) ∧ w'.cell? ⟨v5.heap.size, 7, none⟩ = some (.int .i64 0)) (((try simp only [cell_drew]); (refine ⟨?_, ?_, ?_, ?_, ?_, ?_, ?_, ?_⟩ <;> with_reducible assumption))) ((first | (go_at_call 43; refine (laneKey U1.drew).mono ?_; rintro e V1 ⟨g1, he, hg1, ho, hb⟩; obtain rfl := he; have hs1 : U1.heap.size ≤ V1.heap.size := hb.size; have d0 : V1.cell? ⟨v5.heap.size, 0, none⟩ = some (.slice ad key1.length cd) := (hb.cell (by show v5.heap.size < _; first | (show _ < U1.heap.size; omega) | omega)).trans q0; have d1 : V1.cell? ⟨v5.heap.size, 1, none⟩ = some (.int .i64 0) := (hb.cell (by show v5.heap.size < _; first | (show _ < U1.heap.size; omega) | omega)).trans q1; have d2 : V1.cell? ⟨v5.heap.size, 2, none⟩ = some (.int .i64 2) := (hb.cell (by show v5.heap.size < _; first | (show _ < U1.heap.size; omega) | omega)).trans q2; have d3 : V1.cell? ⟨v5.heap.size, 3, none⟩ = some (.int .i64 2) := (hb.cell (by show v5.heap.size < _; first | (show _ < U1.heap.size; omega) | omega)).trans q3; have d4 : V1.cell? ⟨v5.heap.size, 4, none⟩ = some (.int .u64 11) := (hb.cell (by show v5.heap.size < _; first | (show _ < U1.heap.size; omega) | omega)).trans q4; have d5 : V1.cell? ⟨v5.heap.size, 5, none⟩ = some (.int .u64 10) := (hb.cell (by show v5.heap.size < _; first | (show _ < U1.heap.size; omega) | omega)).trans q5; have d6 : V1.cell? ⟨v5.heap.size, 6, none⟩ = some (.int .i64 0) := (hb.cell (by show v5.heap.size < _; first | (show _ < U1.heap.size; omega) | omega)).trans q6; have d7 : V1.cell? ⟨v5.heap.size, 7, none⟩ = some (.int .i64 0) := (hb.cell (by show v5.heap.size < _; first | (show _ < U1.heap.size; omega) | omega)).trans q7) | (go_at_call 19; refine (sameLane kd kd ad (some ⟨g1, 0, none⟩) cd 32 V1 (by decide) (by decide) (Rd.on (w := U1.drew) hrd1 hb) ho.rd).mono ?_; rintro e U2 ⟨he, hb2⟩; rw [sameL_refl] at he; subst he; have hs2 := hb2.size; have e0 : U2.cell? ⟨v5.heap.size, 0, none⟩ = some (.slice ad key1.length cd) := (hb2.cell (by show v5.heap.size < _; first | (show _ < U1.heap.size; omega) | omega)).trans d0; have e1 : U2.cell? ⟨v5.heap.size, 1, none⟩ = some (.int .i64 0) := (hb2.cell (by show v5.heap.size < _; first | (show _ < U1.heap.size; omega) | omega)).trans d1; have e2 : U2.cell? ⟨v5.heap.size, 2, none⟩ = some (.int .i64 2) := (hb2.cell (by show v5.heap.size < _; first | (show _ < U1.heap.size; omega) | omega)).trans d2; have e3 : U2.cell? ⟨v5.heap.size, 3, none⟩ = some (.int .i64 2) := (hb2.cell (by show v5.heap.size < _; first | (show _ < U1.heap.size; omega) | omega)).trans d3; have e4 : U2.cell? ⟨v5.heap.size, 4, none⟩ = some (.int .u64 11) := (hb2.cell (by show v5.heap.size < _; first | (show _ < U1.heap.size; omega) | omega)).trans d4; have e5 : U2.cell? ⟨v5.heap.size, 5, none⟩ = some (.int .u64 10) := (hb2.cell (by show v5.heap.size < _; first | (show _ < U1.heap.size; omega) | omega)).trans d5; have e6 : U2.cell? ⟨v5.heap.size, 6, none⟩ = some (.int .i64 0) := (hb2.cell (by show v5.heap.size < _; first | (show _ < U1.heap.size; omega) | omega)).trans d6; have e7 : U2.cell? ⟨v5.heap.size, 7, none⟩ = some (.int .i64 0) := (hb2.cell (by show v5.heap.size < _; first | (show _ < U1.heap.size; omega) | omega)).trans d7)))
  clear q0 d0 e0 q1 d1 e1 q2 d2 e2 q3 d3 e3 q4 d4 e4 q5 d5 e5 q6 d6 e6 q7 d7 e7 qf
  have hBU : Below w.heap.size w U2 := (hBU.drew.trans (hb.mono (by have := hBU.size; exact this))).trans (hb2.mono (by have := hBU.size; omega))
  have xf : U2.heap[v6.heap.size]? = some (.cells #[.slice af key1.length cf, .int .i64 0, .int .i64 3, .int .i64 2, .int .u64 10, .int .u64 17, .int .i64 5, .int .i64 0] 27 (0, 0)) := (hb2.block (v6.heap.size) (by omega)).trans ((hb.block (v6.heap.size) (by show _ < U1.heap.size; omega)).trans Xf.out)
  clear Xf
  have Xf := Lib.hid xf
  clear xf
  have hrf2 : Rd U2 af key1 := (Rd.on (w := U1.drew) hrf1 hb).on hb2
  clear hrf1
  have xh : U2.heap[v7.heap.size]? = some (.cells #[.slice ah key1.length ch, .int .i64 0, .int .i64 4, .int .i64 2, .int .u64 0, .int .u64 0, .int .i64 5, .int .i64 0] 27 (0, 0)) := (hb2.block (v7.heap.size) (by omega)).trans ((hb.block (v7.heap.size) (by show _ < U1.heap.size; omega)).trans Xh.out)
  clear Xh
  have Xh := Lib.hid xh
  clear xh
  have hrh2 : Rd U2 ah key1 := (Rd.on (w := U1.drew) hrh1 hb).on hb2
  clear hrh1
  have xj : U2.heap[v8.heap.size]? = some (.cells #[.slice aj key1.length cj, .int .i64 0, .int .i64 3, .int .i64 2, .int .u64 10, .int .u64 27, .int .i64 5, .int .i64 0] 27 (0, 0)) := (hb2.block (v8.heap.size) (by omega)).trans ((hb.block (v8.heap.size) (by show _ < U1.heap.size; omega)).trans Xj.out)
  clear Xj
  have Xj := Lib.hid xj
  clear xj
  have hj2 : v8.heap.size < U2.heap.size := by omega
  clear hb hb2 ho hrd1
  go_wp2_with fail
  have xf := Xf.out
  have q0 : U2.cell? ⟨v6.heap.size, 0, none⟩ = some (.slice af key1.length cf) := cell_of_row U2 (v6.heap.size) 0 _ _ _ xf
  have q1 : U2.cell? ⟨v6.heap.size, 1, none⟩ = some (.int .i64 0) := cell_of_row U2 (v6.heap.size) 1 _ _ _ xf
  have q2 : U2.cell? ⟨v6.heap.size, 2, none⟩ = some (.int .i64 3) := cell_of_row U2 (v6.heap.size) 2 _ _ _ xf
  have q3 : U2.cell? ⟨v6.heap.size, 3, none⟩ = some (.int .i64 2) := cell_of_row U2 (v6.heap.size) 3 _ _ _ xf
  have q4 : U2.cell? ⟨v6.heap.size, 4, none⟩ = some (.int .u64 10) := cell_of_row U2 (v6.heap.size) 4 _ _ _ xf
  have q5 : U2.cell? ⟨v6.heap.size, 5, none⟩ = some (.int .u64 17) := cell_of_row U2 (v6.heap.size) 5 _ _ _ xf
  have q6 : U2.cell? ⟨v6.heap.size, 6, none⟩ = some (.int .i64 5) := cell_of_row U2 (v6.heap.size) 6 _ _ _ xf
  have q7 : U2.cell? ⟨v6.heap.size, 7, none⟩ = some (.int .i64 0) := cell_of_row U2 (v6.heap.size) 7 _ _ _ xf
  have qf (i : Nat) : U2.frozen? ⟨v6.heap.size, i, none⟩ = false := frozen_of_row U2 (v6.heap.size) i _ _ xf
  clear xf
  go_region_held3 (fun w' => w'.cell? ⟨v6.heap.size, 0, none⟩ = some (.slice af key1.length cf) ∧ w'.cell? ⟨v6.heap.size, 1, none⟩ = some (.int .i64 0) ∧ w'.cell? ⟨v6.heap.size, 2, none⟩ = some (.int .i64 3) ∧ w'.cell? ⟨v6.heap.size, 3, none⟩ = some (.int .i64 2) ∧ w'.cell? ⟨v6.heap.size, 4, none⟩ = some (.int .u64 10) ∧ w'.cell? ⟨v6.heap.size, 5, none⟩ = some (.int .u64 17) ∧ w'.cell? ⟨v6.heap.size, 6, none⟩ = some (.int .i64 5) ∧ w'.cell? ⟨v6.heap.size, 7, none⟩ = some (.int .i64 0)) (((try simp only [cell_drew]); (refine ⟨?_, ?_, ?_, ?_, ?_, ?_, ?_, ?_⟩ <;> with_reducible assumption))) ((first | (go_at_call 43; refine (laneKey U2.drew).mono ?_; rintro e V2 ⟨g2, he, hg2, ho, hb⟩; obtain rfl := he; have hs2 : U2.heap.size ≤ V2.heap.size := hb.size; have d0 : V2.cell? ⟨v6.heap.size, 0, none⟩ = some (.slice af key1.length cf) := (hb.cell (by show v6.heap.size < _; first | (show _ < U2.heap.size; omega) | omega)).trans q0; have d1 : V2.cell? ⟨v6.heap.size, 1, none⟩ = some (.int .i64 0) := (hb.cell (by show v6.heap.size < _; first | (show _ < U2.heap.size; omega) | omega)).trans q1; have d2 : V2.cell? ⟨v6.heap.size, 2, none⟩ = some (.int .i64 3) := (hb.cell (by show v6.heap.size < _; first | (show _ < U2.heap.size; omega) | omega)).trans q2; have d3 : V2.cell? ⟨v6.heap.size, 3, none⟩ = some (.int .i64 2) := (hb.cell (by show v6.heap.size < _; first | (show _ < U2.heap.size; omega) | omega)).trans q3; have d4 : V2.cell? ⟨v6.heap.size, 4, none⟩ = some (.int .u64 10) := (hb.cell (by show v6.heap.size < _; first | (show _ < U2.heap.size; omega) | omega)).trans q4; have d5 : V2.cell? ⟨v6.heap.size, 5, none⟩ = some (.int .u64 17) := (hb.cell (by show v6.heap.size < _; first | (show _ < U2.heap.size; omega) | omega)).trans q5; have d6 : V2.cell? ⟨v6.heap.size, 6, none⟩ = some (.int .i64 5) := (hb.cell (by show v6.heap.size < _; first | (show _ < U2.heap.size; omega) | omega)).trans q6; have d7 : V2.cell? ⟨v6.heap.size, 7, none⟩ = some (.int .i64 0) := (hb.cell (by show v6.heap.size < _; first | (show _ < U2.heap.size; omega) | omega)).trans q7) | (go_at_call 19; refine (sameLane kf kf af (some ⟨g2, 0, none⟩) cf 32 V2 (by decide) (by decide) (Rd.on (w := U2.drew) hrf2 hb) ho.rd).mono ?_; rintro e U3 ⟨he, hb2⟩; rw [sameL_refl] at he; subst he; have hs2 := hb2.size; have e0 : U3.cell? ⟨v6.heap.size, 0, none⟩ = some (.slice af key1.length cf) := (hb2.cell (by show v6.heap.size < _; first | (show _ < U2.heap.size; omega) | omega)).trans d0; have e1 : U3.cell? ⟨v6.heap.size, 1, none⟩ = some (.int .i64 0) := (hb2.cell (by show v6.heap.size < _; first | (show _ < U2.heap.size; omega) | omega)).trans d1; have e2 : U3.cell? ⟨v6.heap.size, 2, none⟩ = some (.int .i64 3) := (hb2.cell (by show v6.heap.size < _; first | (show _ < U2.heap.size; omega) | omega)).trans d2; have e3 : U3.cell? ⟨v6.heap.size, 3, none⟩ = some (.int .i64 2) := (hb2.cell (by show v6.heap.size < _; first | (show _ < U2.heap.size; omega) | omega)).trans d3; have e4 : U3.cell? ⟨v6.heap.size, 4, none⟩ = some (.int .u64 10) := (hb2.cell (by show v6.heap.size < _; first | (show _ < U2.heap.size; omega) | omega)).trans d4; have e5 : U3.cell? ⟨v6.heap.size, 5, none⟩ = some (.int .u64 17) := (hb2.cell (by show v6.heap.size < _; first | (show _ < U2.heap.size; omega) | omega)).trans d5; have e6 : U3.cell? ⟨v6.heap.size, 6, none⟩ = some (.int .i64 5) := (hb2.cell (by show v6.heap.size < _; first | (show _ < U2.heap.size; omega) | omega)).trans d6; have e7 : U3.cell? ⟨v6.heap.size, 7, none⟩ = some (.int .i64 0) := (hb2.cell (by show v6.heap.size < _; first | (show _ < U2.heap.size; omega) | omega)).trans d7)))
  clear q0 d0 e0 q1 d1 e1 q2 d2 e2 q3 d3 e3 q4 d4 e4 q5 d5 e5 q6 d6 e6 q7 d7 e7 qf
  have hBU : Below w.heap.size w U3 := (hBU.drew.trans (hb.mono (by have := hBU.size; exact this))).trans (hb2.mono (by have := hBU.size; omega))
  have xh : U3.heap[v7.heap.size]? = some (.cells #[.slice ah key1.length ch, .int .i64 0, .int .i64 4, .int .i64 2, .int .u64 0, .int .u64 0, .int .i64 5, .int .i64 0] 27 (0, 0)) := (hb2.block (v7.heap.size) (by omega)).trans ((hb.block (v7.heap.size) (by show _ < U2.heap.size; omega)).trans Xh.out)
  clear Xh
  have Xh := Lib.hid xh
  clear xh
  have hrh3 : Rd U3 ah key1 := (Rd.on (w := U2.drew) hrh2 hb).on hb2
  clear hrh2
  have xj : U3.heap[v8.heap.size]? = some (.cells #[.slice aj key1.length cj, .int .i64 0, .int .i64 3, .int .i64 2, .int .u64 10, .int .u64 27, .int .i64 5, .int .i64 0] 27 (0, 0)) := (hb2.block (v8.heap.size) (by omega)).trans ((hb.block (v8.heap.size) (by show _ < U2.heap.size; omega)).trans Xj.out)
  clear Xj
  have Xj := Lib.hid xj
  clear xj
  have hj3 : v8.heap.size < U3.heap.size := by omega
  clear hb hb2 ho hrf2
  go_wp2_with fail
  have xh := Xh.out
  have q0 : U3.cell? ⟨v7.heap.size, 0, none⟩ = some (.slice ah key1.length ch) := cell_of_row U3 (v7.heap.size) 0 _ _ _ xh
  have q1 : U3.cell? ⟨v7.heap.size, 1, none⟩ = some (.int .i64 0) := cell_of_row U3 (v7.heap.size) 1 _ _ _ xh
  have q2 : U3.cell? ⟨v7.heap.size, 2, none⟩ = some (.int .i64 4) := cell_of_row U3 (v7.heap.size) 2 _ _ _ xh
  have q3 : U3.cell? ⟨v7.heap.size, 3, none⟩ = some (.int .i64 2) := cell_of_row U3 (v7.heap.size) 3 _ _ _ xh
  have q4 : U3.cell? ⟨v7.heap.size, 4, none⟩ = some (.int .u64 0) := cell_of_row U3 (v7.heap.size) 4 _ _ _ xh
  have q5 : U3.cell? ⟨v7.heap.size, 5, none⟩ = some (.int .u64 0) := cell_of_row U3 (v7.heap.size) 5 _ _ _ xh
  have q6 : U3.cell? ⟨v7.heap.size, 6, none⟩ = some (.int .i64 5) := cell_of_row U3 (v7.heap.size) 6 _ _ _ xh
  have q7 : U3.cell? ⟨v7.heap.size, 7, none⟩ = some (.int .i64 0) := cell_of_row U3 (v7.heap.size) 7 _ _ _ xh
  have qf (i : Nat) : U3.frozen? ⟨v7.heap.size, i, none⟩ = false := frozen_of_row U3 (v7.heap.size) i _ _ xh
  clear xh
  go_region_held3 (fun w' => w'.cell? ⟨v7.heap.size, 0, none⟩ = some (.slice ah key1.length ch) ∧ w'.cell? ⟨v7.heap.size, 1, none⟩ = some (.int .i64 0) ∧ w'.cell? ⟨v7.heap.size, 2, none⟩ = some (.int .i64 4) ∧ w'.cell? ⟨v7.heap.size, 3, none⟩ = some (.int .i64 2) ∧ w'.cell? ⟨v7.heap.size, 4, none⟩ = some (.int .u64 0) ∧ w'.cell? ⟨v7.heap.size, 5, none⟩ = some (.int .u64 0) ∧ w'.cell? ⟨v7.heap.size, 6, none⟩ = some (.int .i64 5) ∧ w'.cell? ⟨v7.heap.size, 7, none⟩ = some (.int .i64 0)) (((try simp only [cell_drew]); (refine ⟨?_, ?_, ?_, ?_, ?_, ?_, ?_, ?_⟩ <;> with_reducible assumption))) ((first | (go_at_call 43; refine (laneKey U3.drew).mono ?_; rintro e V3 ⟨g3, he, hg3, ho, hb⟩; obtain rfl := he; have hs3 : U3.heap.size ≤ V3.heap.size := hb.size; have d0 : V3.cell? ⟨v7.heap.size, 0, none⟩ = some (.slice ah key1.length ch) := (hb.cell (by show v7.heap.size < _; first | (show _ < U3.heap.size; omega) | omega)).trans q0; have d1 : V3.cell? ⟨v7.heap.size, 1, none⟩ = some (.int .i64 0) := (hb.cell (by show v7.heap.size < _; first | (show _ < U3.heap.size; omega) | omega)).trans q1; have d2 : V3.cell? ⟨v7.heap.size, 2, none⟩ = some (.int .i64 4) := (hb.cell (by show v7.heap.size < _; first | (show _ < U3.heap.size; omega) | omega)).trans q2; have d3 : V3.cell? ⟨v7.heap.size, 3, none⟩ = some (.int .i64 2) := (hb.cell (by show v7.heap.size < _; first | (show _ < U3.heap.size; omega) | omega)).trans q3; have d4 : V3.cell? ⟨v7.heap.size, 4, none⟩ = some (.int .u64 0) := (hb.cell (by show v7.heap.size < _; first | (show _ < U3.heap.size; omega) | omega)).trans q4; have d5 : V3.cell? ⟨v7.heap.size, 5, none⟩ = some (.int .u64 0) := (hb.cell (by show v7.heap.size < _; first | (show _ < U3.heap.size; omega) | omega)).trans q5; have d6 : V3.cell? ⟨v7.heap.size, 6, none⟩ = some (.int .i64 5) := (hb.cell (by show v7.heap.size < _; first | (show _ < U3.heap.size; omega) | omega)).trans q6; have d7 : V3.cell? ⟨v7.heap.size, 7, none⟩ = some (.int .i64 0) := (hb.cell (by show v7.heap.size < _; first | (show _ < U3.heap.size; omega) | omega)).trans q7) | (go_at_call 19; refine (sameLane kh kh ah (some ⟨g3, 0, none⟩) ch 32 V3 (by decide) (by decide) (Rd.on (w := U3.drew) hrh3 hb) ho.rd).mono ?_; rintro e U4 ⟨he, hb2⟩; rw [sameL_refl] at he; subst he; have hs2 := hb2.size; have e0 : U4.cell? ⟨v7.heap.size, 0, none⟩ = some (.slice ah key1.length ch) := (hb2.cell (by show v7.heap.size < _; first | (show _ < U3.heap.size; omega) | omega)).trans d0; have e1 : U4.cell? ⟨v7.heap.size, 1, none⟩ = some (.int .i64 0) := (hb2.cell (by show v7.heap.size < _; first | (show _ < U3.heap.size; omega) | omega)).trans d1; have e2 : U4.cell? ⟨v7.heap.size, 2, none⟩ = some (.int .i64 4) := (hb2.cell (by show v7.heap.size < _; first | (show _ < U3.heap.size; omega) | omega)).trans d2; have e3 : U4.cell? ⟨v7.heap.size, 3, none⟩ = some (.int .i64 2) := (hb2.cell (by show v7.heap.size < _; first | (show _ < U3.heap.size; omega) | omega)).trans d3; have e4 : U4.cell? ⟨v7.heap.size, 4, none⟩ = some (.int .u64 0) := (hb2.cell (by show v7.heap.size < _; first | (show _ < U3.heap.size; omega) | omega)).trans d4; have e5 : U4.cell? ⟨v7.heap.size, 5, none⟩ = some (.int .u64 0) := (hb2.cell (by show v7.heap.size < _; first | (show _ < U3.heap.size; omega) | omega)).trans d5; have e6 : U4.cell? ⟨v7.heap.size, 6, none⟩ = some (.int .i64 5) := (hb2.cell (by show v7.heap.size < _; first | (show _ < U3.heap.size; omega) | omega)).trans d6; have e7 : U4.cell? ⟨v7.heap.size, 7, none⟩ = some (.int .i64 0) := (hb2.cell (by show v7.heap.size < _; first | (show _ < U3.heap.size; omega) | omega)).trans d7)))
  clear q0 d0 e0 q1 d1 e1 q2 d2 e2 q3 d3 e3 q4 d4 e4 q5 d5 e5 q6 d6 e6 q7 d7 e7 qf
  have hBU : Below w.heap.size w U4 := (hBU.drew.trans (hb.mono (by have := hBU.size; exact this))).trans (hb2.mono (by have := hBU.size; omega))
  have xj : U4.heap[v8.heap.size]? = some (.cells #[.slice aj key1.length cj, .int .i64 0, .int .i64 3, .int .i64 2, .int .u64 10, .int .u64 27, .int .i64 5, .int .i64 0] 27 (0, 0)) := (hb2.block (v8.heap.size) (by omega)).trans ((hb.block (v8.heap.size) (by show _ < U3.heap.size; omega)).trans Xj.out)
  clear Xj
  have Xj := Lib.hid xj
  clear xj
  have hj4 : v8.heap.size < U4.heap.size := by omega
  have xh : U4.heap[v7.heap.size]? = some (.cells #[.slice ah key1.length ch, .int .i64 0, .int .i64 4, .int .i64 2, .int .u64 0, .int .u64 0, .int .i64 5, .int .i64 0] 27 (0, 0)) := (hb2.block (v7.heap.size) (by omega)).trans ((hb.block (v7.heap.size) (by show _ < U3.heap.size; omega)).trans Xh.out)
  clear hb hb2 ho
  have q0 : U4.cell? ⟨v7.heap.size, 0, none⟩ = some (.slice ah key1.length ch) := cell_of_row U4 (v7.heap.size) 0 _ _ _ xh
  have q1 : U4.cell? ⟨v7.heap.size, 1, none⟩ = some (.int .i64 0) := cell_of_row U4 (v7.heap.size) 1 _ _ _ xh
  have q2 : U4.cell? ⟨v7.heap.size, 2, none⟩ = some (.int .i64 4) := cell_of_row U4 (v7.heap.size) 2 _ _ _ xh
  have q3 : U4.cell? ⟨v7.heap.size, 3, none⟩ = some (.int .i64 2) := cell_of_row U4 (v7.heap.size) 3 _ _ _ xh
  have q4 : U4.cell? ⟨v7.heap.size, 4, none⟩ = some (.int .u64 0) := cell_of_row U4 (v7.heap.size) 4 _ _ _ xh
  have q5 : U4.cell? ⟨v7.heap.size, 5, none⟩ = some (.int .u64 0) := cell_of_row U4 (v7.heap.size) 5 _ _ _ xh
  have q6 : U4.cell? ⟨v7.heap.size, 6, none⟩ = some (.int .i64 5) := cell_of_row U4 (v7.heap.size) 6 _ _ _ xh
  have q7 : U4.cell? ⟨v7.heap.size, 7, none⟩ = some (.int .i64 0) := cell_of_row U4 (v7.heap.size) 7 _ _ _ xh
  have qf (i : Nat) : U4.frozen? ⟨v7.heap.size, i, none⟩ = false := frozen_of_row U4 (v7.heap.size) i _ _ xh
  clear xh
  go_wp2_with fail
  refine (laneValid kh ah ch (by decide) _).mono ?_
  rintro e U5 ⟨he, hb⟩
  rw [eq_hok] at he
  subst he
  have hBV := hBU.trans (hb.mono hBU.size)
  have xj : U5.heap[v8.heap.size]? = some (.cells #[.slice aj key1.length cj, .int .i64 0, .int .i64 3, .int .i64 2, .int .u64 10, .int .u64 27, .int .i64 5, .int .i64 0] 27 (0, 0)) := (hb.block (v8.heap.size) (by omega)).trans Xj.out
  clear q0 q1 q2 q3 q4 q5 q6 q7 qf
  have q0 : U5.cell? ⟨v8.heap.size, 0, none⟩ = some (.slice aj key1.length cj) := cell_of_row U5 (v8.heap.size) 0 _ _ _ xj
  have q1 : U5.cell? ⟨v8.heap.size, 1, none⟩ = some (.int .i64 0) := cell_of_row U5 (v8.heap.size) 1 _ _ _ xj
  have q2 : U5.cell? ⟨v8.heap.size, 2, none⟩ = some (.int .i64 3) := cell_of_row U5 (v8.heap.size) 2 _ _ _ xj
  have q3 : U5.cell? ⟨v8.heap.size, 3, none⟩ = some (.int .i64 2) := cell_of_row U5 (v8.heap.size) 3 _ _ _ xj
  have q4 : U5.cell? ⟨v8.heap.size, 4, none⟩ = some (.int .u64 10) := cell_of_row U5 (v8.heap.size) 4 _ _ _ xj
  have q5 : U5.cell? ⟨v8.heap.size, 5, none⟩ = some (.int .u64 27) := cell_of_row U5 (v8.heap.size) 5 _ _ _ xj
  have q6 : U5.cell? ⟨v8.heap.size, 6, none⟩ = some (.int .i64 5) := cell_of_row U5 (v8.heap.size) 6 _ _ _ xj
  have q7 : U5.cell? ⟨v8.heap.size, 7, none⟩ = some (.int .i64 0) := cell_of_row U5 (v8.heap.size) 7 _ _ _ xj
  have qf (i : Nat) : U5.frozen? ⟨v8.heap.size, i, none⟩ = false := frozen_of_row U5 (v8.heap.size) i _ _ xj
  clear xj hb
  go_wp2_with (first | (go_at_call 27; refine (numOf _ _).mono ?_; rintro e w' ⟨rfl, rfl⟩) | (go_at_call 21; refine (laneUp 3 1 (by decide) (by decide) _).mono ?_; rintro e w' ⟨he, rfl⟩; rw [eq_up] at he; subst he))
  go_ret
  exact ⟨rfl, hBV⟩
end Go.Proofs.Ytihndipgdogebaa
