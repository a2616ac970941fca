/- Contracts that stand in other chapters too. -/
import Derived.Test.YtjlhnepjpjlppaaGreatDoorZLb
import Derived.Test.YtjlhnepjpjlppaaGreatDoorAppend
namespace Go.Proofs.YtjlhnepjpjlppaaGreatDoor
open Go.RowKit
set_option maxRecDepth 100000
theorem ok_bounds {L : Ln} (h : L.ok = true) : 1 ≤ L.cur ∧ L.cur ≤ 2147483647 ∧ 0 ≤ L.next ∧ L.next ≤ 2147483647 := by
  simp only [Ln.ok, Bool.and_eq_true, decide_eq_true_eq] at h
  omega
theorem numOf (e : Int) (w : World) : Calls Tryz.prog 19 #[.int .i64 e] w fun x w' => x = .returned (.int .i64 e) ∧ w' = w := by
  go_enter Tryz.func19, Tryz.ntmps19
  go_wp2
  go_ret
  exact ⟨rfl, rfl⟩
def key1 : List (BitVec 8) := [1#8, 2#8, 3#8, 4#8, 5#8, 6#8, 7#8, 8#8, 9#8, 10#8, 11#8, 12#8, 13#8, 14#8, 15#8, 16#8, 17#8, 18#8, 19#8, 20#8, 21#8, 22#8, 23#8, 24#8, 25#8, 26#8, 27#8, 28#8, 29#8, 30#8, 31#8, 32#8]
theorem key1_get : ∀ k : Fin 32, n8 (key1.getD k.val 0#8) = 1 + (k.val : Int) := by
  unfold n8
  decide
set_option maxHeartbeats 800000 in
theorem laneKey (w : World) : Calls Tryz.prog 16 #[.int .u8 1] w fun e w' => ∃ g, e = .returned (.slice (some ⟨g, 0, none⟩) 32 32) ∧ w.heap.size ≤ g ∧ Own w' g 32 5 key1 ∧ Below w.heap.size w w' := by
  obtain ⟨i0, hi, hz0, hz1, hz2⟩ := info_parts info_u8
  go_enter Tryz.func16, Tryz.ntmps16
  go_wp2_with (at_make; refine wpList_make_bytes rfl _ _ 22 rfl 5 i0 Tryz.underlying22 hi hz0 hz1 hz2 .i64 .i64 32 (by go_num) (by go_num) (by omega) ?_)
  intro w2 hO hs2 hB2
  have hb0 : Below w.heap.size w w2 := hB2.fresh
  clear hB2
  go_wp2_with fail
  go_loopw [4] (fun i wr => ∃ k : Nat, k ≤ 32 ∧ i = .int .i64 k ∧ Own wr w.heap.size 32 5 (key1.take k ++ List.replicate (32 - k) 0#8) ∧ Below w.heap.size w wr) (fun i _ => 32 - (intOf i).toNat)
  case atStart => exact ⟨0, by omega, rfl, by simpa using hO, hb0⟩
  case round =>
    obtain ⟨k, hk, rfl, hO1, hb1⟩ := hrel
    clear hO hb0
    by_cases hlt : k < 32
    · have hkey := key1_get ⟨k, hlt⟩
      have hlen : key1.length = 32 := rfl
      have hcell : wr.cell? ⟨w.heap.size, k, none⟩ = some (.int .u8 0) := by
        have := hO1.cell k (by simp [hlen]; omega)
        rw [this]
        have e0 : (key1.take k ++ List.replicate (32 - k) 0#8).getD k 0#8 = 0#8 := by
          rw [List.getD_eq_getElem?_getD, List.getElem?_append_right (by simp [hlen]; omega), List.getElem?_replicate]
          split <;> rfl
        rw [e0, ← n8_zero]
      have hfree := hO1.free k
      have hset := hO1.set k (key1.getD k 0#8)
      have heq : (key1.take k ++ List.replicate (32 - k) 0#8).set k (key1.getD k 0#8) = key1.take (k + 1) ++ List.replicate (32 - (k + 1)) 0#8 := by
        refine List.ext_getElem (by simp [hlen]; omega) fun i h1 h2 => ?_
        simp only [List.getElem_set, List.getElem_append, List.length_take, List.getElem_take, List.getElem_replicate, hlen]
        by_cases hik : k = i
        · subst hik
          simp [List.getD, hlen, hlt]
          omega
        · simp only [hik, if_false]
          by_cases hi2 : i < k
          · rw [dif_pos (by omega), dif_pos (by omega)]
          · rw [dif_neg (by omega), dif_neg (by omega)]
      rw [heq, hkey] at hset
      have HS := Lib.hid hset
      have HB := Lib.hid hb1
      clear hset heq hkey hO1 hb1 hlen
      have hk0 : (0 : Int) ≤ (k : Int) := by omega
      go_wp2_with fail
      go_roundw
      case rel => exact ⟨k + 1, by omega, by go_num, HS.out, Below.set HB.out _ _ _ (Nat.le_refl _)⟩
      case measure => simp [intOf]; omega
    · obtain rfl : k = 32 := by omega
      have hO2 : Own wr w.heap.size 32 5 key1 := by
        have h := hO1
        rw [show key1.take 32 ++ List.replicate (32 - 32) 0#8 = key1 from rfl] at h
        exact h
      clear hO1
      go_wp2_with fail
      go_ret
      exact ⟨_, rfl, Nat.le_refl _, hO2, hb1⟩
def ka : Ln := ⟨key1, 0, 1, 0, 0, 0, 0, 0⟩
theorem fits_a : ka.fits := by constructor <;> decide
def kb : Ln := ⟨key1, 0, 1, 0, 10, 0, 0, 0⟩
theorem fits_b : kb.fits := by constructor <;> decide
def kc : Ln := ⟨key1, 0, 1, 2, 10, 0, 0, 0⟩
theorem fits_c : kc.fits := by constructor <;> decide
def kd : Ln := ⟨key1, 0, 2, 2, 11, 10, 0, 0⟩
theorem fits_d : kd.fits := by constructor <;> decide
def kf : Ln := ⟨key1, 0, 3, 2, 10, 17, 5, 0⟩
theorem fits_f : kf.fits := by constructor <;> decide
def kh : Ln := ⟨key1, 0, 4, 2, 0, 0, 5, 0⟩
theorem fits_h : kh.fits := by constructor <;> decide
def kj : Ln := ⟨key1, 0, 3, 2, 10, 27, 5, 0⟩
theorem fits_j : kj.fits := by constructor <;> decide
theorem eq_a : newL key1 0 = ka := by rfl
theorem eq_b : reserveL ka 0 10 = kb := by rfl
theorem eq_c : proposeL kb = kc := by rfl
theorem eq_d : openedL kc 2 0 10 = kd := by rfl
theorem eq_f : answeredL kd 3 7 5 0 10 = kf := by rfl
theorem eq_h : againL kf = kh := by rfl
theorem eq_j : raiseL kf 17 10 = kj := by rfl
theorem eq_cg : nextG kb = 2 := by rfl
theorem eq_ce : nextE kb = 0 := by rfl
theorem eq_fa : atA kd 3 7 5 0 10 = 0 := by rfl
theorem eq_he : nextE kf = 0 := by rfl
theorem eq_hok : kh.ok = true := by rfl
theorem eq_up : upF 3 1 = 4 := by rfl
set_option maxHeartbeats 4000000 in
theorem laneKnown (w : World) : Calls Tryz.prog 4 #[] w fun e w' => e = .returned (.bool true) ∧ Below w.heap.size w w' := by
  go_enter Tryz.func4, Tryz.ntmps4
  go_wp2_with fail
  refine (laneKey _).mono ?_
  rintro e v1 ⟨g, he, hg, ho, hb1⟩
  obtain rfl := he
  go_wp2_with fail
  refine (laneNew key1 0 (some ⟨g, 0, none⟩) 32 _ ho.rd).mono ?_
  rintro e v2 ⟨aa, ca, he, hma, hb⟩
  rw [eq_a] at he hma
  obtain rfl : e = .returned (.agg #[.slice aa key1.length ca, .int .i64 0, .int .i64 1, .int .i64 0, .int .u64 0, .int .u64 0, .int .i64 0, .int .i64 0]) := he
  have hB2 := hb1.trans (hb.mono hb1.size)
  have hz2 := hB2.size
  clear hb hb1 ho hg
  go_wp2_with fail
  refine (laneReserve ka aa ca 0 10 (by decide) (by decide) _ fits_a ((hma.below (fresh1 _ _)).rd)).mono ?_
  rintro e v3 ⟨ab, cb, he, hmb, hb⟩
  rw [eq_b] at he hmb
  obtain rfl : e = .returned (.agg #[.slice ab key1.length cb, .int .i64 0, .int .i64 1, .int .i64 0, .int .u64 10, .int .u64 0, .int .i64 0, .int .i64 0]) := he
  have hB3 := (below_push (o := (.cells #[.slice aa key1.length ca, .int .i64 0, .int .i64 1, .int .i64 0, .int .u64 0, .int .u64 0, .int .i64 0, .int .i64 0] 27 (0, 0))) hB2).trans (hb.mono (by simp only [alloc_size]; omega))
  have hz3 : v2.heap.size + 1 ≤ v3.heap.size := by have h := hb.size; simp only [alloc_size] at h; exact h
  have xa : v3.heap[v2.heap.size]? = some (.cells #[.slice aa key1.length ca, .int .i64 0, .int .i64 1, .int .i64 0, .int .u64 0, .int .u64 0, .int .i64 0, .int .i64 0] 27 (0, 0)) := (hb.block (v2.heap.size) (by simp only [alloc_size]; omega)).trans (heap_alloc_new _ _)
  have Xa := Lib.hid xa
  clear xa
  have hra : Rd v3 aa key1 := (hma.below (fresh1 _ _)).rd.on hb
  clear hb
  go_wp2_with fail
  refine (lanePropose kb ab cb _ fits_b ((hmb.below (fresh1 _ _)).rd)).mono ?_
  rintro e v4 ⟨ac, cc, he, hmc, hb⟩
  rw [eq_c] at he hmc
  rw [eq_cg] at he
  rw [eq_ce] at he
  obtain rfl : e = .returned (.tuple #[.agg #[.slice ac key1.length cc, .int .i64 0, .int .i64 1, .int .i64 2, .int .u64 10, .int .u64 0, .int .i64 0, .int .i64 0], .int .i64 2, .int .i64 0]) := he
  have hB4 := (below_push (o := (.cells #[.slice ab key1.length cb, .int .i64 0, .int .i64 1, .int .i64 0, .int .u64 10, .int .u64 0, .int .i64 0, .int .i64 0] 27 (0, 0))) hB3).trans (hb.mono (by simp only [alloc_size]; omega))
  have hz4 : v3.heap.size + 1 ≤ v4.heap.size := by have h := hb.size; simp only [alloc_size] at h; exact h
  have xa : v4.heap[v2.heap.size]? = some (.cells #[.slice aa key1.length ca, .int .i64 0, .int .i64 1, .int .i64 0, .int .u64 0, .int .u64 0, .int .i64 0, .int .i64 0] 27 (0, 0)) := (hb.block (v2.heap.size) (by simp only [alloc_size]; omega)).trans ((alloc_old _ _ _ (by omega)).trans Xa.out)
  clear Xa
  have Xa := Lib.hid xa
  clear xa
  have hra : Rd v4 aa key1 := (hra.on (fresh1 _ _)).on hb
  clear hb
  go_wp2_with fail
  refine (laneOpened kc ac cc 2 0 10 (by decide) (by decide) _ fits_c ((hmc.below (fresh1 _ _)).rd)).mono ?_
  rintro e v5 ⟨ad, cd, he, hmd, hb⟩
  rw [eq_d] at he hmd
  obtain rfl : e = .returned (.agg #[.slice ad key1.length cd, .int .i64 0, .int .i64 2, .int .i64 2, .int .u64 11, .int .u64 10, .int .i64 0, .int .i64 0]) := he
  have hB5 := (below_push (o := (.cells #[.slice ac key1.length cc, .int .i64 0, .int .i64 1, .int .i64 2, .int .u64 10, .int .u64 0, .int .i64 0, .int .i64 0] 27 (0, 0))) hB4).trans (hb.mono (by simp only [alloc_size]; omega))
  have hz5 : v4.heap.size + 1 ≤ v5.heap.size := by have h := hb.size; simp only [alloc_size] at h; exact h
  have xa : v5.heap[v2.heap.size]? = some (.cells #[.slice aa key1.length ca, .int .i64 0, .int .i64 1, .int .i64 0, .int .u64 0, .int .u64 0, .int .i64 0, .int .i64 0] 27 (0, 0)) := (hb.block (v2.heap.size) (by simp only [alloc_size]; omega)).trans ((alloc_old _ _ _ (by omega)).trans Xa.out)
  clear Xa
  have Xa := Lib.hid xa
  clear xa
  have hra : Rd v5 aa key1 := (hra.on (fresh1 _ _)).on hb
  clear hb
  go_wp2_with fail
  refine (laneAnswered kd ad cd 3 7 5 0 10 (by decide) (by decide) (by decide) _ fits_d ((hmd.below (fresh1 _ _)).rd)).mono ?_
  rintro e v6 ⟨af, cf, he, hmf, hb⟩
  rw [eq_f] at he hmf
  rw [eq_fa] at he
  obtain rfl : e = .returned (.tuple #[.agg #[.slice af key1.length cf, .int .i64 0, .int .i64 3, .int .i64 2, .int .u64 10, .int .u64 17, .int .i64 5, .int .i64 0], .int .u64 0]) := he
  have hB6 := (below_push (o := (.cells #[.slice ad key1.length cd, .int .i64 0, .int .i64 2, .int .i64 2, .int .u64 11, .int .u64 10, .int .i64 0, .int .i64 0] 27 (0, 0))) hB5).trans (hb.mono (by simp only [alloc_size]; omega))
  have hz6 : v5.heap.size + 1 ≤ v6.heap.size := by have h := hb.size; simp only [alloc_size] at h; exact h
  have xa : v6.heap[v2.heap.size]? = some (.cells #[.slice aa key1.length ca, .int .i64 0, .int .i64 1, .int .i64 0, .int .u64 0, .int .u64 0, .int .i64 0, .int .i64 0] 27 (0, 0)) := (hb.block (v2.heap.size) (by simp only [alloc_size]; omega)).trans ((alloc_old _ _ _ (by omega)).trans Xa.out)
  clear Xa
  have Xa := Lib.hid xa
  clear xa
  have hra : Rd v6 aa key1 := (hra.on (fresh1 _ _)).on hb
  have xd : v6.heap[v5.heap.size]? = some (.cells #[.slice ad key1.length cd, .int .i64 0, .int .i64 2, .int .i64 2, .int .u64 11, .int .u64 10, .int .i64 0, .int .i64 0] 27 (0, 0)) := (hb.block (v5.heap.size) (by simp only [alloc_size]; omega)).trans (heap_alloc_new _ _)
  have Xd := Lib.hid xd
  clear xd
  have hrd : Rd v6 ad key1 := (hmd.below (fresh1 _ _)).rd.on hb
  clear hb
  go_wp2_with fail
  refine (laneAgain kf af cf _ fits_f ((hmf.below (fresh1 _ _)).rd)).mono ?_
  rintro e v7 ⟨ah, ch, he, hmh, hb⟩
  rw [eq_h] at he hmh
  rw [eq_he] at he
  obtain rfl : e = .returned (.tuple #[.agg #[.slice ah key1.length ch, .int .i64 0, .int .i64 4, .int .i64 2, .int .u64 0, .int .u64 0, .int .i64 5, .int .i64 0], .int .i64 0]) := he
  have hB7 := (below_push (o := (.cells #[.slice af key1.length cf, .int .i64 0, .int .i64 3, .int .i64 2, .int .u64 10, .int .u64 17, .int .i64 5, .int .i64 0] 27 (0, 0))) hB6).trans (hb.mono (by simp only [alloc_size]; omega))
  have hz7 : v6.heap.size + 1 ≤ v7.heap.size := by have h := hb.size; simp only [alloc_size] at h; exact h
  have xa : v7.heap[v2.heap.size]? = some (.cells #[.slice aa key1.length ca, .int .i64 0, .int .i64 1, .int .i64 0, .int .u64 0, .int .u64 0, .int .i64 0, .int .i64 0] 27 (0, 0)) := (hb.block (v2.heap.size) (by simp only [alloc_size]; omega)).trans ((alloc_old _ _ _ (by omega)).trans Xa.out)
  clear Xa
  have Xa := Lib.hid xa
  clear xa
  have hra : Rd v7 aa key1 := (hra.on (fresh1 _ _)).on hb
  have xd : v7.heap[v5.heap.size]? = some (.cells #[.slice ad key1.length cd, .int .i64 0, .int .i64 2, .int .i64 2, .int .u64 11, .int .u64 10, .int .i64 0, .int .i64 0] 27 (0, 0)) := (hb.block (v5.heap.size) (by simp only [alloc_size]; omega)).trans ((alloc_old _ _ _ (by omega)).trans Xd.out)
  clear Xd
  have Xd := Lib.hid xd
  clear xd
  have hrd : Rd v7 ad key1 := (hrd.on (fresh1 _ _)).on hb
  have xf : v7.heap[v6.heap.size]? = some (.cells #[.slice af key1.length cf, .int .i64 0, .int .i64 3, .int .i64 2, .int .u64 10, .int .u64 17, .int .i64 5, .int .i64 0] 27 (0, 0)) := (hb.block (v6.heap.size) (by simp only [alloc_size]; omega)).trans (heap_alloc_new _ _)
  have Xf := Lib.hid xf
  clear xf
  have hrf : Rd v7 af key1 := (hmf.below (fresh1 _ _)).rd.on hb
  clear hb
  have xf := Xf.out
  have q0 : v7.cell? ⟨v6.heap.size, 0, none⟩ = some (.slice af key1.length cf) := cell_of_row v7 (v6.heap.size) 0 _ _ _ xf
  have q1 : v7.cell? ⟨v6.heap.size, 1, none⟩ = some (.int .i64 0) := cell_of_row v7 (v6.heap.size) 1 _ _ _ xf
  have q2 : v7.cell? ⟨v6.heap.size, 2, none⟩ = some (.int .i64 3) := cell_of_row v7 (v6.heap.size) 2 _ _ _ xf
  have q3 : v7.cell? ⟨v6.heap.size, 3, none⟩ = some (.int .i64 2) := cell_of_row v7 (v6.heap.size) 3 _ _ _ xf
  have q4 : v7.cell? ⟨v6.heap.size, 4, none⟩ = some (.int .u64 10) := cell_of_row v7 (v6.heap.size) 4 _ _ _ xf
  have q5 : v7.cell? ⟨v6.heap.size, 5, none⟩ = some (.int .u64 17) := cell_of_row v7 (v6.heap.size) 5 _ _ _ xf
  have q6 : v7.cell? ⟨v6.heap.size, 6, none⟩ = some (.int .i64 5) := cell_of_row v7 (v6.heap.size) 6 _ _ _ xf
  have q7 : v7.cell? ⟨v6.heap.size, 7, none⟩ = some (.int .i64 0) := cell_of_row v7 (v6.heap.size) 7 _ _ _ xf
  have qf (i : Nat) : v7.frozen? ⟨v6.heap.size, i, none⟩ = false := frozen_of_row v7 (v6.heap.size) i _ _ xf
  clear xf
  have hltf : v6.heap.size < v7.heap.size := by omega
  have hrf7 := hrf.on (fresh1 v7 (.cells #[.slice ah key1.length ch, .int .i64 0, .int .i64 4, .int .i64 2, .int .u64 0, .int .u64 0, .int .i64 5, .int .i64 0] 27 (0, 0)))
  go_wp2_with fail
  refine (laneRaise kf af cf 17 10 (by decide) (by decide) _ fits_f hrf7).mono ?_
  rintro e v8 ⟨aj, cj, he, hmj, hb⟩
  rw [eq_j] at he hmj
  obtain rfl : e = .returned (.agg #[.slice aj key1.length cj, .int .i64 0, .int .i64 3, .int .i64 2, .int .u64 10, .int .u64 27, .int .i64 5, .int .i64 0]) := he
  have hB8 := (below_push (o := (.cells #[.slice ah key1.length ch, .int .i64 0, .int .i64 4, .int .i64 2, .int .u64 0, .int .u64 0, .int .i64 5, .int .i64 0] 27 (0, 0))) hB7).trans (hb.mono (by simp only [alloc_size]; omega))
  have hz8 : v7.heap.size + 1 ≤ v8.heap.size := by have h := hb.size; simp only [alloc_size] at h; exact h
  have xa : v8.heap[v2.heap.size]? = some (.cells #[.slice aa key1.length ca, .int .i64 0, .int .i64 1, .int .i64 0, .int .u64 0, .int .u64 0, .int .i64 0, .int .i64 0] 27 (0, 0)) := (hb.block (v2.heap.size) (by simp only [alloc_size]; omega)).trans ((alloc_old _ _ _ (by omega)).trans Xa.out)
  clear Xa
  have Xa := Lib.hid xa
  clear xa
  have hra : Rd v8 aa key1 := (hra.on (fresh1 _ _)).on hb
  have xd : v8.heap[v5.heap.size]? = some (.cells #[.slice ad key1.length cd, .int .i64 0, .int .i64 2, .int .i64 2, .int .u64 11, .int .u64 10, .int .i64 0, .int .i64 0] 27 (0, 0)) := (hb.block (v5.heap.size) (by simp only [alloc_size]; omega)).trans ((alloc_old _ _ _ (by omega)).trans Xd.out)
  clear Xd
  have Xd := Lib.hid xd
  clear xd
  have hrd : Rd v8 ad key1 := (hrd.on (fresh1 _ _)).on hb
  have xf : v8.heap[v6.heap.size]? = some (.cells #[.slice af key1.length cf, .int .i64 0, .int .i64 3, .int .i64 2, .int .u64 10, .int .u64 17, .int .i64 5, .int .i64 0] 27 (0, 0)) := (hb.block (v6.heap.size) (by simp only [alloc_size]; omega)).trans ((alloc_old _ _ _ (by omega)).trans Xf.out)
  clear Xf
  have Xf := Lib.hid xf
  clear xf
  have hrf : Rd v8 af key1 := (hrf.on (fresh1 _ _)).on hb
  have xh : v8.heap[v7.heap.size]? = some (.cells #[.slice ah key1.length ch, .int .i64 0, .int .i64 4, .int .i64 2, .int .u64 0, .int .u64 0, .int .i64 5, .int .i64 0] 27 (0, 0)) := (hb.block (v7.heap.size) (by simp only [alloc_size]; omega)).trans (heap_alloc_new _ _)
  have Xh := Lib.hid xh
  clear xh
  have hrh : Rd v8 ah key1 := (hmh.below (fresh1 _ _)).rd.on hb
  clear hb
  clear q0 q1 q2 q3 q4 q5 q6 q7 qf
  clear hrf7
  go_wp2_with fail
  generalize hW : v8.alloc (.cells #[.slice aj key1.length cj, .int .i64 0, .int .i64 3, .int .i64 2, .int .u64 10, .int .u64 27, .int .i64 5, .int .i64 0] 27 (0, 0)) = U0
  have hBU : Below w.heap.size w U0 := by rw [← hW]; exact below_push hB8
  have hzU : U0.heap.size = v8.heap.size + 1 := by rw [← hW]; exact alloc_size _ _
  have xa : U0.heap[v2.heap.size]? = some (.cells #[.slice aa key1.length ca, .int .i64 0, .int .i64 1, .int .i64 0, .int .u64 0, .int .u64 0, .int .i64 0, .int .i64 0] 27 (0, 0)) := by rw [← hW]; exact (alloc_old _ _ _ (by omega)).trans Xa.out
  have hra0 : Rd U0 aa key1 := by rw [← hW]; exact hra.on (fresh1 _ _)
  clear Xa hra
  have Xa := Lib.hid xa
  clear xa
  have xd : U0.heap[v5.heap.size]? = some (.cells #[.slice ad key1.length cd, .int .i64 0, .int .i64 2, .int .i64 2, .int .u64 11, .int .u64 10, .int .i64 0, .int .i64 0] 27 (0, 0)) := by rw [← hW]; exact (alloc_old _ _ _ (by omega)).trans Xd.out
  have hrd0 : Rd U0 ad key1 := by rw [← hW]; exact hrd.on (fresh1 _ _)
  clear Xd hrd
  have Xd := Lib.hid xd
  clear xd
  have xf : U0.heap[v6.heap.size]? = some (.cells #[.slice af key1.length cf, .int .i64 0, .int .i64 3, .int .i64 2, .int .u64 10, .int .u64 17, .int .i64 5, .int .i64 0] 27 (0, 0)) := by rw [← hW]; exact (alloc_old _ _ _ (by omega)).trans Xf.out
  have hrf0 : Rd U0 af key1 := by rw [← hW]; exact hrf.on (fresh1 _ _)
  clear Xf hrf
  have Xf := Lib.hid xf
  clear xf
  have xh : U0.heap[v7.heap.size]? = some (.cells #[.slice ah key1.length ch, .int .i64 0, .int .i64 4, .int .i64 2, .int .u64 0, .int .u64 0, .int .i64 5, .int .i64 0] 27 (0, 0)) := by rw [← hW]; exact (alloc_old _ _ _ (by omega)).trans Xh.out
  have hrh0 : Rd U0 ah key1 := by rw [← hW]; exact hrh.on (fresh1 _ _)
  clear Xh hrh
  have Xh := Lib.hid xh
  clear xh
  have xj : U0.heap[v8.heap.size]? = some (.cells #[.slice aj key1.length cj, .int .i64 0, .int .i64 3, .int .i64 2, .int .u64 10, .int .u64 27, .int .i64 5, .int .i64 0] 27 (0, 0)) := by rw [← hW]; exact heap_alloc_new _ _
  have Xj := Lib.hid xj
  clear xj hW hma hmb hmc hmd hmf hmh hmj hB2 hB3 hB4 hB5 hB6 hB7 hB8
  have hj0 : v8.heap.size < U0.heap.size := by omega
  have xa := Xa.out
  have q0 : U0.cell? ⟨v2.heap.size, 0, none⟩ = some (.slice aa key1.length ca) := cell_of_row U0 (v2.heap.size) 0 _ _ _ xa
  have q1 : U0.cell? ⟨v2.heap.size, 1, none⟩ = some (.int .i64 0) := cell_of_row U0 (v2.heap.size) 1 _ _ _ xa
  have q2 : U0.cell? ⟨v2.heap.size, 2, none⟩ = some (.int .i64 1) := cell_of_row U0 (v2.heap.size) 2 _ _ _ xa
  have q3 : U0.cell? ⟨v2.heap.size, 3, none⟩ = some (.int .i64 0) := cell_of_row U0 (v2.heap.size) 3 _ _ _ xa
  have q4 : U0.cell? ⟨v2.heap.size, 4, none⟩ = some (.int .u64 0) := cell_of_row U0 (v2.heap.size) 4 _ _ _ xa
  have q5 : U0.cell? ⟨v2.heap.size, 5, none⟩ = some (.int .u64 0) := cell_of_row U0 (v2.heap.size) 5 _ _ _ xa
  have q6 : U0.cell? ⟨v2.heap.size, 6, none⟩ = some (.int .i64 0) := cell_of_row U0 (v2.heap.size) 6 _ _ _ xa
  have q7 : U0.cell? ⟨v2.heap.size, 7, none⟩ = some (.int .i64 0) := cell_of_row U0 (v2.heap.size) 7 _ _ _ xa
  have qf (i : Nat) : U0.frozen? ⟨v2.heap.size, i, none⟩ = false := frozen_of_row U0 (v2.heap.size) i _ _ xa
  clear xa
  go_region_held3 (fun w' => w'.cell? ⟨v2.heap.size, 0, none⟩ = some (.slice aa key1.length ca) ∧ w'.cell? ⟨v2.heap.size, 1, none⟩ = some (.int .i64 0) ∧ w'.cell? ⟨v2.heap.size, 2, none⟩ = some (.int .i64 1) ∧ w'.cell? ⟨v2.heap.size, 3, none⟩ = some (.int .i64 0) ∧ w'.cell? ⟨v2.heap.size, 4, none⟩ = some (.int .u64 0) ∧ w'.cell? ⟨v2.heap.size, 5, none⟩ = some (.int .u64 0) ∧ w'.cell? ⟨v2.heap.size, 6, none⟩ = some (.int .i64 0) ∧ w'.cell? ⟨v2.heap.size, 7, none⟩ = some (.int .i64 0)) (((try simp only [cell_drew]); (refine ⟨?_, ?_, ?_, ?_, ?_, ?_, ?_, ?_⟩ <;> with_reducible assumption))) ((first | (go_at_call 16; refine (laneKey U0.drew).mono ?_; rintro e V0 ⟨g0, he, hg0, ho, hb⟩; obtain rfl := he; have hs0 : U0.heap.size ≤ V0.heap.size := hb.size; have d0 : V0.cell? ⟨v2.heap.size, 0, none⟩ = some (.slice aa key1.length ca) := (hb.cell (by show v2.heap.size < _; first | (show _ < U0.heap.size; omega) | omega)).trans q0; have d1 : V0.cell? ⟨v2.heap.size, 1, none⟩ = some (.int .i64 0) := (hb.cell (by show v2.heap.size < _; first | (show _ < U0.heap.size; omega) | omega)).trans q1; have d2 : V0.cell? ⟨v2.heap.size, 2, none⟩ = some (.int .i64 1) := (hb.cell (by show v2.heap.size < _; first | (show _ < U0.heap.size; omega) | omega)).trans q2; have d3 : V0.cell? ⟨v2.heap.size, 3, none⟩ = some (.int .i64 0) := (hb.cell (by show v2.heap.size < _; first | (show _ < U0.heap.size; omega) | omega)).trans q3; have d4 : V0.cell? ⟨v2.heap.size, 4, none⟩ = some (.int .u64 0) := (hb.cell (by show v2.heap.size < _; first | (show _ < U0.heap.size; omega) | omega)).trans q4; have d5 : V0.cell? ⟨v2.heap.size, 5, none⟩ = some (.int .u64 0) := (hb.cell (by show v2.heap.size < _; first | (show _ < U0.heap.size; omega) | omega)).trans q5; have d6 : V0.cell? ⟨v2.heap.size, 6, none⟩ = some (.int .i64 0) := (hb.cell (by show v2.heap.size < _; first | (show _ < U0.heap.size; omega) | omega)).trans q6; have d7 : V0.cell? ⟨v2.heap.size, 7, none⟩ = some (.int .i64 0) := (hb.cell (by show v2.heap.size < _; first | (show _ < U0.heap.size; omega) | omega)).trans q7) | (go_at_call 17; refine (sameLane ka ka aa (some ⟨g0, 0, none⟩) ca 32 V0 (by decide) (by decide) (Rd.on (w := U0.drew) hra0 hb) ho.rd).mono ?_; rintro e U1 ⟨he, hb2⟩; rw [sameL_refl] at he; subst he; have hs2 := hb2.size; have e0 : U1.cell? ⟨v2.heap.size, 0, none⟩ = some (.slice aa key1.length ca) := (hb2.cell (by show v2.heap.size < _; first | (show _ < U0.heap.size; omega) | omega)).trans d0; have e1 : U1.cell? ⟨v2.heap.size, 1, none⟩ = some (.int .i64 0) := (hb2.cell (by show v2.heap.size < _; first | (show _ < U0.heap.size; omega) | omega)).trans d1; have e2 : U1.cell? ⟨v2.heap.size, 2, none⟩ = some (.int .i64 1) := (hb2.cell (by show v2.heap.size < _; first | (show _ < U0.heap.size; omega) | omega)).trans d2; have e3 : U1.cell? ⟨v2.heap.size, 3, none⟩ = some (.int .i64 0) := (hb2.cell (by show v2.heap.size < _; first | (show _ < U0.heap.size; omega) | omega)).trans d3; have e4 : U1.cell? ⟨v2.heap.size, 4, none⟩ = some (.int .u64 0) := (hb2.cell (by show v2.heap.size < _; first | (show _ < U0.heap.size; omega) | omega)).trans d4; have e5 : U1.cell? ⟨v2.heap.size, 5, none⟩ = some (.int .u64 0) := (hb2.cell (by show v2.heap.size < _; first | (show _ < U0.heap.size; omega) | omega)).trans d5; have e6 : U1.cell? ⟨v2.heap.size, 6, none⟩ = some (.int .i64 0) := (hb2.cell (by show v2.heap.size < _; first | (show _ < U0.heap.size; omega) | omega)).trans d6; have e7 : U1.cell? ⟨v2.heap.size, 7, none⟩ = some (.int .i64 0) := (hb2.cell (by show v2.heap.size < _; first | (show _ < U0.heap.size; omega) | omega)).trans d7)))
  clear q0 d0 e0 q1 d1 e1 q2 d2 e2 q3 d3 e3 q4 d4 e4 q5 d5 e5 q6 d6 e6 q7 d7 e7 qf
  have hBU : Below w.heap.size w U1 := (hBU.drew.trans (hb.mono (by have := hBU.size; exact this))).trans (hb2.mono (by have := hBU.size; omega))
  have xd : U1.heap[v5.heap.size]? = some (.cells #[.slice ad key1.length cd, .int .i64 0, .int .i64 2, .int .i64 2, .int .u64 11, .int .u64 10, .int .i64 0, .int .i64 0] 27 (0, 0)) := (hb2.block (v5.heap.size) (by omega)).trans ((hb.block (v5.heap.size) (by show _ < U0.heap.size; omega)).trans Xd.out)
  clear Xd
  have Xd := Lib.hid xd
  clear xd
  have hrd1 : Rd U1 ad key1 := (Rd.on (w := U0.drew) hrd0 hb).on hb2
  clear hrd0
  have xf : U1.heap[v6.heap.size]? = some (.cells #[.slice af key1.length cf, .int .i64 0, .int .i64 3, .int .i64 2, .int .u64 10, .int .u64 17, .int .i64 5, .int .i64 0] 27 (0, 0)) := (hb2.block (v6.heap.size) (by omega)).trans ((hb.block (v6.heap.size) (by show _ < U0.heap.size; omega)).trans Xf.out)
  clear Xf
  have Xf := Lib.hid xf
  clear xf
  have hrf1 : Rd U1 af key1 := (Rd.on (w := U0.drew) hrf0 hb).on hb2
  clear hrf0
  have xh : U1.heap[v7.heap.size]? = some (.cells #[.slice ah key1.length ch, .int .i64 0, .int .i64 4, .int .i64 2, .int .u64 0, .int .u64 0, .int .i64 5, .int .i64 0] 27 (0, 0)) := (hb2.block (v7.heap.size) (by omega)).trans ((hb.block (v7.heap.size) (by show _ < U0.heap.size; omega)).trans Xh.out)
  clear Xh
  have Xh := Lib.hid xh
  clear xh
  have hrh1 : Rd U1 ah key1 := (Rd.on (w := U0.drew) hrh0 hb).on hb2
  clear hrh0
  have xj : U1.heap[v8.heap.size]? = some (.cells #[.slice aj key1.length cj, .int .i64 0, .int .i64 3, .int .i64 2, .int .u64 10, .int .u64 27, .int .i64 5, .int .i64 0] 27 (0, 0)) := (hb2.block (v8.heap.size) (by omega)).trans ((hb.block (v8.heap.size) (by show _ < U0.heap.size; omega)).trans Xj.out)
  clear Xj
  have Xj := Lib.hid xj
  clear xj
  have hj1 : v8.heap.size < U1.heap.size := by omega
  clear hb hb2 ho hra0
  go_wp2_with fail
  have xd := Xd.out
  have q0 : U1.cell? ⟨v5.heap.size, 0, none⟩ = some (.slice ad key1.length cd) := cell_of_row U1 (v5.heap.size) 0 _ _ _ xd
  have q1 : U1.cell? ⟨v5.heap.size, 1, none⟩ = some (.int .i64 0) := cell_of_row U1 (v5.heap.size) 1 _ _ _ xd
  have q2 : U1.cell? ⟨v5.heap.size, 2, none⟩ = some (.int .i64 2) := cell_of_row U1 (v5.heap.size) 2 _ _ _ xd
  have q3 : U1.cell? ⟨v5.heap.size, 3, none⟩ = some (.int .i64 2) := cell_of_row U1 (v5.heap.size) 3 _ _ _ xd
  have q4 : U1.cell? ⟨v5.heap.size, 4, none⟩ = some (.int .u64 11) := cell_of_row U1 (v5.heap.size) 4 _ _ _ xd
  have q5 : U1.cell? ⟨v5.heap.size, 5, none⟩ = some (.int .u64 10) := cell_of_row U1 (v5.heap.size) 5 _ _ _ xd
  have q6 : U1.cell? ⟨v5.heap.size, 6, none⟩ = some (.int .i64 0) := cell_of_row U1 (v5.heap.size) 6 _ _ _ xd
  have q7 : U1.cell? ⟨v5.heap.size, 7, none⟩ = some (.int .i64 0) := cell_of_row U1 (v5.heap.size) 7 _ _ _ xd
  have qf (i : Nat) : U1.frozen? ⟨v5.heap.size, i, none⟩ = false := frozen_of_row U1 (v5.heap.size) i _ _ xd
  clear xd
  go_region_held3 (fun w' => w'.cell? ⟨v5.heap.size, 0, none⟩ = some (.slice ad key1.length cd) ∧ w'.cell? ⟨v5.heap.size, 1, none⟩ = some (.int .i64 0) ∧ w'.cell? ⟨v5.heap.size, 2, none⟩ = some (.int .i64 2) ∧ w'.cell? ⟨v5.heap.size, 3, none⟩ = some (.int .i64 2) ∧ w'.cell? ⟨v5.heap.size, 4, none⟩ = some (.int .u64 11) ∧ w'.cell? ⟨v5.heap.size, 5, none⟩ = some (.int .u64 10) ∧ w'.cell? ⟨v5.heap.size, 6, none⟩ = some (.int .i64 0) ∧ w'.cell? ⟨v5.heap.size, 7, none⟩ = some (.int .i64 0)) (((try simp only [cell_drew]); (refine ⟨?_, ?_, ?_, ?_, ?_, ?_, ?_, ?_⟩ <;> with_reducible assumption))) ((first | (go_at_call 16; refine (laneKey U1.drew).mono ?_; rintro e V1 ⟨g1, he, hg1, ho, hb⟩; obtain rfl := he; have hs1 : U1.heap.size ≤ V1.heap.size := hb.size; have d0 : V1.cell? ⟨v5.heap.size, 0, none⟩ = some (.slice ad key1.length cd) := (hb.cell (by show v5.heap.size < _; first | (show _ < U1.heap.size; omega) | omega)).trans q0; have d1 : V1.cell? ⟨v5.heap.size, 1, none⟩ = some (.int .i64 0) := (hb.cell (by show v5.heap.size < _; first | (show _ < U1.heap.size; omega) | omega)).trans q1; have d2 : V1.cell? ⟨v5.heap.size, 2, none⟩ = some (.int .i64 2) := (hb.cell (by show v5.heap.size < _; first | (show _ < U1.heap.size; omega) | omega)).trans q2; have d3 : V1.cell? ⟨v5.heap.size, 3, none⟩ = some (.int .i64 2) := (hb.cell (by show v5.heap.size < _; first | (show _ < U1.heap.size; omega) | omega)).trans q3; have d4 : V1.cell? ⟨v5.heap.size, 4, none⟩ = some (.int .u64 11) := (hb.cell (by show v5.heap.size < _; first | (show _ < U1.heap.size; omega) | omega)).trans q4; have d5 : V1.cell? ⟨v5.heap.size, 5, none⟩ = some (.int .u64 10) := (hb.cell (by show v5.heap.size < _; first | (show _ < U1.heap.size; omega) | omega)).trans q5; have d6 : V1.cell? ⟨v5.heap.size, 6, none⟩ = some (.int .i64 0) := (hb.cell (by show v5.heap.size < _; first | (show _ < U1.heap.size; omega) | omega)).trans q6; have d7 : V1.cell? ⟨v5.heap.size, 7, none⟩ = some (.int .i64 0) := (hb.cell (by show v5.heap.size < _; first | (show _ < U1.heap.size; omega) | omega)).trans q7) | (go_at_call 17; refine (sameLane kd kd ad (some ⟨g1, 0, none⟩) cd 32 V1 (by decide) (by decide) (Rd.on (w := U1.drew) hrd1 hb) ho.rd).mono ?_; rintro e U2 ⟨he, hb2⟩; rw [sameL_refl] at he; subst he; have hs2 := hb2.size; have e0 : U2.cell? ⟨v5.heap.size, 0, none⟩ = some (.slice ad key1.length cd) := (hb2.cell (by show v5.heap.size < _; first | (show _ < U1.heap.size; omega) | omega)).trans d0; have e1 : U2.cell? ⟨v5.heap.size, 1, none⟩ = some (.int .i64 0) := (hb2.cell (by show v5.heap.size < _; first | (show _ < U1.heap.size; omega) | omega)).trans d1; have e2 : U2.cell? ⟨v5.heap.size, 2, none⟩ = some (.int .i64 2) := (hb2.cell (by show v5.heap.size < _; first | (show _ < U1.heap.size; omega) | omega)).trans d2; have e3 : U2.cell? ⟨v5.heap.size, 3, none⟩ = some (.int .i64 2) := (hb2.cell (by show v5.heap.size < _; first | (show _ < U1.heap.size; omega) | omega)).trans d3; have e4 : U2.cell? ⟨v5.heap.size, 4, none⟩ = some (.int .u64 11) := (hb2.cell (by show v5.heap.size < _; first | (show _ < U1.heap.size; omega) | omega)).trans d4; have e5 : U2.cell? ⟨v5.heap.size, 5, none⟩ = some (.int .u64 10) := (hb2.cell (by show v5.heap.size < _; first | (show _ < U1.heap.size; omega) | omega)).trans d5; have e6 : U2.cell? ⟨v5.heap.size, 6, none⟩ = some (.int .i64 0) := (hb2.cell (by show v5.heap.size < _; first | (show _ < U1.heap.size; omega) | omega)).trans d6; have e7 : U2.cell? ⟨v5.heap.size, 7, none⟩ = some (.int .i64 0) := (hb2.cell (by show v5.heap.size < _; first | (show _ < U1.heap.size; omega) | omega)).trans d7)))
  clear q0 d0 e0 q1 d1 e1 q2 d2 e2 q3 d3 e3 q4 d4 e4 q5 d5 e5 q6 d6 e6 q7 d7 e7 qf
  have hBU : Below w.heap.size w U2 := (hBU.drew.trans (hb.mono (by have := hBU.size; exact this))).trans (hb2.mono (by have := hBU.size; omega))
  have xf : U2.heap[v6.heap.size]? = some (.cells #[.slice af key1.length cf, .int .i64 0, .int .i64 3, .int .i64 2, .int .u64 10, .int .u64 17, .int .i64 5, .int .i64 0] 27 (0, 0)) := (hb2.block (v6.heap.size) (by omega)).trans ((hb.block (v6.heap.size) (by show _ < U1.heap.size; omega)).trans Xf.out)
  clear Xf
  have Xf := Lib.hid xf
  clear xf
  have hrf2 : Rd U2 af key1 := (Rd.on (w := U1.drew) hrf1 hb).on hb2
  clear hrf1
  have xh : U2.heap[v7.heap.size]? = some (.cells #[.slice ah key1.length ch, .int .i64 0, .int .i64 4, .int .i64 2, .int .u64 0, .int .u64 0, .int .i64 5, .int .i64 0] 27 (0, 0)) := (hb2.block (v7.heap.size) (by omega)).trans ((hb.block (v7.heap.size) (by show _ < U1.heap.size; omega)).trans Xh.out)
  clear Xh
  have Xh := Lib.hid xh
  clear xh
  have hrh2 : Rd U2 ah key1 := (Rd.on (w := U1.drew) hrh1 hb).on hb2
  clear hrh1
  have xj : U2.heap[v8.heap.size]? = some (.cells #[.slice aj key1.length cj, .int .i64 0, .int .i64 3, .int .i64 2, .int .u64 10, .int .u64 27, .int .i64 5, .int .i64 0] 27 (0, 0)) := (hb2.block (v8.heap.size) (by omega)).trans ((hb.block (v8.heap.size) (by show _ < U1.heap.size; omega)).trans Xj.out)
  clear Xj
  have Xj := Lib.hid xj
  clear xj
  have hj2 : v8.heap.size < U2.heap.size := by omega
  clear hb hb2 ho hrd1
  go_wp2_with fail
  have xf := Xf.out
  have q0 : U2.cell? ⟨v6.heap.size, 0, none⟩ = some (.slice af key1.length cf) := cell_of_row U2 (v6.heap.size) 0 _ _ _ xf
  have q1 : U2.cell? ⟨v6.heap.size, 1, none⟩ = some (.int .i64 0) := cell_of_row U2 (v6.heap.size) 1 _ _ _ xf
  have q2 : U2.cell? ⟨v6.heap.size, 2, none⟩ = some (.int .i64 3) := cell_of_row U2 (v6.heap.size) 2 _ _ _ xf
  have q3 : U2.cell? ⟨v6.heap.size, 3, none⟩ = some (.int .i64 2) := cell_of_row U2 (v6.heap.size) 3 _ _ _ xf
  have q4 : U2.cell? ⟨v6.heap.size, 4, none⟩ = some (.int .u64 10) := cell_of_row U2 (v6.heap.size) 4 _ _ _ xf
  have q5 : U2.cell? ⟨v6.heap.size, 5, none⟩ = some (.int .u64 17) := cell_of_row U2 (v6.heap.size) 5 _ _ _ xf
  have q6 : U2.cell? ⟨v6.heap.size, 6, none⟩ = some (.int .i64 5) := cell_of_row U2 (v6.heap.size) 6 _ _ _ xf
  have q7 : U2.cell? ⟨v6.heap.size, 7, none⟩ = some (.int .i64 0) := cell_of_row U2 (v6.heap.size) 7 _ _ _ xf
  have qf (i : Nat) : U2.frozen? ⟨v6.heap.size, i, none⟩ = false := frozen_of_row U2 (v6.heap.size) i _ _ xf
  clear xf
  go_region_held3 (fun w' => w'.cell? ⟨v6.heap.size, 0, none⟩ = some (.slice af key1.length cf) ∧ w'.cell? ⟨v6.heap.size, 1, none⟩ = some (.int .i64 0) ∧ w'.cell? ⟨v6.heap.size, 2, none⟩ = some (.int .i64 3) ∧ w'.cell? ⟨v6.heap.size, 3, none⟩ = some (.int .i64 2) ∧ w'.cell? ⟨v6.heap.size, 4, none⟩ = some (.int .u64 10) ∧ w'.cell? ⟨v6.heap.size, 5, none⟩ = some (.int .u64 17) ∧ w'.cell? ⟨v6.heap.size, 6, none⟩ = some (.int .i64 5) ∧ w'.cell? ⟨v6.heap.size, 7, none⟩ = some (.int .i64 0)) (((try simp only [cell_drew]); (refine ⟨?_, ?_, ?_, ?_, ?_, ?_, ?_, ?_⟩ <;> with_reducible assumption))) ((first | (go_at_call 16; refine (laneKey U2.drew).mono ?_; rintro e V2 ⟨g2, he, hg2, ho, hb⟩; obtain rfl := he; have hs2 : U2.heap.size ≤ V2.heap.size := hb.size; have d0 : V2.cell? ⟨v6.heap.size, 0, none⟩ = some (.slice af key1.length cf) := (hb.cell (by show v6.heap.size < _; first | (show _ < U2.heap.size; omega) | omega)).trans q0; have d1 : V2.cell? ⟨v6.heap.size, 1, none⟩ = some (.int .i64 0) := (hb.cell (by show v6.heap.size < _; first | (show _ < U2.heap.size; omega) | omega)).trans q1; have d2 : V2.cell? ⟨v6.heap.size, 2, none⟩ = some (.int .i64 3) := (hb.cell (by show v6.heap.size < _; first | (show _ < U2.heap.size; omega) | omega)).trans q2; have d3 : V2.cell? ⟨v6.heap.size, 3, none⟩ = some (.int .i64 2) := (hb.cell (by show v6.heap.size < _; first | (show _ < U2.heap.size; omega) | omega)).trans q3; have d4 : V2.cell? ⟨v6.heap.size, 4, none⟩ = some (.int .u64 10) := (hb.cell (by show v6.heap.size < _; first | (show _ < U2.heap.size; omega) | omega)).trans q4; have d5 : V2.cell? ⟨v6.heap.size, 5, none⟩ = some (.int .u64 17) := (hb.cell (by show v6.heap.size < _; first | (show _ < U2.heap.size; omega) | omega)).trans q5; have d6 : V2.cell? ⟨v6.heap.size, 6, none⟩ = some (.int .i64 5) := (hb.cell (by show v6.heap.size < _; first | (show _ < U2.heap.size; omega) | omega)).trans q6; have d7 : V2.cell? ⟨v6.heap.size, 7, none⟩ = some (.int .i64 0) := (hb.cell (by show v6.heap.size < _; first | (show _ < U2.heap.size; omega) | omega)).trans q7) | (go_at_call 17; refine (sameLane kf kf af (some ⟨g2, 0, none⟩) cf 32 V2 (by decide) (by decide) (Rd.on (w := U2.drew) hrf2 hb) ho.rd).mono ?_; rintro e U3 ⟨he, hb2⟩; rw [sameL_refl] at he; subst he; have hs2 := hb2.size; have e0 : U3.cell? ⟨v6.heap.size, 0, none⟩ = some (.slice af key1.length cf) := (hb2.cell (by show v6.heap.size < _; first | (show _ < U2.heap.size; omega) | omega)).trans d0; have e1 : U3.cell? ⟨v6.heap.size, 1, none⟩ = some (.int .i64 0) := (hb2.cell (by show v6.heap.size < _; first | (show _ < U2.heap.size; omega) | omega)).trans d1; have e2 : U3.cell? ⟨v6.heap.size, 2, none⟩ = some (.int .i64 3) := (hb2.cell (by show v6.heap.size < _; first | (show _ < U2.heap.size; omega) | omega)).trans d2; have e3 : U3.cell? ⟨v6.heap.size, 3, none⟩ = some (.int .i64 2) := (hb2.cell (by show v6.heap.size < _; first | (show _ < U2.heap.size; omega) | omega)).trans d3; have e4 : U3.cell? ⟨v6.heap.size, 4, none⟩ = some (.int .u64 10) := (hb2.cell (by show v6.heap.size < _; first | (show _ < U2.heap.size; omega) | omega)).trans d4; have e5 : U3.cell? ⟨v6.heap.size, 5, none⟩ = some (.int .u64 17) := (hb2.cell (by show v6.heap.size < _; first | (show _ < U2.heap.size; omega) | omega)).trans d5; have e6 : U3.cell? ⟨v6.heap.size, 6, none⟩ = some (.int .i64 5) := (hb2.cell (by show v6.heap.size < _; first | (show _ < U2.heap.size; omega) | omega)).trans d6; have e7 : U3.cell? ⟨v6.heap.size, 7, none⟩ = some (.int .i64 0) := (hb2.cell (by show v6.heap.size < _; first | (show _ < U2.heap.size; omega) | omega)).trans d7)))
  clear q0 d0 e0 q1 d1 e1 q2 d2 e2 q3 d3 e3 q4 d4 e4 q5 d5 e5 q6 d6 e6 q7 d7 e7 qf
  have hBU : Below w.heap.size w U3 := (hBU.drew.trans (hb.mono (by have := hBU.size; exact this))).trans (hb2.mono (by have := hBU.size; omega))
  have xh : U3.heap[v7.heap.size]? = some (.cells #[.slice ah key1.length ch, .int .i64 0, .int .i64 4, .int .i64 2, .int .u64 0, .int .u64 0, .int .i64 5, .int .i64 0] 27 (0, 0)) := (hb2.block (v7.heap.size) (by omega)).trans ((hb.block (v7.heap.size) (by show _ < U2.heap.size; omega)).trans Xh.out)
  clear Xh
  have Xh := Lib.hid xh
  clear xh
  have hrh3 : Rd U3 ah key1 := (Rd.on (w := U2.drew) hrh2 hb).on hb2
  clear hrh2
  have xj : U3.heap[v8.heap.size]? = some (.cells #[.slice aj key1.length cj, .int .i64 0, .int .i64 3, .int .i64 2, .int .u64 10, .int .u64 27, .int .i64 5, .int .i64 0] 27 (0, 0)) := (hb2.block (v8.heap.size) (by omega)).trans ((hb.block (v8.heap.size) (by show _ < U2.heap.size; omega)).trans Xj.out)
  clear Xj
  have Xj := Lib.hid xj
  clear xj
  have hj3 : v8.heap.size < U3.heap.size := by omega
  clear hb hb2 ho hrf2
  go_wp2_with fail
  have xh := Xh.out
  have q0 : U3.cell? ⟨v7.heap.size, 0, none⟩ = some (.slice ah key1.length ch) := cell_of_row U3 (v7.heap.size) 0 _ _ _ xh
  have q1 : U3.cell? ⟨v7.heap.size, 1, none⟩ = some (.int .i64 0) := cell_of_row U3 (v7.heap.size) 1 _ _ _ xh
  have q2 : U3.cell? ⟨v7.heap.size, 2, none⟩ = some (.int .i64 4) := cell_of_row U3 (v7.heap.size) 2 _ _ _ xh
  have q3 : U3.cell? ⟨v7.heap.size, 3, none⟩ = some (.int .i64 2) := cell_of_row U3 (v7.heap.size) 3 _ _ _ xh
  have q4 : U3.cell? ⟨v7.heap.size, 4, none⟩ = some (.int .u64 0) := cell_of_row U3 (v7.heap.size) 4 _ _ _ xh
  have q5 : U3.cell? ⟨v7.heap.size, 5, none⟩ = some (.int .u64 0) := cell_of_row U3 (v7.heap.size) 5 _ _ _ xh
  have q6 : U3.cell? ⟨v7.heap.size, 6, none⟩ = some (.int .i64 5) := cell_of_row U3 (v7.heap.size) 6 _ _ _ xh
  have q7 : U3.cell? ⟨v7.heap.size, 7, none⟩ = some (.int .i64 0) := cell_of_row U3 (v7.heap.size) 7 _ _ _ xh
  have qf (i : Nat) : U3.frozen? ⟨v7.heap.size, i, none⟩ = false := frozen_of_row U3 (v7.heap.size) i _ _ xh
  clear xh
  go_region_held3 (fun w' => w'.cell? ⟨v7.heap.size, 0, none⟩ = some (.slice ah key1.length ch) ∧ w'.cell? ⟨v7.heap.size, 1, none⟩ = some (.int .i64 0) ∧ w'.cell? ⟨v7.heap.size, 2, none⟩ = some (.int .i64 4) ∧ w'.cell? ⟨v7.heap.size, 3, none⟩ = some (.int .i64 2) ∧ w'.cell? ⟨v7.heap.size, 4, none⟩ = some (.int .u64 0) ∧ w'.cell? ⟨v7.heap.size, 5, none⟩ = some (.int .u64 0) ∧ w'.cell? ⟨v7.heap.size, 6, none⟩ = some (.int .i64 5) ∧ w'.cell? ⟨v7.heap.size, 7, none⟩ = some (.int .i64 0)) (((try simp only [cell_drew]); (refine ⟨?_, ?_, ?_, ?_, ?_, ?_, ?_, ?_⟩ <;> with_reducible assumption))) ((first | (go_at_call 16; refine (laneKey U3.drew).mono ?_; rintro e V3 ⟨g3, he, hg3, ho, hb⟩; obtain rfl := he; have hs3 : U3.heap.size ≤ V3.heap.size := hb.size; have d0 : V3.cell? ⟨v7.heap.size, 0, none⟩ = some (.slice ah key1.length ch) := (hb.cell (by show v7.heap.size < _; first | (show _ < U3.heap.size; omega) | omega)).trans q0; have d1 : V3.cell? ⟨v7.heap.size, 1, none⟩ = some (.int .i64 0) := (hb.cell (by show v7.heap.size < _; first | (show _ < U3.heap.size; omega) | omega)).trans q1; have d2 : V3.cell? ⟨v7.heap.size, 2, none⟩ = some (.int .i64 4) := (hb.cell (by show v7.heap.size < _; first | (show _ < U3.heap.size; omega) | omega)).trans q2; have d3 : V3.cell? ⟨v7.heap.size, 3, none⟩ = some (.int .i64 2) := (hb.cell (by show v7.heap.size < _; first | (show _ < U3.heap.size; omega) | omega)).trans q3; have d4 : V3.cell? ⟨v7.heap.size, 4, none⟩ = some (.int .u64 0) := (hb.cell (by show v7.heap.size < _; first | (show _ < U3.heap.size; omega) | omega)).trans q4; have d5 : V3.cell? ⟨v7.heap.size, 5, none⟩ = some (.int .u64 0) := (hb.cell (by show v7.heap.size < _; first | (show _ < U3.heap.size; omega) | omega)).trans q5; have d6 : V3.cell? ⟨v7.heap.size, 6, none⟩ = some (.int .i64 5) := (hb.cell (by show v7.heap.size < _; first | (show _ < U3.heap.size; omega) | omega)).trans q6; have d7 : V3.cell? ⟨v7.heap.size, 7, none⟩ = some (.int .i64 0) := (hb.cell (by show v7.heap.size < _; first | (show _ < U3.heap.size; omega) | omega)).trans q7) | (go_at_call 17; refine (sameLane kh kh ah (some ⟨g3, 0, none⟩) ch 32 V3 (by decide) (by decide) (Rd.on (w := U3.drew) hrh3 hb) ho.rd).mono ?_; rintro e U4 ⟨he, hb2⟩; rw [sameL_refl] at he; subst he; have hs2 := hb2.size; have e0 : U4.cell? ⟨v7.heap.size, 0, none⟩ = some (.slice ah key1.length ch) := (hb2.cell (by show v7.heap.size < _; first | (show _ < U3.heap.size; omega) | omega)).trans d0; have e1 : U4.cell? ⟨v7.heap.size, 1, none⟩ = some (.int .i64 0) := (hb2.cell (by show v7.heap.size < _; first | (show _ < U3.heap.size; omega) | omega)).trans d1; have e2 : U4.cell? ⟨v7.heap.size, 2, none⟩ = some (.int .i64 4) := (hb2.cell (by show v7.heap.size < _; first | (show _ < U3.heap.size; omega) | omega)).trans d2; have e3 : U4.cell? ⟨v7.heap.size, 3, none⟩ = some (.int .i64 2) := (hb2.cell (by show v7.heap.size < _; first | (show _ < U3.heap.size; omega) | omega)).trans d3; have e4 : U4.cell? ⟨v7.heap.size, 4, none⟩ = some (.int .u64 0) := (hb2.cell (by show v7.heap.size < _; first | (show _ < U3.heap.size; omega) | omega)).trans d4; have e5 : U4.cell? ⟨v7.heap.size, 5, none⟩ = some (.int .u64 0) := (hb2.cell (by show v7.heap.size < _; first | (show _ < U3.heap.size; omega) | omega)).trans d5; have e6 : U4.cell? ⟨v7.heap.size, 6, none⟩ = some (.int .i64 5) := (hb2.cell (by show v7.heap.size < _; first | (show _ < U3.heap.size; omega) | omega)).trans d6; have e7 : U4.cell? ⟨v7.heap.size, 7, none⟩ = some (.int .i64 0) := (hb2.cell (by show v7.heap.size < _; first | (show _ < U3.heap.size; omega) | omega)).trans d7)))
  clear q0 d0 e0 q1 d1 e1 q2 d2 e2 q3 d3 e3 q4 d4 e4 q5 d5 e5 q6 d6 e6 q7 d7 e7 qf
  have hBU : Below w.heap.size w U4 := (hBU.drew.trans (hb.mono (by have := hBU.size; exact this))).trans (hb2.mono (by have := hBU.size; omega))
  have xj : U4.heap[v8.heap.size]? = some (.cells #[.slice aj key1.length cj, .int .i64 0, .int .i64 3, .int .i64 2, .int .u64 10, .int .u64 27, .int .i64 5, .int .i64 0] 27 (0, 0)) := (hb2.block (v8.heap.size) (by omega)).trans ((hb.block (v8.heap.size) (by show _ < U3.heap.size; omega)).trans Xj.out)
  clear Xj
  have Xj := Lib.hid xj
  clear xj
  have hj4 : v8.heap.size < U4.heap.size := by omega
  have xh : U4.heap[v7.heap.size]? = some (.cells #[.slice ah key1.length ch, .int .i64 0, .int .i64 4, .int .i64 2, .int .u64 0, .int .u64 0, .int .i64 5, .int .i64 0] 27 (0, 0)) := (hb2.block (v7.heap.size) (by omega)).trans ((hb.block (v7.heap.size) (by show _ < U3.heap.size; omega)).trans Xh.out)
  clear hb hb2 ho
  have q0 : U4.cell? ⟨v7.heap.size, 0, none⟩ = some (.slice ah key1.length ch) := cell_of_row U4 (v7.heap.size) 0 _ _ _ xh
  have q1 : U4.cell? ⟨v7.heap.size, 1, none⟩ = some (.int .i64 0) := cell_of_row U4 (v7.heap.size) 1 _ _ _ xh
  have q2 : U4.cell? ⟨v7.heap.size, 2, none⟩ = some (.int .i64 4) := cell_of_row U4 (v7.heap.size) 2 _ _ _ xh
  have q3 : U4.cell? ⟨v7.heap.size, 3, none⟩ = some (.int .i64 2) := cell_of_row U4 (v7.heap.size) 3 _ _ _ xh
  have q4 : U4.cell? ⟨v7.heap.size, 4, none⟩ = some (.int .u64 0) := cell_of_row U4 (v7.heap.size) 4 _ _ _ xh
  have q5 : U4.cell? ⟨v7.heap.size, 5, none⟩ = some (.int .u64 0) := cell_of_row U4 (v7.heap.size) 5 _ _ _ xh
  have q6 : U4.cell? ⟨v7.heap.size, 6, none⟩ = some (.int .i64 5) := cell_of_row U4 (v7.heap.size) 6 _ _ _ xh
  have q7 : U4.cell? ⟨v7.heap.size, 7, none⟩ = some (.int .i64 0) := cell_of_row U4 (v7.heap.size) 7 _ _ _ xh
  have qf (i : Nat) : U4.frozen? ⟨v7.heap.size, i, none⟩ = false := frozen_of_row U4 (v7.heap.size) i _ _ xh
  clear xh
  go_wp2_with fail
  refine (laneValid kh ah ch (by decide) _).mono ?_
  rintro e U5 ⟨he, hb⟩
  rw [eq_hok] at he
  subst he
  have hBV := hBU.trans (hb.mono hBU.size)
  have xj : U5.heap[v8.heap.size]? = some (.cells #[.slice aj key1.length cj, .int .i64 0, .int .i64 3, .int .i64 2, .int .u64 10, .int .u64 27, .int .i64 5, .int .i64 0] 27 (0, 0)) := (hb.block (v8.heap.size) (by omega)).trans Xj.out
  clear q0 q1 q2 q3 q4 q5 q6 q7 qf
  have q0 : U5.cell? ⟨v8.heap.size, 0, none⟩ = some (.slice aj key1.length cj) := cell_of_row U5 (v8.heap.size) 0 _ _ _ xj
  have q1 : U5.cell? ⟨v8.heap.size, 1, none⟩ = some (.int .i64 0) := cell_of_row U5 (v8.heap.size) 1 _ _ _ xj
  have q2 : U5.cell? ⟨v8.heap.size, 2, none⟩ = some (.int .i64 3) := cell_of_row U5 (v8.heap.size) 2 _ _ _ xj
  have q3 : U5.cell? ⟨v8.heap.size, 3, none⟩ = some (.int .i64 2) := cell_of_row U5 (v8.heap.size) 3 _ _ _ xj
  have q4 : U5.cell? ⟨v8.heap.size, 4, none⟩ = some (.int .u64 10) := cell_of_row U5 (v8.heap.size) 4 _ _ _ xj
  have q5 : U5.cell? ⟨v8.heap.size, 5, none⟩ = some (.int .u64 27) := cell_of_row U5 (v8.heap.size) 5 _ _ _ xj
  have q6 : U5.cell? ⟨v8.heap.size, 6, none⟩ = some (.int .i64 5) := cell_of_row U5 (v8.heap.size) 6 _ _ _ xj
  have q7 : U5.cell? ⟨v8.heap.size, 7, none⟩ = some (.int .i64 0) := cell_of_row U5 (v8.heap.size) 7 _ _ _ xj
  have qf (i : Nat) : U5.frozen? ⟨v8.heap.size, i, none⟩ = false := frozen_of_row U5 (v8.heap.size) i _ _ xj
  clear xj hb
  go_wp2_with (first | (go_at_call 19; refine (numOf _ _).mono ?_; rintro e w' ⟨rfl, rfl⟩) | (go_at_call 20; refine (laneUp 3 1 (by decide) (by decide) _).mono ?_; rintro e w' ⟨he, rfl⟩; rw [eq_up] at he; subst he))
  go_ret
  exact ⟨rfl, hBV⟩
set_option maxHeartbeats 800000 in
theorem laneRoomy (L : Ln) (ao : Option Addr) (cap : Nat) (w : World) (hl : L.key.length ≤ 4096) (hr : Rd w ao L.key) :
   Calls Tryz.prog 5 #[L.val ao cap] w fun e w' => ∃ g c, e = .returned (L.val (some ⟨g, 0, none⟩) c) ∧ w.heap.size ≤ g ∧ L.key.length + 3 ≤ c ∧ Own w' g c 5 (L.key ++ [201#8, 202#8, 203#8]) ∧ Below w.heap.size w w' := by
  obtain ⟨key, side, cur, next, send, ceil, sec, nano⟩ := L
  unfold Ln.val
  simp only at hl hr ⊢
  obtain ⟨i0, hi, hz0, hz1, hz2⟩ := info_parts info_u8
  go_enter Tryz.func5, Tryz.ntmps5
  go_wp2_with fail
  refine (bytesOf ao key cap _ (by omega) (hr.on (fresh2 w _ _))).mono ?_
  rintro e w1 ⟨v, rfl, hown, hb⟩
  have hz := hb.size
  simp only [alloc_size] at hz
  have x0 : w1.heap[w.heap.size]? = some (.cells #[.slice ao key.length cap, .int .i64 side, .int .i64 cur, .int .i64 next, .int .u64 send, .int .u64 ceil, .int .i64 sec, .int .i64 nano] 27 (0, 0)) := (hb_block hb (w.heap.size) (by simp only [alloc_size]; omega)).trans (by simp only [alloc_get, alloc_size]; repeat first | rw [if_pos trivial] | rw [if_neg (by omega)] | rw [if_pos (by omega)])
  have x1 : w1.heap[w.heap.size + 1]? = some (.cells #[.slice none 0 0, .int .i64 0, .int .i64 0, .int .i64 0, .int .u64 0, .int .u64 0, .int .i64 0, .int .i64 0] 27 (0, 0)) := (hb_block hb (w.heap.size + 1) (by simp only [alloc_size]; omega)).trans (by simp only [alloc_get, alloc_size]; repeat first | rw [if_pos trivial] | rw [if_neg (by omega)] | rw [if_pos (by omega)])
  have hB := (((Below.refl _ w).alloc (Nat.le_refl _) _).alloc (by simp only [alloc_size]; omega) _).trans (hb.mono (by simp only [alloc_size]; omega))
  have hown2 : w1.ownsRow (w.heap.size + 2) 5 1 v key.length (bts key) := by
    have h := hown
    simp only [alloc_size] at h
    exact h
  clear hr hb hown
  go_wp2_with (at_builtin; refine wpList_append_bytes rfl _ _ 22 rfl (w.heap.size + 2) 5 i0 Tryz.underlying22 hi hz0 hz1 hz2 _ _ key rfl (hown2.alloc _) (some ⟨w1.heap.size, 0, none⟩) 3 3 [201#8, 202#8, 203#8] rfl rfl (Rd_new w1 _ _ _ _ (by simp [bts, n8])) (fun h => by cases h) (by omega) (w.heap.size + 2) ((Below.refl _ w1).alloc hz _) (Nat.le_refl _) (by simp only [alloc_size]; omega) ?_)
  intro v' w2 hown' hb2
  obtain ⟨gg, c, rfl, hg, hc, _, ho⟩ := owns_own hown' (by simp)
  have hz2 := hb2.size
  have x0' : w2.heap[w.heap.size]? = some (.cells #[.slice ao key.length cap, .int .i64 side, .int .i64 cur, .int .i64 next, .int .u64 send, .int .u64 ceil, .int .i64 sec, .int .i64 nano] 27 (0, 0)) := (hb2.block (w.heap.size) (by omega)).trans x0
  have x1' : w2.heap[w.heap.size + 1]? = some (.cells #[.slice none 0 0, .int .i64 0, .int .i64 0, .int .i64 0, .int .u64 0, .int .u64 0, .int .i64 0, .int .i64 0] 27 (0, 0)) := (hb2.block (w.heap.size + 1) (by omega)).trans x1
  have hB2 := hB.trans (hb2.mono (by omega))
  have hc3 : key.length + 3 ≤ c := by simpa using hc
  clear x0 x1 hb2 hB hown' hown2
  have a0 : w2.cell? ⟨w.heap.size, 0, none⟩ = some (.slice ao key.length cap) := cell_of_row w2 (w.heap.size) 0 _ _ _ x0'
  have a1 : w2.cell? ⟨w.heap.size, 1, none⟩ = some (.int .i64 side) := cell_of_row w2 (w.heap.size) 1 _ _ _ x0'
  have a2 : w2.cell? ⟨w.heap.size, 2, none⟩ = some (.int .i64 cur) := cell_of_row w2 (w.heap.size) 2 _ _ _ x0'
  have a3 : w2.cell? ⟨w.heap.size, 3, none⟩ = some (.int .i64 next) := cell_of_row w2 (w.heap.size) 3 _ _ _ x0'
  have a4 : w2.cell? ⟨w.heap.size, 4, none⟩ = some (.int .u64 send) := cell_of_row w2 (w.heap.size) 4 _ _ _ x0'
  have a5 : w2.cell? ⟨w.heap.size, 5, none⟩ = some (.int .u64 ceil) := cell_of_row w2 (w.heap.size) 5 _ _ _ x0'
  have a6 : w2.cell? ⟨w.heap.size, 6, none⟩ = some (.int .i64 sec) := cell_of_row w2 (w.heap.size) 6 _ _ _ x0'
  have a7 : w2.cell? ⟨w.heap.size, 7, none⟩ = some (.int .i64 nano) := cell_of_row w2 (w.heap.size) 7 _ _ _ x0'
  have af (i : Nat) : w2.frozen? ⟨w.heap.size, i, none⟩ = false := frozen_of_row w2 (w.heap.size) i _ _ x0'
  have b0 : w2.cell? ⟨w.heap.size + 1, 0, none⟩ = some (.slice none 0 0) := cell_of_row w2 (w.heap.size + 1) 0 _ _ _ x1'
  have b1 : w2.cell? ⟨w.heap.size + 1, 1, none⟩ = some (.int .i64 0) := cell_of_row w2 (w.heap.size + 1) 1 _ _ _ x1'
  have b2 : w2.cell? ⟨w.heap.size + 1, 2, none⟩ = some (.int .i64 0) := cell_of_row w2 (w.heap.size + 1) 2 _ _ _ x1'
  have b3 : w2.cell? ⟨w.heap.size + 1, 3, none⟩ = some (.int .i64 0) := cell_of_row w2 (w.heap.size + 1) 3 _ _ _ x1'
  have b4 : w2.cell? ⟨w.heap.size + 1, 4, none⟩ = some (.int .u64 0) := cell_of_row w2 (w.heap.size + 1) 4 _ _ _ x1'
  have b5 : w2.cell? ⟨w.heap.size + 1, 5, none⟩ = some (.int .u64 0) := cell_of_row w2 (w.heap.size + 1) 5 _ _ _ x1'
  have b6 : w2.cell? ⟨w.heap.size + 1, 6, none⟩ = some (.int .i64 0) := cell_of_row w2 (w.heap.size + 1) 6 _ _ _ x1'
  have b7 : w2.cell? ⟨w.heap.size + 1, 7, none⟩ = some (.int .i64 0) := cell_of_row w2 (w.heap.size + 1) 7 _ _ _ x1'
  have bf (i : Nat) : w2.frozen? ⟨w.heap.size + 1, i, none⟩ = false := frozen_of_row w2 (w.heap.size + 1) i _ _ x1'
  clear x0' x1'
  have HO := Lib.hid ho
  have HC := Lib.hid hc
  have HB := Lib.hid hB2
  clear ho hc hB2
  have k1 : (0 : Int) ≤ (key.length : Int) := by omega
  have k2 : (key.length : Int) ≤ (c : Int) := by omega
  have k3 : key.length ≤ c := by omega
  go_wp2_with fail
  refine bodyPost_ret (v := .agg #[.slice (some ⟨gg, 0, none⟩) key.length c, .int .i64 side, .int .i64 cur, .int .i64 next, .int .u64 send, .int .u64 ceil, .int .i64 sec, .int .i64 nano]) (by simp [results, Tryz.results5, go_sem, b0, b1, b2, b3, b4, b5, b6, b7]) rfl ⟨gg, c, rfl, by omega, hc3, ?_, ?_⟩
  · iterate 9 (refine Own.setCell ?_ _ _ _ (by omega))
    exact HO.out
  · iterate 9 (refine Below.set ?_ _ _ _ (by omega))
    exact HB.out
theorem n8_201 : n8 201#8 = 201 := by unfold n8; rfl
theorem n8_202 : n8 202#8 = 202 := by unfold n8; rfl
theorem n8_203 : n8 203#8 = 203 := by unfold n8; rfl
set_option maxHeartbeats 800000 in
theorem laneStays (A B : Ln) (g c : Nat) (ao : Option Addr) (cap : Nat) (w : World) (hl : A.key.length ≤ 4096) (hO : Own w g c 5 (A.key ++ [201#8, 202#8, 203#8])) (hk : B.key = A.key) (hr : Rd w ao B.key) :
   Calls Tryz.prog 15 #[A.val (some ⟨g, 0, none⟩) c, B.val ao cap] w fun e w' => e = .returned (.bool true) ∧ Below w.heap.size w w' := by
  obtain ⟨key, side, cur, next, send, ceil, sec, nano⟩ := A
  obtain ⟨key', side', cur', next', send', ceil', sec', nano'⟩ := B
  unfold Ln.val
  simp only at hl hO hk hr ⊢
  subst hk
  have hg := hO.lt
  have hc3 : key'.length + 3 ≤ c := by
    obtain ⟨_, _, _, h, _⟩ := hO
    simpa using h
  have m0 : w.cell? ⟨g, key'.length, none⟩ = some (.int .u8 201) := by
    rw [hO.cell key'.length (by simp), ← n8_201]
    simp [List.getD]
  have m1 : w.cell? ⟨g, key'.length + 1, none⟩ = some (.int .u8 202) := by
    rw [hO.cell (key'.length + 1) (by simp), ← n8_202]
    simp [List.getD]
  have m2 : w.cell? ⟨g, key'.length + 2, none⟩ = some (.int .u8 203) := by
    rw [hO.cell (key'.length + 2) (by simp), ← n8_203]
    simp [List.getD]
  have hrA : Rd w (some ⟨g, 0, none⟩) key' := hO.pre.rd
  go_enter Tryz.func15, Tryz.ntmps15
  go_wp2_with fail
  refine (sameBytes (some ⟨g, 0, none⟩) ao key' key' c cap _ (by omega) (by omega) (hrA.on (fresh2 w _ _)) (hr.on (fresh2 w _ _))).mono ?_
  rintro e w1 ⟨rfl, nd, hw⟩
  have hbl := fresh2 w (.cells #[.slice (some ⟨g, 0, none⟩) key'.length c, .int .i64 side, .int .i64 cur, .int .i64 next, .int .u64 send, .int .u64 ceil, .int .i64 sec, .int .i64 nano] 27 (0, 0)) (.cells #[.slice ao key'.length cap, .int .i64 side', .int .i64 cur', .int .i64 next', .int .u64 send', .int .u64 ceil', .int .i64 sec', .int .i64 nano'] 27 (0, 0))
  have hB : Below w.heap.size w w1 := by rw [hw]; exact below_drewN hbl nd
  have x0 : w1.heap[w.heap.size]? = some (.cells #[.slice (some ⟨g, 0, none⟩) key'.length c, .int .i64 side, .int .i64 cur, .int .i64 next, .int .u64 send, .int .u64 ceil, .int .i64 sec, .int .i64 nano] 27 (0, 0)) := by
    rw [hw]
    show ((w.alloc _).alloc _).heap[w.heap.size]? = _
    exact (by simp only [alloc_get, alloc_size]; repeat first | rw [if_pos trivial] | rw [if_neg (by omega)] | rw [if_pos (by omega)])
  have c0 : w1.cell? ⟨g, key'.length, none⟩ = some (.int .u8 201) := (hB.cell hg).trans m0
  have c1 : w1.cell? ⟨g, key'.length + 1, none⟩ = some (.int .u8 202) := (hB.cell hg).trans m1
  have c2 : w1.cell? ⟨g, key'.length + 2, none⟩ = some (.int .u8 203) := (hB.cell hg).trans m2
  have a0 : w1.cell? ⟨w.heap.size, 0, none⟩ = some (.slice (some ⟨g, 0, none⟩) key'.length c) := cell_of_row w1 (w.heap.size) 0 _ _ _ x0
  have a1 : w1.cell? ⟨w.heap.size, 1, none⟩ = some (.int .i64 side) := cell_of_row w1 (w.heap.size) 1 _ _ _ x0
  have a2 : w1.cell? ⟨w.heap.size, 2, none⟩ = some (.int .i64 cur) := cell_of_row w1 (w.heap.size) 2 _ _ _ x0
  have a3 : w1.cell? ⟨w.heap.size, 3, none⟩ = some (.int .i64 next) := cell_of_row w1 (w.heap.size) 3 _ _ _ x0
  have a4 : w1.cell? ⟨w.heap.size, 4, none⟩ = some (.int .u64 send) := cell_of_row w1 (w.heap.size) 4 _ _ _ x0
  have a5 : w1.cell? ⟨w.heap.size, 5, none⟩ = some (.int .u64 ceil) := cell_of_row w1 (w.heap.size) 5 _ _ _ x0
  have a6 : w1.cell? ⟨w.heap.size, 6, none⟩ = some (.int .i64 sec) := cell_of_row w1 (w.heap.size) 6 _ _ _ x0
  have a7 : w1.cell? ⟨w.heap.size, 7, none⟩ = some (.int .i64 nano) := cell_of_row w1 (w.heap.size) 7 _ _ _ x0
  have af (i : Nat) : w1.frozen? ⟨w.heap.size, i, none⟩ = false := frozen_of_row w1 (w.heap.size) i _ _ x0
  have HB := Lib.hid hB
  clear x0 hw hB hbl m0 m1 m2 hr hrA hO
  rw [show (key' == key') = true by simp]
  have k1 : (0 : Int) ≤ (key'.length : Int) := by omega
  have k2 : (key'.length : Int) + 3 ≤ (c : Int) := by omega
  have k3 : key'.length + 3 ≤ c := by omega
  have k4 : ((key'.length : Int) + 3).toNat = key'.length + 3 := by omega
  have k5 : ((key'.length : Int) + 1).toNat = key'.length + 1 := by omega
  have k6 : ((key'.length : Int) + 2).toNat = key'.length + 2 := by omega
  go_wp2_with fail
  go_ret
  exact ⟨rfl, HB.out⟩
end Go.Proofs.YtjlhnepjpjlppaaGreatDoor
