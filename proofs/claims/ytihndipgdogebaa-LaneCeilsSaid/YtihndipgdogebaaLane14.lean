/- A lane whose key has marks behind it; that they stay. -/
import Derived.Test.YtihndipgdogebaaLane13
import Derived.Test.YtihndipgdogebaaAppend
namespace Go.Proofs.Ytihndipgdogebaa
open Go.RowKit
set_option maxHeartbeats 800000 in
theorem laneRoomy (L : Ln) (ao : Option Addr) (cap : Nat) (w : World) (hl : L.key.length ≤ 4096) (hr : Rd w ao L.key) :
   Calls Try.prog 16 #[L.val ao cap] w fun e w' => ∃ g c, e = .returned (L.val (some ⟨g, 0, none⟩) c) ∧ w.heap.size ≤ g ∧ L.key.length + 3 ≤ c ∧ Own w' g c 5 (L.key ++ [201#8, 202#8, 203#8]) ∧ Below w.heap.size w w' := by
  obtain ⟨key, side, cur, next, send, ceil, sec, nano⟩ := L
  unfold Ln.val
  simp only at hl hr ⊢
  obtain ⟨i0, hi, hz0, hz1, hz2⟩ := info_parts info_u8
  go_enter Try.func16, Try.ntmps16
  go_wp2_with fail
  refine (bytesOf ao key cap _ (by omega) (hr.on (fresh2 w _ _))).mono ?_
  rintro e w1 ⟨v, rfl, hown, hb⟩
  have hz := hb.size
  simp only [alloc_size] at hz
  have x0 : w1.heap[w.heap.size]? = some (.cells #[.slice ao key.length cap, .int .i64 side, .int .i64 cur, .int .i64 next, .int .u64 send, .int .u64 ceil, .int .i64 sec, .int .i64 nano] 27 (0, 0)) := (hb_block hb (w.heap.size) (by simp only [alloc_size]; omega)).trans (by simp only [alloc_get, alloc_size]; repeat first | rw [if_pos trivial] | rw [if_neg (by omega)] | rw [if_pos (by omega)])
  have x1 : w1.heap[w.heap.size + 1]? = some (.cells #[.slice none 0 0, .int .i64 0, .int .i64 0, .int .i64 0, .int .u64 0, .int .u64 0, .int .i64 0, .int .i64 0] 27 (0, 0)) := (hb_block hb (w.heap.size + 1) (by simp only [alloc_size]; omega)).trans (by simp only [alloc_get, alloc_size]; repeat first | rw [if_pos trivial] | rw [if_neg (by omega)] | rw [if_pos (by omega)])
  have hB := (((Below.refl _ w).alloc (Nat.le_refl _) _).alloc (by simp only [alloc_size]; omega) _).trans (hb.mono (by simp only [alloc_size]; omega))
  have hown2 : w1.ownsRow (w.heap.size + 2) 5 1 v key.length (bts key) := by
    have h := hown
    simp only [alloc_size] at h
    exact h
  clear hr hb hown
  go_wp2_with (at_builtin; refine wpList_append_bytes rfl _ _ 22 rfl (w.heap.size + 2) 5 i0 Try.underlying22 hi hz0 hz1 hz2 _ _ key rfl (hown2.alloc _) (some ⟨w1.heap.size, 0, none⟩) 3 3 [201#8, 202#8, 203#8] rfl rfl (Rd_new w1 _ _ _ _ (by simp [bts, n8])) (fun h => by cases h) (by omega) (w.heap.size + 2) ((Below.refl _ w1).alloc hz _) (Nat.le_refl _) (by simp only [alloc_size]; omega) ?_)
  intro v' w2 hown' hb2
  obtain ⟨gg, c, rfl, hg, hc, _, ho⟩ := owns_own hown' (by simp)
  have hz2 := hb2.size
  have x0' : w2.heap[w.heap.size]? = some (.cells #[.slice ao key.length cap, .int .i64 side, .int .i64 cur, .int .i64 next, .int .u64 send, .int .u64 ceil, .int .i64 sec, .int .i64 nano] 27 (0, 0)) := (hb2.block (w.heap.size) (by omega)).trans x0
  have x1' : w2.heap[w.heap.size + 1]? = some (.cells #[.slice none 0 0, .int .i64 0, .int .i64 0, .int .i64 0, .int .u64 0, .int .u64 0, .int .i64 0, .int .i64 0] 27 (0, 0)) := (hb2.block (w.heap.size + 1) (by omega)).trans x1
  have hB2 := hB.trans (hb2.mono (by omega))
  have hc3 : key.length + 3 ≤ c := by simpa using hc
  clear x0 x1 hb2 hB hown' hown2
  have a0 : w2.cell? ⟨w.heap.size, 0, none⟩ = some (.slice ao key.length cap) := cell_of_row w2 (w.heap.size) 0 _ _ _ x0'
  have a1 : w2.cell? ⟨w.heap.size, 1, none⟩ = some (.int .i64 side) := cell_of_row w2 (w.heap.size) 1 _ _ _ x0'
  have a2 : w2.cell? ⟨w.heap.size, 2, none⟩ = some (.int .i64 cur) := cell_of_row w2 (w.heap.size) 2 _ _ _ x0'
  have a3 : w2.cell? ⟨w.heap.size, 3, none⟩ = some (.int .i64 next) := cell_of_row w2 (w.heap.size) 3 _ _ _ x0'
  have a4 : w2.cell? ⟨w.heap.size, 4, none⟩ = some (.int .u64 send) := cell_of_row w2 (w.heap.size) 4 _ _ _ x0'
  have a5 : w2.cell? ⟨w.heap.size, 5, none⟩ = some (.int .u64 ceil) := cell_of_row w2 (w.heap.size) 5 _ _ _ x0'
  have a6 : w2.cell? ⟨w.heap.size, 6, none⟩ = some (.int .i64 sec) := cell_of_row w2 (w.heap.size) 6 _ _ _ x0'
  have a7 : w2.cell? ⟨w.heap.size, 7, none⟩ = some (.int .i64 nano) := cell_of_row w2 (w.heap.size) 7 _ _ _ x0'
  have af (i : Nat) : w2.frozen? ⟨w.heap.size, i, none⟩ = false := frozen_of_row w2 (w.heap.size) i _ _ x0'
  have b0 : w2.cell? ⟨w.heap.size + 1, 0, none⟩ = some (.slice none 0 0) := cell_of_row w2 (w.heap.size + 1) 0 _ _ _ x1'
  have b1 : w2.cell? ⟨w.heap.size + 1, 1, none⟩ = some (.int .i64 0) := cell_of_row w2 (w.heap.size + 1) 1 _ _ _ x1'
  have b2 : w2.cell? ⟨w.heap.size + 1, 2, none⟩ = some (.int .i64 0) := cell_of_row w2 (w.heap.size + 1) 2 _ _ _ x1'
  have b3 : w2.cell? ⟨w.heap.size + 1, 3, none⟩ = some (.int .i64 0) := cell_of_row w2 (w.heap.size + 1) 3 _ _ _ x1'
  have b4 : w2.cell? ⟨w.heap.size + 1, 4, none⟩ = some (.int .u64 0) := cell_of_row w2 (w.heap.size + 1) 4 _ _ _ x1'
  have b5 : w2.cell? ⟨w.heap.size + 1, 5, none⟩ = some (.int .u64 0) := cell_of_row w2 (w.heap.size + 1) 5 _ _ _ x1'
  have b6 : w2.cell? ⟨w.heap.size + 1, 6, none⟩ = some (.int .i64 0) := cell_of_row w2 (w.heap.size + 1) 6 _ _ _ x1'
  have b7 : w2.cell? ⟨w.heap.size + 1, 7, none⟩ = some (.int .i64 0) := cell_of_row w2 (w.heap.size + 1) 7 _ _ _ x1'
  have bf (i : Nat) : w2.frozen? ⟨w.heap.size + 1, i, none⟩ = false := frozen_of_row w2 (w.heap.size + 1) i _ _ x1'
  clear x0' x1'
  have HO := Lib.hid ho
  have HC := Lib.hid hc
  have HB := Lib.hid hB2
  clear ho hc hB2
  have k1 : (0 : Int) ≤ (key.length : Int) := by omega
  have k2 : (key.length : Int) ≤ (c : Int) := by omega
  have k3 : key.length ≤ c := by omega
  go_wp2_with fail
  refine bodyPost_ret (v := .agg #[.slice (some ⟨gg, 0, none⟩) key.length c, .int .i64 side, .int .i64 cur, .int .i64 next, .int .u64 send, .int .u64 ceil, .int .i64 sec, .int .i64 nano]) (by simp [results, Try.results16, go_sem, b0, b1, b2, b3, b4, b5, b6, b7]) rfl ⟨gg, c, rfl, by omega, hc3, ?_, ?_⟩
  · iterate 9 (refine Own.setCell ?_ _ _ _ (by omega))
    exact HO.out
  · iterate 9 (refine Below.set ?_ _ _ _ (by omega))
    exact HB.out
theorem n8_201 : n8 201#8 = 201 := by unfold n8; rfl
theorem n8_202 : n8 202#8 = 202 := by unfold n8; rfl
theorem n8_203 : n8 203#8 = 203 := by unfold n8; rfl
set_option maxHeartbeats 800000 in
theorem laneStays (A B : Ln) (g c : Nat) (ao : Option Addr) (cap : Nat) (w : World) (hl : A.key.length ≤ 4096) (hO : Own w g c 5 (A.key ++ [201#8, 202#8, 203#8])) (hk : B.key = A.key) (hr : Rd w ao B.key) :
   Calls Try.prog 20 #[A.val (some ⟨g, 0, none⟩) c, B.val ao cap] w fun e w' => e = .returned (.bool true) ∧ Below w.heap.size w w' := by
  obtain ⟨key, side, cur, next, send, ceil, sec, nano⟩ := A
  obtain ⟨key', side', cur', next', send', ceil', sec', nano'⟩ := B
  unfold Ln.val
  simp only at hl hO hk hr ⊢
  subst hk
  have hg := hO.lt
  have hc3 : key'.length + 3 ≤ c := by
    obtain ⟨_, _, _, h, _⟩ := hO
    simpa using h
  have m0 : w.cell? ⟨g, key'.length, none⟩ = some (.int .u8 201) := by
    rw [hO.cell key'.length (by simp), ← n8_201]
    simp [List.getD]
  have m1 : w.cell? ⟨g, key'.length + 1, none⟩ = some (.int .u8 202) := by
    rw [hO.cell (key'.length + 1) (by simp), ← n8_202]
    simp [List.getD]
  have m2 : w.cell? ⟨g, key'.length + 2, none⟩ = some (.int .u8 203) := by
    rw [hO.cell (key'.length + 2) (by simp), ← n8_203]
    simp [List.getD]
  have hrA : Rd w (some ⟨g, 0, none⟩) key' := hO.pre.rd
  go_enter Try.func20, Try.ntmps20
  go_wp2_with fail
  refine (sameBytes (some ⟨g, 0, none⟩) ao key' key' c cap _ (by omega) (by omega) (hrA.on (fresh2 w _ _)) (hr.on (fresh2 w _ _))).mono ?_
  rintro e w1 ⟨rfl, nd, hw⟩
  have hbl := fresh2 w (.cells #[.slice (some ⟨g, 0, none⟩) key'.length c, .int .i64 side, .int .i64 cur, .int .i64 next, .int .u64 send, .int .u64 ceil, .int .i64 sec, .int .i64 nano] 27 (0, 0)) (.cells #[.slice ao key'.length cap, .int .i64 side', .int .i64 cur', .int .i64 next', .int .u64 send', .int .u64 ceil', .int .i64 sec', .int .i64 nano'] 27 (0, 0))
  have hB : Below w.heap.size w w1 := by rw [hw]; exact below_drewN hbl nd
  have x0 : w1.heap[w.heap.size]? = some (.cells #[.slice (some ⟨g, 0, none⟩) key'.length c, .int .i64 side, .int .i64 cur, .int .i64 next, .int .u64 send, .int .u64 ceil, .int .i64 sec, .int .i64 nano] 27 (0, 0)) := by
    rw [hw]
    show ((w.alloc _).alloc _).heap[w.heap.size]? = _
    exact (by simp only [alloc_get, alloc_size]; repeat first | rw [if_pos trivial] | rw [if_neg (by omega)] | rw [if_pos (by omega)])
  have c0 : w1.cell? ⟨g, key'.length, none⟩ = some (.int .u8 201) := (hB.cell hg).trans m0
  have c1 : w1.cell? ⟨g, key'.length + 1, none⟩ = some (.int .u8 202) := (hB.cell hg).trans m1
  have c2 : w1.cell? ⟨g, key'.length + 2, none⟩ = some (.int .u8 203) := (hB.cell hg).trans m2
  have a0 : w1.cell? ⟨w.heap.size, 0, none⟩ = some (.slice (some ⟨g, 0, none⟩) key'.length c) := cell_of_row w1 (w.heap.size) 0 _ _ _ x0
  have a1 : w1.cell? ⟨w.heap.size, 1, none⟩ = some (.int .i64 side) := cell_of_row w1 (w.heap.size) 1 _ _ _ x0
  have a2 : w1.cell? ⟨w.heap.size, 2, none⟩ = some (.int .i64 cur) := cell_of_row w1 (w.heap.size) 2 _ _ _ x0
  have a3 : w1.cell? ⟨w.heap.size, 3, none⟩ = some (.int .i64 next) := cell_of_row w1 (w.heap.size) 3 _ _ _ x0
  have a4 : w1.cell? ⟨w.heap.size, 4, none⟩ = some (.int .u64 send) := cell_of_row w1 (w.heap.size) 4 _ _ _ x0
  have a5 : w1.cell? ⟨w.heap.size, 5, none⟩ = some (.int .u64 ceil) := cell_of_row w1 (w.heap.size) 5 _ _ _ x0
  have a6 : w1.cell? ⟨w.heap.size, 6, none⟩ = some (.int .i64 sec) := cell_of_row w1 (w.heap.size) 6 _ _ _ x0
  have a7 : w1.cell? ⟨w.heap.size, 7, none⟩ = some (.int .i64 nano) := cell_of_row w1 (w.heap.size) 7 _ _ _ x0
  have af (i : Nat) : w1.frozen? ⟨w.heap.size, i, none⟩ = false := frozen_of_row w1 (w.heap.size) i _ _ x0
  have HB := Lib.hid hB
  clear x0 hw hB hbl m0 m1 m2 hr hrA hO
  rw [show (key' == key') = true by simp]
  have k1 : (0 : Int) ≤ (key'.length : Int) := by omega
  have k2 : (key'.length : Int) + 3 ≤ (c : Int) := by omega
  have k3 : key'.length + 3 ≤ c := by omega
  have k4 : ((key'.length : Int) + 3).toNat = key'.length + 3 := by omega
  have k5 : ((key'.length : Int) + 1).toNat = key'.length + 1 := by omega
  have k6 : ((key'.length : Int) + 2).toNat = key'.length + 2 := by omega
  go_wp2_with fail
  go_ret
  exact ⟨rfl, HB.out⟩
end Go.Proofs.Ytihndipgdogebaa
