/- use: a generation and a counter that were not used yet are entered in the book. -/
import Derived.Test.YtihndipgdogebaaLaneLoop2
namespace Go.Proofs.Ytihndipgdogebaa
open Go.RowKit
def i64s (l : List Int) : List Value := l.map (Value.int .i64)
def u64s (l : List Int) : List Value := l.map (Value.int .u64)
theorem i64s_app (l : List Int) (x : Int) : i64s l ++ [.int .i64 x] = i64s (l ++ [x]) := by simp [i64s]
theorem u64s_app (l : List Int) (x : Int) : u64s l ++ [.int .u64 x] = u64s (l ++ [x]) := by simp [u64s]
theorem i64s_get (l : List Int) (j : Nat) (hj : j < l.length) : (i64s l)[j]? = some (.int .i64 (l.getD j 0)) := by simp [i64s, List.getD, hj]
theorem u64s_get (l : List Int) (j : Nat) (hj : j < l.length) : (u64s l)[j]? = some (.int .u64 (l.getD j 0)) := by simp [u64s, List.getD, hj]
/-- A book: two lists beside one another. -/
def Book (p : Nat) (v1 v2 : Value) (gs cs : List Int) (l : List It) : List It :=
  .box p #[v1, v2] 67 :: .lst 3 1 v1 gs.length (i64s gs) :: .lst 23 1 v2 cs.length (u64s cs) :: l
def Used (w : World) (p : Nat) (gs cs : List Int) (l : List It) (e : Ending) (W' : World) : Prop := e = .returned (.bool true) ∧ ∃ v1 v2, Bag w W' (Book p v1 v2 gs cs l)
theorem cell_new_set (W : World) (a : Addr) (v u : Value) (t : TypeId) : ((W.setCell a v).alloc (.cells #[u] t (0, 0))).cell? ⟨W.heap.size, 0, none⟩ = some u := by
  have h : (W.setCell a v).heap.size = W.heap.size := by simp [World.setCell]
  rw [← h]
  exact cell_of_row _ _ 0 _ _ _ (heap_alloc_new _ _)
theorem info_int : (Try.prog.info? 3).map (fun i => (i.zero, i.size, i.bytes)) = some (some (.int .i64 0), 1, 8) := by kernel_rfl
theorem info_u64 : (Try.prog.info? 23).map (fun i => (i.zero, i.size, i.bytes)) = some (some (.int .u64 0), 1, 8) := by kernel_rfl
set_option maxRecDepth 100000 in
set_option maxHeartbeats 2000000 in
theorem lawUse {w W : World} {p : Nat} {v1 v2 : Value} {gs cs : List Int} {l : List It} (hB : Bag w W (Book p v1 v2 gs cs l)) (g c : Int) (hlen : gs.length = cs.length) (hmax : gs.length ≤ 17000000000000) (hno : ∀ j, j < gs.length → ¬ (gs.getD j 0 = g ∧ cs.getD j 0 = c)) :
    Calls Try.prog 40 #[.pointer (some ⟨p, 0, none⟩), .int .i64 g, .int .u64 c] W (Used w p (gs ++ [g]) (cs ++ [c]) l) := by
  have HBK := Lib.hid hB
  obtain ⟨a1, c1, rfl, hc1⟩ := hB.lstForm 1 rfl
  obtain ⟨a2, c2, rfl, hc2⟩ := hB.lstForm 2 rfl
  obtain ⟨q0, q1, qf⟩ := cells2 (hB.box 0 rfl)
  have HNO := Lib.hid hno
  have HLEN := Lib.hid hlen
  have ql := hB.boxLt 0 rfl
  obtain ⟨i0, hi, hz0, hz1, hz2⟩ := info_parts info_int
  obtain ⟨i1, hj, hy0, hy1, hy2⟩ := info_parts info_u64
  have HI := Lib.hid hi
  have HJ := Lib.hid hj
  have HZ0 := Lib.hid hz0
  have HZ1 := Lib.hid hz1
  have HZ2 := Lib.hid hz2
  have HY0 := Lib.hid hy0
  have HY1 := Lib.hid hy1
  have HY2 := Lib.hid hy2
  clear hB hno hlen hi hj hz0 hz1 hz2 hy0 hy1 hy2
  go_enter Try.func40, Try.ntmps40
  go_wp2_with fail
  go_loop [7] (fun i => ∃ j : Nat, j ≤ gs.length ∧ i = .int .i64 j) (fun i => gs.length - (intOf i).toNat)
  case atStart => exact ⟨0, Nat.zero_le _, rfl⟩
  case round =>
    obtain ⟨j, hj, rfl⟩ := hrel
    by_cases hlt : j < gs.length
    · obtain ⟨b1, k1, e1, h1, f1⟩ := HBK.out.elem 1 rfl j hlt
      obtain ⟨b2, k2, e2, h2, f2⟩ := HBK.out.elem 2 rfl j (by rw [← HLEN.out]; exact hlt)
      simp only [Value.slice.injEq] at e1 e2
      obtain ⟨rfl, _, rfl⟩ := e1
      obtain ⟨rfl, _, rfl⟩ := e2
      rw [i64s_get gs j hlt] at h1
      rw [u64s_get cs j (by rw [← HLEN.out]; exact hlt)] at h2
      have hne := HNO.out j hlt
      have hl2 : j < cs.length := by rw [← HLEN.out]; exact hlt
      have hj0 : (0 : Int) ≤ (j : Int) := by omega
      generalize gs.getD j 0 = x at h1 hne
      generalize cs.getD j 0 = y at h2 hne
      by_cases hx : x = g
      · have hy : y ≠ c := fun e => hne ⟨hx, e⟩
        have t1 : (x == g) = true := by simp [hx]
        have t2 : (y == c) = false := by simp [hy]
        clear hne hx hy
        go_wp2_with fail
        go_round
        case rel => exact ⟨j + 1, by omega, by go_num⟩
        case measure => simp [intOf]; omega
      · have t1 : (x == g) = false := by simp [hx]
        clear hne hx
        go_wp2_with fail
        go_round
        case rel => exact ⟨j + 1, by omega, by go_num⟩
        case measure => simp [intOf]; omega
    · obtain rfl : j = gs.length := by omega
      clear hlt hj
      go_upto_region 6 with fail
      generalize Value.slice a1 gs.length c1 = v1 at q0 HBK ⊢
      generalize Value.slice a2 cs.length c2 = v2 at q1 HBK ⊢
      go_wp2_with (first
        | (at_builtin; refine Bag.append rfl (.tmp 41) (.tmp 43) 63 rfl 3 i0 (.int .i64 0) 8 Try.underlying63 HI.out HZ0.out HZ1.out HZ2.out rfl 1 _ _ _ (HBK.out.call (fresh1 W _)) rfl rfl ⟨W.heap.size, 0, none⟩ rfl (.int .i64 g) ?_ rfl ?_ ?_ ?_; exact cell_of_row _ _ 0 _ _ _ (heap_alloc_new _ _); (unfold maxLen; omega); omega; intro g1 k1 W1 hB1 hs1; have HB1 := Lib.hid (show Bag w W1 (.box p #[v1, v2] 67 :: .lst 3 1 (.slice (some ⟨g1, 0, none⟩) (gs.length + 1) k1) (gs.length + 1) (i64s gs ++ [.int .i64 g]) :: .lst 23 1 (v2) cs.length (u64s cs) :: l) from hB1); clear hB1; obtain ⟨r0, r1, rf⟩ := cells2 (HB1.out.box 0 rfl); have rl := HB1.out.boxLt 0 rfl)
        | (at_builtin; refine Bag.append rfl (.tmp 51) (.tmp 53) 65 rfl 23 i1 (.int .u64 0) 8 Try.underlying65 HJ.out HY0.out HY1.out HY2.out rfl 2 _ _ _ ((HB1.out.put 0 rfl 0 _).call (fresh1 _ _)) rfl rfl ⟨W1.heap.size, 0, none⟩ (by simp [Act.eval]) (.int .u64 c) ?_ rfl ?_ ?_ ?_; exact cell_new_set _ _ _ _ _; (unfold maxLen; rw [← HLEN.out]; omega); (rw [← HLEN.out]; omega); intro g2 k2 W2 hB2 hs2; have HB2 := Lib.hid (show Bag w W2 (.box p #[.slice (some ⟨g1, 0, none⟩) (gs.length + 1) k1, v2] 67 :: .lst 3 1 (.slice (some ⟨g1, 0, none⟩) (gs.length + 1) k1) (gs.length + 1) (i64s gs ++ [.int .i64 g]) :: .lst 23 1 (.slice (some ⟨g2, 0, none⟩) (cs.length + 1) k2) (cs.length + 1) (u64s cs ++ [.int .u64 c]) :: l) from hB2); clear hB2; obtain ⟨s0, s1, sf⟩ := cells2 (HB2.out.box 0 rfl); have sl := HB2.out.boxLt 0 rfl))
      have HF := Lib.hid (HB2.out.put 0 rfl 1 (.slice (some ⟨g2, 0, none⟩) (cs.length + 1) k2))
      go_ret
      refine ⟨rfl, .slice (some ⟨g1, 0, none⟩) (gs.length + 1) k1, .slice (some ⟨g2, 0, none⟩) (cs.length + 1) k2, ?_⟩
      have h := HF.out
      rw [i64s_app, u64s_app] at h
      unfold Book
      rw [List.length_append, List.length_append]
      exact h
end Go.Proofs.Ytihndipgdogebaa
