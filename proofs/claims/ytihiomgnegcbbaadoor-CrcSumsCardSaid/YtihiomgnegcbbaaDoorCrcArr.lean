/- The walks of the program's linear maps: of, twice, step. -/
import Derived.Test.YtihiomgnegcbbaaDoorCrcUpd
import Derived.Deep.WholeRow
namespace Go.Proofs.YtihiomgnegcbbaaDoor
open Go.RowKit
/-- A map's array as cells. -/
def m32 (l : List (BitVec 32)) : Array Value := (l.map fun b => Value.int .u32 (n32 b)).toArray
theorem m32_size (l : List (BitVec 32)) : (m32 l).size = l.length := by simp [m32]
theorem m32_one (l : List (BitVec 32)) : (m32 l).all (·.oneCell') = true := by
  rw [Array.all_eq_true_iff_forall_mem]; intro v hv; simp [m32] at hv; obtain ⟨_, _, rfl⟩ := hv; rfl
theorem m32_get (l : List (BitVec 32)) (k : Nat) (h : k < l.length) : (m32 l)[k]? = some (.int .u32 (n32 (l.getD k 0#32))) := by simp [m32, List.getD, h]
theorem m32_set (l : List (BitVec 32)) (k : Nat) (x : BitVec 32) : (m32 l).setIfInBounds k (.int .u32 (n32 x)) = m32 (l.set k x) := by
  apply Array.ext'; simp [m32, List.map_set]
theorem info_u32 : (Tryd.prog.info? 25).map (fun i => (i.zero, i.size, i.bytes)) = some (some (.int .u32 0), 1, 4) := by kernel_rfl
theorem info_lin : (Tryd.prog.info? 45).map (·.size) = some 32 := by kernel_rfl
theorem bit_test (r : BitVec 32) (k : Nat) : (n32 ((r >>> k) &&& 1#32) == 1) = r.getLsbD k := by
  rw [show (1 : Int) = n32 1#32 from by unfold n32; rfl, n32_beq, Bool.eq_iff_iff, beq_iff_eq]
  constructor
  · intro h
    have := congrArg (fun x => x.getLsbD 0) h
    simpa using this
  · intro h
    ext i hi
    rcases Nat.eq_zero_or_pos i with rfl | h1
    · simp only [BitVec.getElem_and, BitVec.getElem_ushiftRight, Nat.add_zero, h]; rfl
    · simp; intro; omega
theorem shr_pow (r : BitVec 32) (k : Nat) : n32 r / 2 ^ k = n32 (r >>> k) := by
  unfold n32; rw [BitVec.toNat_ushiftRight, Nat.shiftRight_eq_div_pow]; simp
theorem index_lin (l : List (BitVec 32)) (hl : l.length = 32) (k : Nat) (hk : k < 32) (w : World) :
    (Instr.index 45 (.agg (m32 l)) (.int .i64 k)).run Tryd.prog w = .ok (.int .u32 (n32 (l.getD k 0#32))) w := by
  have h1 := run_underlying Tryd.underlying45 w
  have h2 := run_underlying Tryd.underlying25 w
  obtain ⟨i0, hi, hz0, hz1, hz2⟩ := info_parts info_u32
  have h3 : (sizeOf 25).run Tryd.prog w = .ok 1 w := by simp [sizeOf, typeInfo, hi, hz1]
  have h5 : (0 : Int) ≤ k ∧ (k : Int) < 32 := by omega
  have h6 := m32_get l k (by omega)
  simp [Instr.index, asIntOf, h1, h3, part, h6, hk]
set_option maxHeartbeats 400000 in
theorem crcOf (l : List (BitVec 32)) (hl : l.length = 32) (r : BitVec 32) (w : World) :
   Calls Tryd.prog 26 #[.agg (m32 l), .int .u32 (n32 r)] w fun e w' => e = .returned (.int .u32 (n32 (Crc.img l r 32))) ∧ Below w.heap.size w w' := by
  have hsz : (Tryd.prog.info? 45).map (·.size) = some (m32 l).size := by rw [m32_size, hl]; exact info_lin
  have HI := Lib.hid (index_lin l hl)
  have HZ := Lib.hid hsz
  clear hl hsz
  go_enter Tryd.func26, Tryd.ntmps26
  go_wp2_with (with_reducible refine wpList_load_row rfl 45 (.tmp 2) rfl w.heap.size rfl 45 (m32 l) (0, 0) _ (heap_alloc_new w _) Tryd.underlying45 rfl HZ.out ?_)
  go_loop [5, 9] (fun v i => ∃ k : Nat, k ≤ 32 ∧ i = .int .i64 k ∧ v = .int .u32 (n32 (Crc.img l r k))) (fun _ i => 32 - (intOf i).toNat)
  case atStart => exact ⟨0, Nat.zero_le _, rfl, by unfold n32; rfl⟩
  case round =>
    obtain ⟨k, hk, rfl, rfl⟩ := hrel
    by_cases hlt : k < 32
    · have hi := fun w => HI.out k hlt w
      have hs : ∀ a : BitVec 32, n32 a / 2 ^ k = n32 (a >>> k) := fun a => shr_pow a k
      have hb := bit_test r k
      obtain ⟨x, hx⟩ : ∃ x, l.getD k 0#32 = x := ⟨_, rfl⟩
      rw [hx] at hi
      have hS : Crc.img l r (k + 1) = if r.getLsbD k then Crc.img l r k ^^^ x else Crc.img l r k := by rw [← hx]; rfl
      clear hx
      cases hbit : r.getLsbD k
      all_goals
        rw [hbit] at hb hS
        have HS := Lib.hid hS
        clear hS hbit
        go_wp2
        go_round
        case rel => exact ⟨k + 1, by omega, by go_num, by rw [HS.out]; rfl⟩
        case measure => simp [intOf]; omega
    · obtain rfl : k = 32 := by omega
      go_wp2
      go_ret
      exact ⟨rfl, (Below.refl _ _).alloc (Nat.le_refl _) _⟩
end Go.Proofs.YtihiomgnegcbbaaDoor
