/- A slice of bytes cut: one value, whatever lies at the end. -/
import Derived.Test.YthaiibfnjgfgjaaDoorProg
import Derived.Test.YthaiibfnjgfgjaaDoorMem
import Derived.Laws.Slices
namespace Go.Proofs.YthaiibfnjgfgjaaDoor
open Go.RowKit
/-- Where a cut from lo on lies (Go does not point behind the end). -/
def cutAt (ao : Option Addr) (cap lo : Nat) : Option Addr := if cap = lo then ao else ao.map (·.add lo)
theorem Rd.cut {w : World} {ao : Option Addr} {l : List (BitVec 8)} (h : Rd w ao l) (cap lo n : Nat) (hl : lo + n ≤ l.length) (hc : l.length ≤ cap) : Rd w (cutAt ao cap lo) ((l.drop lo).take n) := by
  unfold cutAt
  split
  · have : (l.drop lo).take n = [] := by rw [List.take_eq_nil_iff]; right; exact List.drop_eq_nil_of_le (by omega)
    rw [this]; exact Rd.nil _ _
  · rcases h with rfl | ⟨b, o, rfl, hx⟩
    · simp [Rd.nil]
    · rw [show (some (⟨b, o, none⟩ : Addr)).map (·.add lo) = some ⟨b, o + lo, none⟩ by simp [Addr.add_lit]]
      exact (Rd.drop (Or.inr ⟨b, o, rfl, hx⟩) lo).take n
theorem cutAt_none (cap lo : Nat) : cutAt none cap lo = none := by unfold cutAt; split <;> rfl
theorem sizeRun (u : World) : (sizeOf (Tryd.prog.elem 29)).run Tryd.prog u = .ok 1 u := by kernel_rfl
theorem elem_u8 : Tryd.prog.underlying 29 = some (.slice (Tryd.prog.elem 29)) := by kernel_rfl
theorem cutRun (ao : Option Addr) (len cap lo n : Nat) (h : lo + n ≤ cap) (u : World) :
    (Instr.slice 29 (.slice ao len cap) (some (.int .i64 (lo : Int))) (some (.int .i64 ((lo : Int) + (n : Int)))) none).run Tryd.prog u = .ok (.slice (cutAt ao cap lo) n (cap - lo)) u := by
  rw [run_slice_lh _ _ _ _ _ elem_u8 _ _ _ _ (by omega) (by omega) (by omega), sizeRun]
  simp only [Result.andThen, sliced, cutAt]
  rw [show ((lo : Int)).toNat = lo by omega, show ((lo : Int) + (n : Int)).toNat = lo + n by omega, Nat.add_sub_cancel_left, Nat.mul_one]
theorem cutRunL (ao : Option Addr) (len cap lo : Nat) (h : lo ≤ len) (u : World) :
    (Instr.slice 29 (.slice ao len cap) (some (.int .i64 (lo : Int))) none none).run Tryd.prog u = .ok (.slice (cutAt ao cap lo) (len - lo) (cap - lo)) u := by
  rw [run_slice_l _ _ _ _ _ elem_u8 _ _ (by omega) (by omega), sizeRun]
  simp only [Result.andThen, sliced, cutAt]
  rw [show ((lo : Int)).toNat = lo by omega, Nat.mul_one]
theorem wrapI64 (x : Int) (h0 : -9223372036854775808 ≤ x) (h1 : x ≤ 9223372036854775807) : IntKind.i64.wrap x = x := by
  simp [IntKind.wrap, IntKind.bits, IntKind.signed]; omega
theorem cutAt_def (ao : Option Addr) (cap lo : Nat) : (if cap = lo then ao else Option.map (fun x => x.add lo) ao) = cutAt ao cap lo := rfl
end Go.Proofs.YthaiibfnjgfgjaaDoor
