/- More rules by which the walk reckons with bit vectors. No program in sight. -/
import Derived.Test.YthaiibfnjgfgjaaDoorBv
namespace Go.Proofs.YthaiibfnjgfgjaaDoor
open Go.RowKit
theorem wU64 (n : Int) : IntKind.u64.wrap n = n % (18446744073709551616 : Int) := by simp [IntKind.wrap, IntKind.bits, IntKind.signed]
theorem wU16 (n : Int) : IntKind.u16.wrap n = n % 65536 := by simp [IntKind.wrap, IntKind.bits, IntKind.signed]
theorem n16_of (x : Int) (h0 : 0 ≤ x) (h1 : x < 65536) : x = n16 (BitVec.ofNat 16 x.toNat) := by unfold n16; simp; omega
@[go_sem] theorem wrap64_8 (a : BitVec 8) : IntKind.u64.wrap (n8 a) = n64 (a.setWidth 64) := by
  have := a.isLt
  rw [wU64]; unfold n8 n64; rw [BitVec.toNat_setWidth]; omega
@[go_sem] theorem wrap64_16 (a : BitVec 16) : IntKind.u64.wrap (n16 a) = n64 (a.setWidth 64) := by
  have := a.isLt
  rw [wU64]; unfold n16 n64; rw [BitVec.toNat_setWidth]; omega
@[go_sem] theorem wrap64_32 (a : BitVec 32) : IntKind.u64.wrap (n32 a) = n64 (a.setWidth 64) := by
  have := a.isLt
  rw [wU64]; unfold n32 n64; rw [BitVec.toNat_setWidth]; omega
@[go_sem] theorem wrap8_64 (a : BitVec 64) : IntKind.u8.wrap (n64 a) = n8 (a.setWidth 8) := by
  rw [IntKind.wrap_u8']; unfold n8 n64; rw [BitVec.toNat_setWidth]; omega
@[go_sem] theorem wrap16_64 (a : BitVec 64) : IntKind.u16.wrap (n64 a) = n16 (a.setWidth 16) := by
  rw [wU16]; unfold n16 n64; rw [BitVec.toNat_setWidth]; omega
@[go_sem] theorem wrap32_64 (a : BitVec 64) : IntKind.u32.wrap (n64 a) = n32 (a.setWidth 32) := by
  rw [IntKind.wrap_u32']; unfold n32 n64; rw [BitVec.toNat_setWidth]; omega
@[go_sem] theorem mod8_64 (a : BitVec 64) : n64 a % (256 : Int) = n8 (a.setWidth 8) := by
  unfold n8 n64; rw [BitVec.toNat_setWidth]; omega
@[go_sem] theorem mod8_16 (a : BitVec 16) : n16 a % (256 : Int) = n8 (a.setWidth 8) := by
  unfold n8 n16; rw [BitVec.toNat_setWidth]; omega
@[go_sem] theorem mod8_32 (a : BitVec 32) : n32 a % (256 : Int) = n8 (a.setWidth 8) := by
  unfold n8 n32; rw [BitVec.toNat_setWidth]; omega
@[go_sem] theorem div64_pow (a : BitVec 64) (m : Nat) : n64 a / (2 : Int) ^ m = n64 (a >>> m) := by
  unfold n64; rw [BitVec.toNat_ushiftRight, Nat.shiftRight_eq_div_pow]; simp
@[go_sem] theorem div64_256 (a : BitVec 64) : n64 a / (256 : Int) = n64 (a >>> 8) := by
  unfold n64; rw [BitVec.toNat_ushiftRight, Nat.shiftRight_eq_div_pow]; simp
@[go_sem] theorem shl64_8' (a : BitVec 64) : (n64 a * (256 : Int)) % (18446744073709551616 : Int) = n64 (a <<< 8) := by
  unfold n64; rw [BitVec.toNat_shiftLeft, Nat.shiftLeft_eq]; omega
@[go_sem] theorem shl64_8 (a : BitVec 64) : IntKind.u64.wrap (n64 a * (256 : Int)) = n64 (a <<< 8) := by
  rw [wU64, shl64_8']
@[go_sem] theorem or64 (a b : BitVec 64) : bits .or .u64 (n64 a) (n64 b) = n64 (a ||| b) := by
  unfold n64; rw [u64_or_nat _ _ a.isLt b.isLt, BitVec.toNat_or]
@[go_sem] theorem xor64 (a b : BitVec 64) : bits .xor .u64 (n64 a) (n64 b) = n64 (a ^^^ b) := by
  unfold n64; rw [u64_xor_nat _ _ a.isLt b.isLt, BitVec.toNat_xor]
end Go.Proofs.YthaiibfnjgfgjaaDoor
