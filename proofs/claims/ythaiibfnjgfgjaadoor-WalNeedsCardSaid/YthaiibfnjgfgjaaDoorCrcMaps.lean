/- Linear maps of registers as lists of images, and Join by them. No program in sight. -/
import Derived.Test.YthaiibfnjgfgjaaDoorCrcMath
namespace Go.Proofs.YthaiibfnjgfgjaaDoor
/-- The image of a register, of the first k bits alone. -/
def Crc.img (l : List (BitVec 32)) (r : BitVec 32) : Nat → BitVec 32
  | 0 => 0#32
  | k + 1 => if r.getLsbD k then Crc.img l r k ^^^ l.getD k 0#32 else Crc.img l r k
/-- The first k images done, the others still 0. -/
def Crc.tw (l : List (BitVec 32)) (k : Nat) : List (BitVec 32) := (List.range 32).map fun i => if i < k then Crc.img l (l.getD i 0#32) 32 else 0#32
/-- The map of one step, the first k images done. -/
def Crc.one (k : Nat) : List (BitVec 32) := (List.range 32).map fun i => if i < k then (if i = 0 then Crc.poly else 1#32 <<< (i - 1)) else 0#32
/-- The image of r under the map l, k times squared as asked for by the binary digits of k. -/
def Crc.pw : Nat → List (BitVec 32) → Nat → BitVec 32 → BitVec 32
  | 0, _, _, r => r
  | f + 1, l, k, r => if k = 0 then r else Crc.pw f (Crc.tw l 32) (k / 2) (if k % 2 = 1 then Crc.img l r 32 else r)
def Crc.join (a b : BitVec 32) (n : Int) : BitVec 32 := if n < 0 then 0#32 else Crc.pw 32 (Crc.one 32) (n.toNat % 2147483647 * 8 % 2147483647) a ^^^ b
end Go.Proofs.YthaiibfnjgfgjaaDoor
