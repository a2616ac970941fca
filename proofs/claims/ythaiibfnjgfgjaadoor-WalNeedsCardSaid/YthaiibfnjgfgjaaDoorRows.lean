/-
  NARROWER THAN 'FOR EVERY INPUT', by the rows' own cells (each row's printed sentence says how): WalNeeds: laid · WalWhole: laid · WalKept: laid · WalEvery: laid · WalSteps: laid · WalClaims: laid.
  DERIVED. THE GIVEN ROWS OF THIS SEAT. 6 by the template 'for every input the law returns true; each argument reads behind the call as it read before'; 0 by the template 'total and deterministic' (their statements: YthaiibfnjgfgjaaDoorTotals.lean).
  GIVEN WITH THE SEED: the statements are not yours to turn. If you find one false, say at which input.
  Laid BY PROGRAM, IN A SANDBOX (cutbox-rows.mjs): the forced cells as the released guide's own fill.sh prints them over the translation e24b1088528eef2c… (all of the seat's roots in one cut). By AI agents, Wed Nov 11 2026. No macro, syntax, notation, axiom, sorry.
-/
import Derived.Test.YthaiibfnjgfgjaaDoorChecked
import GoSem.Claim
import GoSem.ClaimJoined
import GoSem.ClaimMapViews
import Derived.JoinedTies
import Derived.KernelRfl
namespace Go.Proofs.YthaiibfnjgfgjaaDoor
/- THE CELL 'sum', in the pinned program and in every row, IS THE sha256 OF THE DUMP (.gsa) THAT YthaiibfnjgfgjaaDoorProg.lean LOADS. Nothing in Lean hashes anything: it is a label: what it is worth is what the hold of that sum in a sandbox is worth. -/
noncomputable def Tryd.pinned : Pinned := { name := "ythaiibfnjgfgjaadoor", sum := "e24b1088528eef2ccc512eba00b9f8ca133387d924e32b4e016a61da17454522", checked := Tryd.checked }
namespace Rows
def none {H : Type} : Left H := { results := [], args := [] }

/- WHAT THE LISTED PACKAGE-LEVEL VARIABLES READ AS WHEN THE CALL BEGINS. Each datum BY PROGRAM (the guide's laid-datum.mjs) off the statement by which the dump's own 'gosem.cut.vars' lays the variable. In a bare row this is a premise. The card (YthaiibfnjgfgjaaDoorCards.lean) ties it to the program's text. -/
def laid_culvert_crc_half {H : Type} : DataW H := .agg [.lit (.int .u32 0), .lit (.int .u32 274646895), .lit (.int .u32 549293790), .lit (.int .u32 820201905), .lit (.int .u32 1098587580), .lit (.int .u32 1361435347), .lit (.int .u32 1640403810), .lit (.int .u32 1905808397), .lit (.int .u32 2197175160), .lit (.int .u32 2460548119), .lit (.int .u32 2722870694), .lit (.int .u32 2987750089), .lit (.int .u32 3280807620), .lit (.int .u32 3553878443), .lit (.int .u32 3811616794), .lit (.int .u32 4084100981)]

/-- 'culvertlaw12.WalNeeds': WHATEVER THE INPUT: true; the input reads as it did. -/
def walNeedsSpec : ChangeSpec := { name := "walNeeds", fn := fun _ => fun
  | [d] => { results := [.lit (.bool true)], args := [d] }
  | _ => none }
def walNeedsRow : OpenClaim := { program := "ythaiibfnjgfgjaadoor", sum := "e24b1088528eef2ccc512eba00b9f8ca133387d924e32b4e016a61da17454522", func := "culvert/culvertlaw12.WalNeeds", spec := "walNeeds", unfollowed := true, recurses := true, named := ["culvert/crc.half"], apart := false, laid := [("culvert/crc.half", laid_culvert_crc_half)] }
def WalNeedsSaid : Prop := walNeedsRow.holds Tryd.pinned (OpenSpec.ofChange walNeedsSpec)

/-- ITS FALSE NEIGHBOUR: 'it returns false'. Refute it at one input. -/
def walNeedsWrong : ChangeSpec := { name := "walNeeds", fn := fun _ => fun
  | [d] => { results := [.lit (.bool false)], args := [d] }
  | _ => none }
def WalNeedsWrongFalsely : Prop := walNeedsRow.holds Tryd.pinned (OpenSpec.ofChange walNeedsWrong)

/-- 'culvertlaw12.WalWhole': WHATEVER THE INPUT: true; the input reads as it did. -/
def walWholeSpec : ChangeSpec := { name := "walWhole", fn := fun _ => fun
  | [d1, d2] => { results := [.lit (.bool true)], args := [d1, d2] }
  | _ => none }
def walWholeRow : OpenClaim := { program := "ythaiibfnjgfgjaadoor", sum := "e24b1088528eef2ccc512eba00b9f8ca133387d924e32b4e016a61da17454522", func := "culvert/culvertlaw12.WalWhole", spec := "walWhole", unfollowed := true, recurses := true, named := ["culvert/crc.half"], apart := false, laid := [("culvert/crc.half", laid_culvert_crc_half)] }
def WalWholeSaid : Prop := walWholeRow.holds Tryd.pinned (OpenSpec.ofChange walWholeSpec)

/-- ITS FALSE NEIGHBOUR: 'it returns false'. Refute it at one input. -/
def walWholeWrong : ChangeSpec := { name := "walWhole", fn := fun _ => fun
  | [d1, d2] => { results := [.lit (.bool false)], args := [d1, d2] }
  | _ => none }
def WalWholeWrongFalsely : Prop := walWholeRow.holds Tryd.pinned (OpenSpec.ofChange walWholeWrong)

/-- 'culvertlaw12.WalKept': WHATEVER THE INPUT: true; the input reads as it did. -/
def walKeptSpec : ChangeSpec := { name := "walKept", fn := fun _ => fun
  | [d1, d2] => { results := [.lit (.bool true)], args := [d1, d2] }
  | _ => none }
def walKeptRow : OpenClaim := { program := "ythaiibfnjgfgjaadoor", sum := "e24b1088528eef2ccc512eba00b9f8ca133387d924e32b4e016a61da17454522", func := "culvert/culvertlaw12.WalKept", spec := "walKept", unfollowed := true, recurses := true, named := ["culvert/crc.half"], apart := false, laid := [("culvert/crc.half", laid_culvert_crc_half)] }
def WalKeptSaid : Prop := walKeptRow.holds Tryd.pinned (OpenSpec.ofChange walKeptSpec)

/-- ITS FALSE NEIGHBOUR: 'it returns false'. Refute it at one input. -/
def walKeptWrong : ChangeSpec := { name := "walKept", fn := fun _ => fun
  | [d1, d2] => { results := [.lit (.bool false)], args := [d1, d2] }
  | _ => none }
def WalKeptWrongFalsely : Prop := walKeptRow.holds Tryd.pinned (OpenSpec.ofChange walKeptWrong)

/-- 'culvertlaw12.WalEvery': WHATEVER THE INPUT: true; the input reads as it did. -/
def walEverySpec : ChangeSpec := { name := "walEvery", fn := fun _ => fun
  | [d1, d2, d3, d4, d5, d6] => { results := [.lit (.bool true)], args := [d1, d2, d3, d4, d5, d6] }
  | _ => none }
def walEveryRow : OpenClaim := { program := "ythaiibfnjgfgjaadoor", sum := "e24b1088528eef2ccc512eba00b9f8ca133387d924e32b4e016a61da17454522", func := "culvert/culvertlaw12.WalEvery", spec := "walEvery", unfollowed := true, recurses := true, named := ["culvert/crc.half"], apart := false, laid := [("culvert/crc.half", laid_culvert_crc_half)] }
def WalEverySaid : Prop := walEveryRow.holds Tryd.pinned (OpenSpec.ofChange walEverySpec)

/-- ITS FALSE NEIGHBOUR: 'it returns false'. Refute it at one input. -/
def walEveryWrong : ChangeSpec := { name := "walEvery", fn := fun _ => fun
  | [d1, d2, d3, d4, d5, d6] => { results := [.lit (.bool false)], args := [d1, d2, d3, d4, d5, d6] }
  | _ => none }
def WalEveryWrongFalsely : Prop := walEveryRow.holds Tryd.pinned (OpenSpec.ofChange walEveryWrong)

/-- 'culvertlaw12.WalSteps': WHATEVER THE INPUT: true; the input reads as it did. -/
def walStepsSpec : ChangeSpec := { name := "walSteps", fn := fun _ => fun
  | [d1, d2, d3, d4] => { results := [.lit (.bool true)], args := [d1, d2, d3, d4] }
  | _ => none }
def walStepsRow : OpenClaim := { program := "ythaiibfnjgfgjaadoor", sum := "e24b1088528eef2ccc512eba00b9f8ca133387d924e32b4e016a61da17454522", func := "culvert/culvertlaw12.WalSteps", spec := "walSteps", unfollowed := true, recurses := true, named := ["culvert/crc.half"], apart := false, laid := [("culvert/crc.half", laid_culvert_crc_half)] }
def WalStepsSaid : Prop := walStepsRow.holds Tryd.pinned (OpenSpec.ofChange walStepsSpec)

/-- ITS FALSE NEIGHBOUR: 'it returns false'. Refute it at one input. -/
def walStepsWrong : ChangeSpec := { name := "walSteps", fn := fun _ => fun
  | [d1, d2, d3, d4] => { results := [.lit (.bool false)], args := [d1, d2, d3, d4] }
  | _ => none }
def WalStepsWrongFalsely : Prop := walStepsRow.holds Tryd.pinned (OpenSpec.ofChange walStepsWrong)

/-- 'culvertlaw12.WalClaims': WHATEVER THE INPUT: true; the input reads as it did. -/
def walClaimsSpec : ChangeSpec := { name := "walClaims", fn := fun _ => fun
  | [d1, d2, d3, d4] => { results := [.lit (.bool true)], args := [d1, d2, d3, d4] }
  | _ => none }
def walClaimsRow : OpenClaim := { program := "ythaiibfnjgfgjaadoor", sum := "e24b1088528eef2ccc512eba00b9f8ca133387d924e32b4e016a61da17454522", func := "culvert/culvertlaw12.WalClaims", spec := "walClaims", unfollowed := true, recurses := true, named := ["culvert/crc.half"], apart := false, laid := [("culvert/crc.half", laid_culvert_crc_half)] }
def WalClaimsSaid : Prop := walClaimsRow.holds Tryd.pinned (OpenSpec.ofChange walClaimsSpec)

/-- ITS FALSE NEIGHBOUR: 'it returns false'. Refute it at one input. -/
def walClaimsWrong : ChangeSpec := { name := "walClaims", fn := fun _ => fun
  | [d1, d2, d3, d4] => { results := [.lit (.bool false)], args := [d1, d2, d3, d4] }
  | _ => none }
def WalClaimsWrongFalsely : Prop := walClaimsRow.holds Tryd.pinned (OpenSpec.ofChange walClaimsWrong)

/- THE SECOND FORM. 'bulk': how many values and letters a reading holds, each counted each time it is reached (what is shared counts as often as it is met; a slice's spare places count too). A statement '..UptoSaid' is the law's where the arguments, and the package variables that the reading takes, are together of bulk at most 1048576: NARROWER than '..Said'. Prove '..Said' where nothing that the law and all that it calls make is longer than what came in: it says more and counts as full. Else prove '..UptoSaid'. A law counts once. -/
mutual
def uptoBulk {H : Type} : DataW H → Nat
  | .lit (.string bytes) => bytes.length + 1
  | .lit _ => 1
  | .nil => 1
  | .ptr d => uptoBulk d + 1
  | .slice elems spare => uptoBulkAll elems + uptoBulkAll spare + 1
  | .agg parts => uptoBulkAll parts + 1
  | .iface _ d => uptoBulk d + 1
  | .map entries => uptoBulkEntries entries + 1
  | .held _ => 1
def uptoBulkAll {H : Type} : List (DataW H) → Nat
  | [] => 0
  | d :: r => uptoBulk d + uptoBulkAll r
def uptoBulkEntries {H : Type} : List (Lit × DataW H) → Nat
  | [] => 0
  | x :: r => uptoBulkEntry x + uptoBulkEntries r
def uptoBulkEntry {H : Type} : Lit × DataW H → Nat
  | (.string bytes, d) => bytes.length + uptoBulk d + 1
  | (_, d) => uptoBulk d + 1
 end
def uptoSmall : (H : Type) → List (DataW H) → Bool := fun _ ds => decide (uptoBulkAll ds ≤ 1048576)
def OpenSpec.upto (s : _root_.Go.ChangeSpec) : _root_.Go.OpenSpec := { _root_.Go.OpenSpec.ofChange s with cond := some uptoSmall }

/-- 'culvertlaw12.WalNeeds', WHERE WHAT IT READS IS OF BULK AT MOST 1048576: true; the input reads as it did. -/
def walNeedsUptoRow : OpenClaim := { program := "ythaiibfnjgfgjaadoor", sum := "e24b1088528eef2ccc512eba00b9f8ca133387d924e32b4e016a61da17454522", func := "culvert/culvertlaw12.WalNeeds", spec := "walNeeds", unfollowed := true, recurses := true, named := ["culvert/crc.half"], apart := false, laid := [("culvert/crc.half", laid_culvert_crc_half)], narrowed := true }
def WalNeedsUptoSaid : Prop := walNeedsUptoRow.holds Tryd.pinned (OpenSpec.upto walNeedsSpec)

/-- 'culvertlaw12.WalWhole', WHERE WHAT IT READS IS OF BULK AT MOST 1048576: true; the input reads as it did. -/
def walWholeUptoRow : OpenClaim := { program := "ythaiibfnjgfgjaadoor", sum := "e24b1088528eef2ccc512eba00b9f8ca133387d924e32b4e016a61da17454522", func := "culvert/culvertlaw12.WalWhole", spec := "walWhole", unfollowed := true, recurses := true, named := ["culvert/crc.half"], apart := false, laid := [("culvert/crc.half", laid_culvert_crc_half)], narrowed := true }
def WalWholeUptoSaid : Prop := walWholeUptoRow.holds Tryd.pinned (OpenSpec.upto walWholeSpec)

/-- 'culvertlaw12.WalKept', WHERE WHAT IT READS IS OF BULK AT MOST 1048576: true; the input reads as it did. -/
def walKeptUptoRow : OpenClaim := { program := "ythaiibfnjgfgjaadoor", sum := "e24b1088528eef2ccc512eba00b9f8ca133387d924e32b4e016a61da17454522", func := "culvert/culvertlaw12.WalKept", spec := "walKept", unfollowed := true, recurses := true, named := ["culvert/crc.half"], apart := false, laid := [("culvert/crc.half", laid_culvert_crc_half)], narrowed := true }
def WalKeptUptoSaid : Prop := walKeptUptoRow.holds Tryd.pinned (OpenSpec.upto walKeptSpec)

/-- 'culvertlaw12.WalEvery', WHERE WHAT IT READS IS OF BULK AT MOST 1048576: true; the input reads as it did. -/
def walEveryUptoRow : OpenClaim := { program := "ythaiibfnjgfgjaadoor", sum := "e24b1088528eef2ccc512eba00b9f8ca133387d924e32b4e016a61da17454522", func := "culvert/culvertlaw12.WalEvery", spec := "walEvery", unfollowed := true, recurses := true, named := ["culvert/crc.half"], apart := false, laid := [("culvert/crc.half", laid_culvert_crc_half)], narrowed := true }
def WalEveryUptoSaid : Prop := walEveryUptoRow.holds Tryd.pinned (OpenSpec.upto walEverySpec)

/-- 'culvertlaw12.WalSteps', WHERE WHAT IT READS IS OF BULK AT MOST 1048576: true; the input reads as it did. -/
def walStepsUptoRow : OpenClaim := { program := "ythaiibfnjgfgjaadoor", sum := "e24b1088528eef2ccc512eba00b9f8ca133387d924e32b4e016a61da17454522", func := "culvert/culvertlaw12.WalSteps", spec := "walSteps", unfollowed := true, recurses := true, named := ["culvert/crc.half"], apart := false, laid := [("culvert/crc.half", laid_culvert_crc_half)], narrowed := true }
def WalStepsUptoSaid : Prop := walStepsUptoRow.holds Tryd.pinned (OpenSpec.upto walStepsSpec)

/-- 'culvertlaw12.WalClaims', WHERE WHAT IT READS IS OF BULK AT MOST 1048576: true; the input reads as it did. -/
def walClaimsUptoRow : OpenClaim := { program := "ythaiibfnjgfgjaadoor", sum := "e24b1088528eef2ccc512eba00b9f8ca133387d924e32b4e016a61da17454522", func := "culvert/culvertlaw12.WalClaims", spec := "walClaims", unfollowed := true, recurses := true, named := ["culvert/crc.half"], apart := false, laid := [("culvert/crc.half", laid_culvert_crc_half)], narrowed := true }
def WalClaimsUptoSaid : Prop := walClaimsUptoRow.holds Tryd.pinned (OpenSpec.upto walClaimsSpec)

end Rows
end Go.Proofs.YthaiibfnjgfgjaaDoor
