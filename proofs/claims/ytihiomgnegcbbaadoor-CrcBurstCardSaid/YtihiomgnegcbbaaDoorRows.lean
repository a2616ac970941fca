/-
  NARROWER THAN 'FOR EVERY INPUT', by the rows' own cells (each row's printed sentence says how): CrcSums: laid · CrcUpdates: laid · CrcJoins: laid · CrcParts: laid · CrcLinear: laid · CrcBurst: laid · CrcOdd: laid · CrcTwo: laid · CrcBehind: laid · CrcRound: laid.
  DERIVED. THE GIVEN ROWS OF THIS SEAT. 10 by the template 'for every input the law returns true; each argument reads behind the call as it read before'; 0 by the template 'total and deterministic' (their statements: YtihiomgnegcbbaaDoorTotals.lean).
  GIVEN WITH THE SEED: the statements are not yours to turn. If you find one false, say at which input.
  Laid BY PROGRAM, IN A SANDBOX (cutbox-rows.mjs): the forced cells as the released guide's own fill.sh prints them over the translation 95a241b4b773c42f… (all of the seat's roots in one cut). By AI agents, Wed Nov 11 2026. No macro, syntax, notation, axiom, sorry.
-/
import Derived.Test.YtihiomgnegcbbaaDoorChecked
import GoSem.Claim
import GoSem.ClaimJoined
import GoSem.ClaimMapViews
import Derived.JoinedTies
import Derived.KernelRfl
namespace Go.Proofs.YtihiomgnegcbbaaDoor
/- THE CELL 'sum', in the pinned program and in every row, IS THE sha256 OF THE DUMP (.gsa) THAT YtihiomgnegcbbaaDoorProg.lean LOADS. Nothing in Lean hashes anything: it is a label: what it is worth is what the hold of that sum in a sandbox is worth. -/
noncomputable def Tryd.pinned : Pinned := { name := "ytihiomgnegcbbaadoor", sum := "95a241b4b773c42f778ac702ab4bb41c8c867e4f736558119e824aeae2e8163a", checked := Tryd.checked }
namespace Rows
def none {H : Type} : Left H := { results := [], args := [] }

/- WHAT THE LISTED PACKAGE-LEVEL VARIABLES READ AS WHEN THE CALL BEGINS. Each datum BY PROGRAM (the guide's laid-datum.mjs) off the statement by which the dump's own 'gosem.cut.vars' lays the variable. In a bare row this is a premise. The card (YtihiomgnegcbbaaDoorCards.lean) ties it to the program's text. -/
def laid_culvert_crc_half {H : Type} : DataW H := .agg [.lit (.int .u32 0), .lit (.int .u32 274646895), .lit (.int .u32 549293790), .lit (.int .u32 820201905), .lit (.int .u32 1098587580), .lit (.int .u32 1361435347), .lit (.int .u32 1640403810), .lit (.int .u32 1905808397), .lit (.int .u32 2197175160), .lit (.int .u32 2460548119), .lit (.int .u32 2722870694), .lit (.int .u32 2987750089), .lit (.int .u32 3280807620), .lit (.int .u32 3553878443), .lit (.int .u32 3811616794), .lit (.int .u32 4084100981)]

/-- 'culvertlaw2.CrcSums': WHATEVER THE INPUT: true; the input reads as it did. -/
def crcSumsSpec : ChangeSpec := { name := "crcSums", fn := fun _ => fun
  | [d1, d2, d3] => { results := [.lit (.bool true)], args := [d1, d2, d3] }
  | _ => none }
def crcSumsRow : OpenClaim := { program := "ytihiomgnegcbbaadoor", sum := "95a241b4b773c42f778ac702ab4bb41c8c867e4f736558119e824aeae2e8163a", func := "culvert/culvertlaw2.CrcSums", spec := "crcSums", named := ["culvert/crc.half"], apart := false, laid := [("culvert/crc.half", laid_culvert_crc_half)] }
def CrcSumsSaid : Prop := crcSumsRow.holds Tryd.pinned (OpenSpec.ofChange crcSumsSpec)

/-- ITS FALSE NEIGHBOUR: 'it returns false'. Refute it at one input. -/
def crcSumsWrong : ChangeSpec := { name := "crcSums", fn := fun _ => fun
  | [d1, d2, d3] => { results := [.lit (.bool false)], args := [d1, d2, d3] }
  | _ => none }
def CrcSumsWrongFalsely : Prop := crcSumsRow.holds Tryd.pinned (OpenSpec.ofChange crcSumsWrong)

/-- 'culvertlaw2.CrcUpdates': WHATEVER THE INPUT: true; the input reads as it did. -/
def crcUpdatesSpec : ChangeSpec := { name := "crcUpdates", fn := fun _ => fun
  | [d1, d2, d3, d4] => { results := [.lit (.bool true)], args := [d1, d2, d3, d4] }
  | _ => none }
def crcUpdatesRow : OpenClaim := { program := "ytihiomgnegcbbaadoor", sum := "95a241b4b773c42f778ac702ab4bb41c8c867e4f736558119e824aeae2e8163a", func := "culvert/culvertlaw2.CrcUpdates", spec := "crcUpdates", named := ["culvert/crc.half"], apart := false, laid := [("culvert/crc.half", laid_culvert_crc_half)] }
def CrcUpdatesSaid : Prop := crcUpdatesRow.holds Tryd.pinned (OpenSpec.ofChange crcUpdatesSpec)

/-- ITS FALSE NEIGHBOUR: 'it returns false'. Refute it at one input. -/
def crcUpdatesWrong : ChangeSpec := { name := "crcUpdates", fn := fun _ => fun
  | [d1, d2, d3, d4] => { results := [.lit (.bool false)], args := [d1, d2, d3, d4] }
  | _ => none }
def CrcUpdatesWrongFalsely : Prop := crcUpdatesRow.holds Tryd.pinned (OpenSpec.ofChange crcUpdatesWrong)

/-- 'culvertlaw2.CrcJoins': WHATEVER THE INPUT: true; the input reads as it did. -/
def crcJoinsSpec : ChangeSpec := { name := "crcJoins", fn := fun _ => fun
  | [d1, d2, d3] => { results := [.lit (.bool true)], args := [d1, d2, d3] }
  | _ => none }
def crcJoinsRow : OpenClaim := { program := "ytihiomgnegcbbaadoor", sum := "95a241b4b773c42f778ac702ab4bb41c8c867e4f736558119e824aeae2e8163a", func := "culvert/culvertlaw2.CrcJoins", spec := "crcJoins", named := ["culvert/crc.half"], apart := false, laid := [("culvert/crc.half", laid_culvert_crc_half)] }
def CrcJoinsSaid : Prop := crcJoinsRow.holds Tryd.pinned (OpenSpec.ofChange crcJoinsSpec)

/-- ITS FALSE NEIGHBOUR: 'it returns false'. Refute it at one input. -/
def crcJoinsWrong : ChangeSpec := { name := "crcJoins", fn := fun _ => fun
  | [d1, d2, d3] => { results := [.lit (.bool false)], args := [d1, d2, d3] }
  | _ => none }
def CrcJoinsWrongFalsely : Prop := crcJoinsRow.holds Tryd.pinned (OpenSpec.ofChange crcJoinsWrong)

/-- 'culvertlaw2.CrcParts': WHATEVER THE INPUT: true; the input reads as it did. -/
def crcPartsSpec : ChangeSpec := { name := "crcParts", fn := fun _ => fun
  | [d1, d2, d3] => { results := [.lit (.bool true)], args := [d1, d2, d3] }
  | _ => none }
def crcPartsRow : OpenClaim := { program := "ytihiomgnegcbbaadoor", sum := "95a241b4b773c42f778ac702ab4bb41c8c867e4f736558119e824aeae2e8163a", func := "culvert/culvertlaw2.CrcParts", spec := "crcParts", named := ["culvert/crc.half"], apart := false, laid := [("culvert/crc.half", laid_culvert_crc_half)] }
def CrcPartsSaid : Prop := crcPartsRow.holds Tryd.pinned (OpenSpec.ofChange crcPartsSpec)

/-- ITS FALSE NEIGHBOUR: 'it returns false'. Refute it at one input. -/
def crcPartsWrong : ChangeSpec := { name := "crcParts", fn := fun _ => fun
  | [d1, d2, d3] => { results := [.lit (.bool false)], args := [d1, d2, d3] }
  | _ => none }
def CrcPartsWrongFalsely : Prop := crcPartsRow.holds Tryd.pinned (OpenSpec.ofChange crcPartsWrong)

/-- 'culvertlaw2.CrcLinear': WHATEVER THE INPUT: true; the input reads as it did. -/
def crcLinearSpec : ChangeSpec := { name := "crcLinear", fn := fun _ => fun
  | [d1, d2, d3] => { results := [.lit (.bool true)], args := [d1, d2, d3] }
  | _ => none }
def crcLinearRow : OpenClaim := { program := "ytihiomgnegcbbaadoor", sum := "95a241b4b773c42f778ac702ab4bb41c8c867e4f736558119e824aeae2e8163a", func := "culvert/culvertlaw2.CrcLinear", spec := "crcLinear", named := ["culvert/crc.half"], apart := false, laid := [("culvert/crc.half", laid_culvert_crc_half)] }
def CrcLinearSaid : Prop := crcLinearRow.holds Tryd.pinned (OpenSpec.ofChange crcLinearSpec)

/-- ITS FALSE NEIGHBOUR: 'it returns false'. Refute it at one input. -/
def crcLinearWrong : ChangeSpec := { name := "crcLinear", fn := fun _ => fun
  | [d1, d2, d3] => { results := [.lit (.bool false)], args := [d1, d2, d3] }
  | _ => none }
def CrcLinearWrongFalsely : Prop := crcLinearRow.holds Tryd.pinned (OpenSpec.ofChange crcLinearWrong)

/-- 'culvertlaw2.CrcBurst': WHATEVER THE INPUT: true; the input reads as it did. -/
def crcBurstSpec : ChangeSpec := { name := "crcBurst", fn := fun _ => fun
  | [d1, d2, d3] => { results := [.lit (.bool true)], args := [d1, d2, d3] }
  | _ => none }
def crcBurstRow : OpenClaim := { program := "ytihiomgnegcbbaadoor", sum := "95a241b4b773c42f778ac702ab4bb41c8c867e4f736558119e824aeae2e8163a", func := "culvert/culvertlaw2.CrcBurst", spec := "crcBurst", named := ["culvert/crc.half"], apart := false, laid := [("culvert/crc.half", laid_culvert_crc_half)] }
def CrcBurstSaid : Prop := crcBurstRow.holds Tryd.pinned (OpenSpec.ofChange crcBurstSpec)

/-- ITS FALSE NEIGHBOUR: 'it returns false'. Refute it at one input. -/
def crcBurstWrong : ChangeSpec := { name := "crcBurst", fn := fun _ => fun
  | [d1, d2, d3] => { results := [.lit (.bool false)], args := [d1, d2, d3] }
  | _ => none }
def CrcBurstWrongFalsely : Prop := crcBurstRow.holds Tryd.pinned (OpenSpec.ofChange crcBurstWrong)

/-- 'culvertlaw2.CrcOdd': WHATEVER THE INPUT: true; the input reads as it did. -/
def crcOddSpec : ChangeSpec := { name := "crcOdd", fn := fun _ => fun
  | [d1, d2] => { results := [.lit (.bool true)], args := [d1, d2] }
  | _ => none }
def crcOddRow : OpenClaim := { program := "ytihiomgnegcbbaadoor", sum := "95a241b4b773c42f778ac702ab4bb41c8c867e4f736558119e824aeae2e8163a", func := "culvert/culvertlaw2.CrcOdd", spec := "crcOdd", named := ["culvert/crc.half"], apart := false, laid := [("culvert/crc.half", laid_culvert_crc_half)] }
def CrcOddSaid : Prop := crcOddRow.holds Tryd.pinned (OpenSpec.ofChange crcOddSpec)

/-- ITS FALSE NEIGHBOUR: 'it returns false'. Refute it at one input. -/
def crcOddWrong : ChangeSpec := { name := "crcOdd", fn := fun _ => fun
  | [d1, d2] => { results := [.lit (.bool false)], args := [d1, d2] }
  | _ => none }
def CrcOddWrongFalsely : Prop := crcOddRow.holds Tryd.pinned (OpenSpec.ofChange crcOddWrong)

/-- 'culvertlaw2.CrcTwo': WHATEVER THE INPUT: true; the input reads as it did. -/
def crcTwoSpec : ChangeSpec := { name := "crcTwo", fn := fun _ => fun
  | [d1, d2, d3, d4] => { results := [.lit (.bool true)], args := [d1, d2, d3, d4] }
  | _ => none }
def crcTwoRow : OpenClaim := { program := "ytihiomgnegcbbaadoor", sum := "95a241b4b773c42f778ac702ab4bb41c8c867e4f736558119e824aeae2e8163a", func := "culvert/culvertlaw2.CrcTwo", spec := "crcTwo", named := ["culvert/crc.half"], apart := false, laid := [("culvert/crc.half", laid_culvert_crc_half)] }
def CrcTwoSaid : Prop := crcTwoRow.holds Tryd.pinned (OpenSpec.ofChange crcTwoSpec)

/-- ITS FALSE NEIGHBOUR: 'it returns false'. Refute it at one input. -/
def crcTwoWrong : ChangeSpec := { name := "crcTwo", fn := fun _ => fun
  | [d1, d2, d3, d4] => { results := [.lit (.bool false)], args := [d1, d2, d3, d4] }
  | _ => none }
def CrcTwoWrongFalsely : Prop := crcTwoRow.holds Tryd.pinned (OpenSpec.ofChange crcTwoWrong)

/-- 'culvertlaw2.CrcBehind': WHATEVER THE INPUT: true; the input reads as it did. -/
def crcBehindSpec : ChangeSpec := { name := "crcBehind", fn := fun _ => fun
  | [d] => { results := [.lit (.bool true)], args := [d] }
  | _ => none }
def crcBehindRow : OpenClaim := { program := "ytihiomgnegcbbaadoor", sum := "95a241b4b773c42f778ac702ab4bb41c8c867e4f736558119e824aeae2e8163a", func := "culvert/culvertlaw2.CrcBehind", spec := "crcBehind", named := ["culvert/crc.half"], apart := false, laid := [("culvert/crc.half", laid_culvert_crc_half)] }
def CrcBehindSaid : Prop := crcBehindRow.holds Tryd.pinned (OpenSpec.ofChange crcBehindSpec)

/-- ITS FALSE NEIGHBOUR: 'it returns false'. Refute it at one input. -/
def crcBehindWrong : ChangeSpec := { name := "crcBehind", fn := fun _ => fun
  | [d] => { results := [.lit (.bool false)], args := [d] }
  | _ => none }
def CrcBehindWrongFalsely : Prop := crcBehindRow.holds Tryd.pinned (OpenSpec.ofChange crcBehindWrong)

/-- 'culvertlaw2.CrcRound': WHATEVER THE INPUT: true; the input reads as it did. -/
def crcRoundSpec : ChangeSpec := { name := "crcRound", fn := fun _ => fun
  | [d1, d2, d3, d4, d5] => { results := [.lit (.bool true)], args := [d1, d2, d3, d4, d5] }
  | _ => none }
def crcRoundRow : OpenClaim := { program := "ytihiomgnegcbbaadoor", sum := "95a241b4b773c42f778ac702ab4bb41c8c867e4f736558119e824aeae2e8163a", func := "culvert/culvertlaw2.CrcRound", spec := "crcRound", named := ["culvert/crc.half"], apart := false, laid := [("culvert/crc.half", laid_culvert_crc_half)] }
def CrcRoundSaid : Prop := crcRoundRow.holds Tryd.pinned (OpenSpec.ofChange crcRoundSpec)

/-- ITS FALSE NEIGHBOUR: 'it returns false'. Refute it at one input. -/
def crcRoundWrong : ChangeSpec := { name := "crcRound", fn := fun _ => fun
  | [d1, d2, d3, d4, d5] => { results := [.lit (.bool false)], args := [d1, d2, d3, d4, d5] }
  | _ => none }
def CrcRoundWrongFalsely : Prop := crcRoundRow.holds Tryd.pinned (OpenSpec.ofChange crcRoundWrong)

/- THE SECOND FORM. 'bulk': how many values and letters a reading holds, each counted each time it is reached (what is shared counts as often as it is met; a slice's spare places count too). A statement '..UptoSaid' is the law's where the arguments, and the package variables that the reading takes, are together of bulk at most 1048576: NARROWER than '..Said'. Prove '..Said' where nothing that the law and all that it calls make is longer than what came in: it says more and counts as full. Else prove '..UptoSaid'. A law counts once. -/
mutual
def uptoBulk {H : Type} : DataW H → Nat
  | .lit (.string bytes) => bytes.length + 1
  | .lit _ => 1
  | .nil => 1
  | .ptr d => uptoBulk d + 1
  | .slice elems spare => uptoBulkAll elems + uptoBulkAll spare + 1
  | .agg parts => uptoBulkAll parts + 1
  | .iface _ d => uptoBulk d + 1
  | .map entries => uptoBulkEntries entries + 1
  | .held _ => 1
def uptoBulkAll {H : Type} : List (DataW H) → Nat
  | [] => 0
  | d :: r => uptoBulk d + uptoBulkAll r
def uptoBulkEntries {H : Type} : List (Lit × DataW H) → Nat
  | [] => 0
  | x :: r => uptoBulkEntry x + uptoBulkEntries r
def uptoBulkEntry {H : Type} : Lit × DataW H → Nat
  | (.string bytes, d) => bytes.length + uptoBulk d + 1
  | (_, d) => uptoBulk d + 1
 end
def uptoSmall : (H : Type) → List (DataW H) → Bool := fun _ ds => decide (uptoBulkAll ds ≤ 1048576)
def OpenSpec.upto (s : _root_.Go.ChangeSpec) : _root_.Go.OpenSpec := { _root_.Go.OpenSpec.ofChange s with cond := some uptoSmall }

/-- 'culvertlaw2.CrcSums', WHERE WHAT IT READS IS OF BULK AT MOST 1048576: true; the input reads as it did. -/
def crcSumsUptoRow : OpenClaim := { program := "ytihiomgnegcbbaadoor", sum := "95a241b4b773c42f778ac702ab4bb41c8c867e4f736558119e824aeae2e8163a", func := "culvert/culvertlaw2.CrcSums", spec := "crcSums", named := ["culvert/crc.half"], apart := false, laid := [("culvert/crc.half", laid_culvert_crc_half)], narrowed := true }
def CrcSumsUptoSaid : Prop := crcSumsUptoRow.holds Tryd.pinned (OpenSpec.upto crcSumsSpec)

/-- 'culvertlaw2.CrcUpdates', WHERE WHAT IT READS IS OF BULK AT MOST 1048576: true; the input reads as it did. -/
def crcUpdatesUptoRow : OpenClaim := { program := "ytihiomgnegcbbaadoor", sum := "95a241b4b773c42f778ac702ab4bb41c8c867e4f736558119e824aeae2e8163a", func := "culvert/culvertlaw2.CrcUpdates", spec := "crcUpdates", named := ["culvert/crc.half"], apart := false, laid := [("culvert/crc.half", laid_culvert_crc_half)], narrowed := true }
def CrcUpdatesUptoSaid : Prop := crcUpdatesUptoRow.holds Tryd.pinned (OpenSpec.upto crcUpdatesSpec)

/-- 'culvertlaw2.CrcJoins', WHERE WHAT IT READS IS OF BULK AT MOST 1048576: true; the input reads as it did. -/
def crcJoinsUptoRow : OpenClaim := { program := "ytihiomgnegcbbaadoor", sum := "95a241b4b773c42f778ac702ab4bb41c8c867e4f736558119e824aeae2e8163a", func := "culvert/culvertlaw2.CrcJoins", spec := "crcJoins", named := ["culvert/crc.half"], apart := false, laid := [("culvert/crc.half", laid_culvert_crc_half)], narrowed := true }
def CrcJoinsUptoSaid : Prop := crcJoinsUptoRow.holds Tryd.pinned (OpenSpec.upto crcJoinsSpec)

/-- 'culvertlaw2.CrcParts', WHERE WHAT IT READS IS OF BULK AT MOST 1048576: true; the input reads as it did. -/
def crcPartsUptoRow : OpenClaim := { program := "ytihiomgnegcbbaadoor", sum := "95a241b4b773c42f778ac702ab4bb41c8c867e4f736558119e824aeae2e8163a", func := "culvert/culvertlaw2.CrcParts", spec := "crcParts", named := ["culvert/crc.half"], apart := false, laid := [("culvert/crc.half", laid_culvert_crc_half)], narrowed := true }
def CrcPartsUptoSaid : Prop := crcPartsUptoRow.holds Tryd.pinned (OpenSpec.upto crcPartsSpec)

/-- 'culvertlaw2.CrcLinear', WHERE WHAT IT READS IS OF BULK AT MOST 1048576: true; the input reads as it did. -/
def crcLinearUptoRow : OpenClaim := { program := "ytihiomgnegcbbaadoor", sum := "95a241b4b773c42f778ac702ab4bb41c8c867e4f736558119e824aeae2e8163a", func := "culvert/culvertlaw2.CrcLinear", spec := "crcLinear", named := ["culvert/crc.half"], apart := false, laid := [("culvert/crc.half", laid_culvert_crc_half)], narrowed := true }
def CrcLinearUptoSaid : Prop := crcLinearUptoRow.holds Tryd.pinned (OpenSpec.upto crcLinearSpec)

/-- 'culvertlaw2.CrcBurst', WHERE WHAT IT READS IS OF BULK AT MOST 1048576: true; the input reads as it did. -/
def crcBurstUptoRow : OpenClaim := { program := "ytihiomgnegcbbaadoor", sum := "95a241b4b773c42f778ac702ab4bb41c8c867e4f736558119e824aeae2e8163a", func := "culvert/culvertlaw2.CrcBurst", spec := "crcBurst", named := ["culvert/crc.half"], apart := false, laid := [("culvert/crc.half", laid_culvert_crc_half)], narrowed := true }
def CrcBurstUptoSaid : Prop := crcBurstUptoRow.holds Tryd.pinned (OpenSpec.upto crcBurstSpec)

/-- 'culvertlaw2.CrcOdd', WHERE WHAT IT READS IS OF BULK AT MOST 1048576: true; the input reads as it did. -/
def crcOddUptoRow : OpenClaim := { program := "ytihiomgnegcbbaadoor", sum := "95a241b4b773c42f778ac702ab4bb41c8c867e4f736558119e824aeae2e8163a", func := "culvert/culvertlaw2.CrcOdd", spec := "crcOdd", named := ["culvert/crc.half"], apart := false, laid := [("culvert/crc.half", laid_culvert_crc_half)], narrowed := true }
def CrcOddUptoSaid : Prop := crcOddUptoRow.holds Tryd.pinned (OpenSpec.upto crcOddSpec)

/-- 'culvertlaw2.CrcTwo', WHERE WHAT IT READS IS OF BULK AT MOST 1048576: true; the input reads as it did. -/
def crcTwoUptoRow : OpenClaim := { program := "ytihiomgnegcbbaadoor", sum := "95a241b4b773c42f778ac702ab4bb41c8c867e4f736558119e824aeae2e8163a", func := "culvert/culvertlaw2.CrcTwo", spec := "crcTwo", named := ["culvert/crc.half"], apart := false, laid := [("culvert/crc.half", laid_culvert_crc_half)], narrowed := true }
def CrcTwoUptoSaid : Prop := crcTwoUptoRow.holds Tryd.pinned (OpenSpec.upto crcTwoSpec)

/-- 'culvertlaw2.CrcBehind', WHERE WHAT IT READS IS OF BULK AT MOST 1048576: true; the input reads as it did. -/
def crcBehindUptoRow : OpenClaim := { program := "ytihiomgnegcbbaadoor", sum := "95a241b4b773c42f778ac702ab4bb41c8c867e4f736558119e824aeae2e8163a", func := "culvert/culvertlaw2.CrcBehind", spec := "crcBehind", named := ["culvert/crc.half"], apart := false, laid := [("culvert/crc.half", laid_culvert_crc_half)], narrowed := true }
def CrcBehindUptoSaid : Prop := crcBehindUptoRow.holds Tryd.pinned (OpenSpec.upto crcBehindSpec)

/-- 'culvertlaw2.CrcRound', WHERE WHAT IT READS IS OF BULK AT MOST 1048576: true; the input reads as it did. -/
def crcRoundUptoRow : OpenClaim := { program := "ytihiomgnegcbbaadoor", sum := "95a241b4b773c42f778ac702ab4bb41c8c867e4f736558119e824aeae2e8163a", func := "culvert/culvertlaw2.CrcRound", spec := "crcRound", named := ["culvert/crc.half"], apart := false, laid := [("culvert/crc.half", laid_culvert_crc_half)], narrowed := true }
def CrcRoundUptoSaid : Prop := crcRoundUptoRow.holds Tryd.pinned (OpenSpec.upto crcRoundSpec)

end Rows
end Go.Proofs.YtihiomgnegcbbaaDoor
