/-
  NARROWER THAN 'FOR EVERY INPUT', by the rows' own cells (each row's printed sentence says how): SectorPuts: laid · SectorGets: laid · SectorRights: laid · SectorBack: laid · SectorOneForm: laid · SectorUnlike: laid · SectorTurned: laid · SectorBurst: laid.
  DERIVED. THE GIVEN ROWS OF THIS SEAT. 8 by the template 'for every input the law returns true; each argument reads behind the call as it read before'; 0 by the template 'total and deterministic' (their statements: YtinfhlepjmollaaDoorTotals.lean).
  GIVEN WITH THE SEED: the statements are not yours to turn. If you find one false, say at which input.
  Laid BY PROGRAM, IN A SANDBOX (cutbox-rows.mjs): the forced cells as the released guide's own fill.sh prints them over the translation 88b354654abd2de0… (all of the seat's roots in one cut). By AI agents, Wed Nov 11 2026. No macro, syntax, notation, axiom, sorry.
-/
import Derived.Test.YtinfhlepjmollaaDoorChecked
import GoSem.Claim
import GoSem.ClaimJoined
import GoSem.ClaimMapViews
import Derived.JoinedTies
import Derived.KernelRfl
namespace Go.Proofs.YtinfhlepjmollaaDoor
/- THE CELL 'sum', in the pinned program and in every row, IS THE sha256 OF THE DUMP (.gsa) THAT YtinfhlepjmollaaDoorProg.lean LOADS. Nothing in Lean hashes anything: it is a label: what it is worth is what the hold of that sum in a sandbox is worth. -/
noncomputable def Tryd.pinned : Pinned := { name := "ytinfhlepjmollaadoor", sum := "88b354654abd2de061b59a648562333390f341aa8512e720e9b0261e6b0e30c5", checked := Tryd.checked }
namespace Rows
def none {H : Type} : Left H := { results := [], args := [] }

/- WHAT THE LISTED PACKAGE-LEVEL VARIABLES READ AS WHEN THE CALL BEGINS. Each datum BY PROGRAM (the guide's laid-datum.mjs) off the statement by which the dump's own 'gosem.cut.vars' lays the variable. In a bare row this is a premise. The card (YtinfhlepjmollaaDoorCards.lean) ties it to the program's text. -/
def laid_culvert_crc_half {H : Type} : DataW H := .agg [.lit (.int .u32 0), .lit (.int .u32 274646895), .lit (.int .u32 549293790), .lit (.int .u32 820201905), .lit (.int .u32 1098587580), .lit (.int .u32 1361435347), .lit (.int .u32 1640403810), .lit (.int .u32 1905808397), .lit (.int .u32 2197175160), .lit (.int .u32 2460548119), .lit (.int .u32 2722870694), .lit (.int .u32 2987750089), .lit (.int .u32 3280807620), .lit (.int .u32 3553878443), .lit (.int .u32 3811616794), .lit (.int .u32 4084100981)]

/-- 'culvertlaw11.SectorPuts': WHATEVER THE INPUT: true; the input reads as it did. -/
def sectorPutsSpec : ChangeSpec := { name := "sectorPuts", fn := fun _ => fun
  | [d] => { results := [.lit (.bool true)], args := [d] }
  | _ => none }
def sectorPutsRow : OpenClaim := { program := "ytinfhlepjmollaadoor", sum := "88b354654abd2de061b59a648562333390f341aa8512e720e9b0261e6b0e30c5", func := "culvert/culvertlaw11.SectorPuts", spec := "sectorPuts", named := ["culvert/crc.half"], apart := false, laid := [("culvert/crc.half", laid_culvert_crc_half)] }
def SectorPutsSaid : Prop := sectorPutsRow.holds Tryd.pinned (OpenSpec.ofChange sectorPutsSpec)

/-- ITS FALSE NEIGHBOUR: 'it returns false'. Refute it at one input. -/
def sectorPutsWrong : ChangeSpec := { name := "sectorPuts", fn := fun _ => fun
  | [d] => { results := [.lit (.bool false)], args := [d] }
  | _ => none }
def SectorPutsWrongFalsely : Prop := sectorPutsRow.holds Tryd.pinned (OpenSpec.ofChange sectorPutsWrong)

/-- 'culvertlaw11.SectorGets': WHATEVER THE INPUT: true; the input reads as it did. -/
def sectorGetsSpec : ChangeSpec := { name := "sectorGets", fn := fun _ => fun
  | [d1, d2, d3] => { results := [.lit (.bool true)], args := [d1, d2, d3] }
  | _ => none }
def sectorGetsRow : OpenClaim := { program := "ytinfhlepjmollaadoor", sum := "88b354654abd2de061b59a648562333390f341aa8512e720e9b0261e6b0e30c5", func := "culvert/culvertlaw11.SectorGets", spec := "sectorGets", named := ["culvert/crc.half"], apart := false, laid := [("culvert/crc.half", laid_culvert_crc_half)] }
def SectorGetsSaid : Prop := sectorGetsRow.holds Tryd.pinned (OpenSpec.ofChange sectorGetsSpec)

/-- ITS FALSE NEIGHBOUR: 'it returns false'. Refute it at one input. -/
def sectorGetsWrong : ChangeSpec := { name := "sectorGets", fn := fun _ => fun
  | [d1, d2, d3] => { results := [.lit (.bool false)], args := [d1, d2, d3] }
  | _ => none }
def SectorGetsWrongFalsely : Prop := sectorGetsRow.holds Tryd.pinned (OpenSpec.ofChange sectorGetsWrong)

/-- 'culvertlaw11.SectorRights': WHATEVER THE INPUT: true; the input reads as it did. -/
def sectorRightsSpec : ChangeSpec := { name := "sectorRights", fn := fun _ => fun
  | [d1, d2, d3, d4, d5] => { results := [.lit (.bool true)], args := [d1, d2, d3, d4, d5] }
  | _ => none }
def sectorRightsRow : OpenClaim := { program := "ytinfhlepjmollaadoor", sum := "88b354654abd2de061b59a648562333390f341aa8512e720e9b0261e6b0e30c5", func := "culvert/culvertlaw11.SectorRights", spec := "sectorRights", named := ["culvert/crc.half"], apart := false, laid := [("culvert/crc.half", laid_culvert_crc_half)] }
def SectorRightsSaid : Prop := sectorRightsRow.holds Tryd.pinned (OpenSpec.ofChange sectorRightsSpec)

/-- ITS FALSE NEIGHBOUR: 'it returns false'. Refute it at one input. -/
def sectorRightsWrong : ChangeSpec := { name := "sectorRights", fn := fun _ => fun
  | [d1, d2, d3, d4, d5] => { results := [.lit (.bool false)], args := [d1, d2, d3, d4, d5] }
  | _ => none }
def SectorRightsWrongFalsely : Prop := sectorRightsRow.holds Tryd.pinned (OpenSpec.ofChange sectorRightsWrong)

/-- 'culvertlaw11.SectorBack': WHATEVER THE INPUT: true; the input reads as it did. -/
def sectorBackSpec : ChangeSpec := { name := "sectorBack", fn := fun _ => fun
  | [d1, d2] => { results := [.lit (.bool true)], args := [d1, d2] }
  | _ => none }
def sectorBackRow : OpenClaim := { program := "ytinfhlepjmollaadoor", sum := "88b354654abd2de061b59a648562333390f341aa8512e720e9b0261e6b0e30c5", func := "culvert/culvertlaw11.SectorBack", spec := "sectorBack", named := ["culvert/crc.half"], apart := false, laid := [("culvert/crc.half", laid_culvert_crc_half)] }
def SectorBackSaid : Prop := sectorBackRow.holds Tryd.pinned (OpenSpec.ofChange sectorBackSpec)

/-- ITS FALSE NEIGHBOUR: 'it returns false'. Refute it at one input. -/
def sectorBackWrong : ChangeSpec := { name := "sectorBack", fn := fun _ => fun
  | [d1, d2] => { results := [.lit (.bool false)], args := [d1, d2] }
  | _ => none }
def SectorBackWrongFalsely : Prop := sectorBackRow.holds Tryd.pinned (OpenSpec.ofChange sectorBackWrong)

/-- 'culvertlaw11.SectorOneForm': WHATEVER THE INPUT: true; the input reads as it did. -/
def sectorOneFormSpec : ChangeSpec := { name := "sectorOneForm", fn := fun _ => fun
  | [d] => { results := [.lit (.bool true)], args := [d] }
  | _ => none }
def sectorOneFormRow : OpenClaim := { program := "ytinfhlepjmollaadoor", sum := "88b354654abd2de061b59a648562333390f341aa8512e720e9b0261e6b0e30c5", func := "culvert/culvertlaw11.SectorOneForm", spec := "sectorOneForm", named := ["culvert/crc.half"], apart := false, laid := [("culvert/crc.half", laid_culvert_crc_half)] }
def SectorOneFormSaid : Prop := sectorOneFormRow.holds Tryd.pinned (OpenSpec.ofChange sectorOneFormSpec)

/-- ITS FALSE NEIGHBOUR: 'it returns false'. Refute it at one input. -/
def sectorOneFormWrong : ChangeSpec := { name := "sectorOneForm", fn := fun _ => fun
  | [d] => { results := [.lit (.bool false)], args := [d] }
  | _ => none }
def SectorOneFormWrongFalsely : Prop := sectorOneFormRow.holds Tryd.pinned (OpenSpec.ofChange sectorOneFormWrong)

/-- 'culvertlaw11.SectorUnlike': WHATEVER THE INPUT: true; the input reads as it did. -/
def sectorUnlikeSpec : ChangeSpec := { name := "sectorUnlike", fn := fun _ => fun
  | [d1, d2] => { results := [.lit (.bool true)], args := [d1, d2] }
  | _ => none }
def sectorUnlikeRow : OpenClaim := { program := "ytinfhlepjmollaadoor", sum := "88b354654abd2de061b59a648562333390f341aa8512e720e9b0261e6b0e30c5", func := "culvert/culvertlaw11.SectorUnlike", spec := "sectorUnlike", named := ["culvert/crc.half"], apart := false, laid := [("culvert/crc.half", laid_culvert_crc_half)] }
def SectorUnlikeSaid : Prop := sectorUnlikeRow.holds Tryd.pinned (OpenSpec.ofChange sectorUnlikeSpec)

/-- ITS FALSE NEIGHBOUR: 'it returns false'. Refute it at one input. -/
def sectorUnlikeWrong : ChangeSpec := { name := "sectorUnlike", fn := fun _ => fun
  | [d1, d2] => { results := [.lit (.bool false)], args := [d1, d2] }
  | _ => none }
def SectorUnlikeWrongFalsely : Prop := sectorUnlikeRow.holds Tryd.pinned (OpenSpec.ofChange sectorUnlikeWrong)

/-- 'culvertlaw11.SectorTurned': WHATEVER THE INPUT: true; the input reads as it did. -/
def sectorTurnedSpec : ChangeSpec := { name := "sectorTurned", fn := fun _ => fun
  | [d1, d2, d3] => { results := [.lit (.bool true)], args := [d1, d2, d3] }
  | _ => none }
def sectorTurnedRow : OpenClaim := { program := "ytinfhlepjmollaadoor", sum := "88b354654abd2de061b59a648562333390f341aa8512e720e9b0261e6b0e30c5", func := "culvert/culvertlaw11.SectorTurned", spec := "sectorTurned", named := ["culvert/crc.half"], apart := false, laid := [("culvert/crc.half", laid_culvert_crc_half)] }
def SectorTurnedSaid : Prop := sectorTurnedRow.holds Tryd.pinned (OpenSpec.ofChange sectorTurnedSpec)

/-- ITS FALSE NEIGHBOUR: 'it returns false'. Refute it at one input. -/
def sectorTurnedWrong : ChangeSpec := { name := "sectorTurned", fn := fun _ => fun
  | [d1, d2, d3] => { results := [.lit (.bool false)], args := [d1, d2, d3] }
  | _ => none }
def SectorTurnedWrongFalsely : Prop := sectorTurnedRow.holds Tryd.pinned (OpenSpec.ofChange sectorTurnedWrong)

/-- 'culvertlaw11.SectorBurst': WHATEVER THE INPUT: true; the input reads as it did. -/
def sectorBurstSpec : ChangeSpec := { name := "sectorBurst", fn := fun _ => fun
  | [d1, d2, d3] => { results := [.lit (.bool true)], args := [d1, d2, d3] }
  | _ => none }
def sectorBurstRow : OpenClaim := { program := "ytinfhlepjmollaadoor", sum := "88b354654abd2de061b59a648562333390f341aa8512e720e9b0261e6b0e30c5", func := "culvert/culvertlaw11.SectorBurst", spec := "sectorBurst", named := ["culvert/crc.half"], apart := false, laid := [("culvert/crc.half", laid_culvert_crc_half)] }
def SectorBurstSaid : Prop := sectorBurstRow.holds Tryd.pinned (OpenSpec.ofChange sectorBurstSpec)

/-- ITS FALSE NEIGHBOUR: 'it returns false'. Refute it at one input. -/
def sectorBurstWrong : ChangeSpec := { name := "sectorBurst", fn := fun _ => fun
  | [d1, d2, d3] => { results := [.lit (.bool false)], args := [d1, d2, d3] }
  | _ => none }
def SectorBurstWrongFalsely : Prop := sectorBurstRow.holds Tryd.pinned (OpenSpec.ofChange sectorBurstWrong)

/- THE SECOND FORM. 'bulk': how many values and letters a reading holds, each counted each time it is reached (what is shared counts as often as it is met; a slice's spare places count too). A statement '..UptoSaid' is the law's where the arguments, and the package variables that the reading takes, are together of bulk at most 1048576: NARROWER than '..Said'. Prove '..Said' where nothing that the law and all that it calls make is longer than what came in: it says more and counts as full. Else prove '..UptoSaid'. A law counts once. -/
mutual
def uptoBulk {H : Type} : DataW H → Nat
  | .lit (.string bytes) => bytes.length + 1
  | .lit _ => 1
  | .nil => 1
  | .ptr d => uptoBulk d + 1
  | .slice elems spare => uptoBulkAll elems + uptoBulkAll spare + 1
  | .agg parts => uptoBulkAll parts + 1
  | .iface _ d => uptoBulk d + 1
  | .map entries => uptoBulkEntries entries + 1
  | .held _ => 1
def uptoBulkAll {H : Type} : List (DataW H) → Nat
  | [] => 0
  | d :: r => uptoBulk d + uptoBulkAll r
def uptoBulkEntries {H : Type} : List (Lit × DataW H) → Nat
  | [] => 0
  | x :: r => uptoBulkEntry x + uptoBulkEntries r
def uptoBulkEntry {H : Type} : Lit × DataW H → Nat
  | (.string bytes, d) => bytes.length + uptoBulk d + 1
  | (_, d) => uptoBulk d + 1
 end
def uptoSmall : (H : Type) → List (DataW H) → Bool := fun _ ds => decide (uptoBulkAll ds ≤ 1048576)
def OpenSpec.upto (s : _root_.Go.ChangeSpec) : _root_.Go.OpenSpec := { _root_.Go.OpenSpec.ofChange s with cond := some uptoSmall }

/-- 'culvertlaw11.SectorPuts', WHERE WHAT IT READS IS OF BULK AT MOST 1048576: true; the input reads as it did. -/
def sectorPutsUptoRow : OpenClaim := { program := "ytinfhlepjmollaadoor", sum := "88b354654abd2de061b59a648562333390f341aa8512e720e9b0261e6b0e30c5", func := "culvert/culvertlaw11.SectorPuts", spec := "sectorPuts", named := ["culvert/crc.half"], apart := false, laid := [("culvert/crc.half", laid_culvert_crc_half)], narrowed := true }
def SectorPutsUptoSaid : Prop := sectorPutsUptoRow.holds Tryd.pinned (OpenSpec.upto sectorPutsSpec)

/-- 'culvertlaw11.SectorGets', WHERE WHAT IT READS IS OF BULK AT MOST 1048576: true; the input reads as it did. -/
def sectorGetsUptoRow : OpenClaim := { program := "ytinfhlepjmollaadoor", sum := "88b354654abd2de061b59a648562333390f341aa8512e720e9b0261e6b0e30c5", func := "culvert/culvertlaw11.SectorGets", spec := "sectorGets", named := ["culvert/crc.half"], apart := false, laid := [("culvert/crc.half", laid_culvert_crc_half)], narrowed := true }
def SectorGetsUptoSaid : Prop := sectorGetsUptoRow.holds Tryd.pinned (OpenSpec.upto sectorGetsSpec)

/-- 'culvertlaw11.SectorRights', WHERE WHAT IT READS IS OF BULK AT MOST 1048576: true; the input reads as it did. -/
def sectorRightsUptoRow : OpenClaim := { program := "ytinfhlepjmollaadoor", sum := "88b354654abd2de061b59a648562333390f341aa8512e720e9b0261e6b0e30c5", func := "culvert/culvertlaw11.SectorRights", spec := "sectorRights", named := ["culvert/crc.half"], apart := false, laid := [("culvert/crc.half", laid_culvert_crc_half)], narrowed := true }
def SectorRightsUptoSaid : Prop := sectorRightsUptoRow.holds Tryd.pinned (OpenSpec.upto sectorRightsSpec)

/-- 'culvertlaw11.SectorBack', WHERE WHAT IT READS IS OF BULK AT MOST 1048576: true; the input reads as it did. -/
def sectorBackUptoRow : OpenClaim := { program := "ytinfhlepjmollaadoor", sum := "88b354654abd2de061b59a648562333390f341aa8512e720e9b0261e6b0e30c5", func := "culvert/culvertlaw11.SectorBack", spec := "sectorBack", named := ["culvert/crc.half"], apart := false, laid := [("culvert/crc.half", laid_culvert_crc_half)], narrowed := true }
def SectorBackUptoSaid : Prop := sectorBackUptoRow.holds Tryd.pinned (OpenSpec.upto sectorBackSpec)

/-- 'culvertlaw11.SectorOneForm', WHERE WHAT IT READS IS OF BULK AT MOST 1048576: true; the input reads as it did. -/
def sectorOneFormUptoRow : OpenClaim := { program := "ytinfhlepjmollaadoor", sum := "88b354654abd2de061b59a648562333390f341aa8512e720e9b0261e6b0e30c5", func := "culvert/culvertlaw11.SectorOneForm", spec := "sectorOneForm", named := ["culvert/crc.half"], apart := false, laid := [("culvert/crc.half", laid_culvert_crc_half)], narrowed := true }
def SectorOneFormUptoSaid : Prop := sectorOneFormUptoRow.holds Tryd.pinned (OpenSpec.upto sectorOneFormSpec)

/-- 'culvertlaw11.SectorUnlike', WHERE WHAT IT READS IS OF BULK AT MOST 1048576: true; the input reads as it did. -/
def sectorUnlikeUptoRow : OpenClaim := { program := "ytinfhlepjmollaadoor", sum := "88b354654abd2de061b59a648562333390f341aa8512e720e9b0261e6b0e30c5", func := "culvert/culvertlaw11.SectorUnlike", spec := "sectorUnlike", named := ["culvert/crc.half"], apart := false, laid := [("culvert/crc.half", laid_culvert_crc_half)], narrowed := true }
def SectorUnlikeUptoSaid : Prop := sectorUnlikeUptoRow.holds Tryd.pinned (OpenSpec.upto sectorUnlikeSpec)

/-- 'culvertlaw11.SectorTurned', WHERE WHAT IT READS IS OF BULK AT MOST 1048576: true; the input reads as it did. -/
def sectorTurnedUptoRow : OpenClaim := { program := "ytinfhlepjmollaadoor", sum := "88b354654abd2de061b59a648562333390f341aa8512e720e9b0261e6b0e30c5", func := "culvert/culvertlaw11.SectorTurned", spec := "sectorTurned", named := ["culvert/crc.half"], apart := false, laid := [("culvert/crc.half", laid_culvert_crc_half)], narrowed := true }
def SectorTurnedUptoSaid : Prop := sectorTurnedUptoRow.holds Tryd.pinned (OpenSpec.upto sectorTurnedSpec)

/-- 'culvertlaw11.SectorBurst', WHERE WHAT IT READS IS OF BULK AT MOST 1048576: true; the input reads as it did. -/
def sectorBurstUptoRow : OpenClaim := { program := "ytinfhlepjmollaadoor", sum := "88b354654abd2de061b59a648562333390f341aa8512e720e9b0261e6b0e30c5", func := "culvert/culvertlaw11.SectorBurst", spec := "sectorBurst", named := ["culvert/crc.half"], apart := false, laid := [("culvert/crc.half", laid_culvert_crc_half)], narrowed := true }
def SectorBurstUptoSaid : Prop := sectorBurstUptoRow.holds Tryd.pinned (OpenSpec.upto sectorBurstSpec)

end Rows
end Go.Proofs.YtinfhlepjmollaaDoor
