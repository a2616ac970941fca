/-
  No cell of these rows narrows 'for every input' (looked for: loops, veiled, ifaces, maps, wideKeys, modest, calm, conditions, laid).
  DERIVED. THE GIVEN ROWS OF THIS SEAT. 7 by the template 'for every input the law returns true; each argument reads behind the call as it read before'; 0 by the template 'total and deterministic' (their statements: YtkndlpihhfjcpaaTotals.lean).
  GIVEN WITH THE SEED: the statements are not yours to turn. If you find one false, say at which input.
  Laid BY PROGRAM, IN A SANDBOX (cutbox-rows.mjs): the forced cells as the released guide's own fill.sh prints them over the translation cda821b77a055d91… (all of the seat's roots in one cut). By AI agents, Wed Nov 11 2026. No macro, syntax, notation, axiom, sorry.
-/
import Derived.Test.YtkndlpihhfjcpaaChecked
import GoSem.Claim
import GoSem.ClaimJoined
import GoSem.ClaimMapViews
import Derived.JoinedTies
import Derived.KernelRfl
namespace Go.Proofs.Ytkndlpihhfjcpaa
/- THE CELL 'sum', in the pinned program and in every row, IS THE sha256 OF THE DUMP (.gsa) THAT YtkndlpihhfjcpaaProg.lean LOADS. Nothing in Lean hashes anything: it is a label: what it is worth is what the hold of that sum in a sandbox is worth. -/
noncomputable def Try.pinned : Pinned := { name := "ytkndlpihhfjcpaa", sum := "cda821b77a055d914b31c248dde37f03e5abc21157b157c39983941521918afe", checked := Try.checked }
namespace Rows
def none {H : Type} : Left H := { results := [], args := [] }

/-- 'culvertlaw10.DiskArms': WHATEVER THE INPUT: true; the input reads as it did. -/
def diskArmsSpec : ChangeSpec := { name := "diskArms", fn := fun _ => fun
  | [d1, d2, d3] => { results := [.lit (.bool true)], args := [d1, d2, d3] }
  | _ => none }
def diskArmsRow : OpenClaim := { program := "ytkndlpihhfjcpaa", sum := "cda821b77a055d914b31c248dde37f03e5abc21157b157c39983941521918afe", func := "culvert/culvertlaw10.DiskArms", spec := "diskArms", unfollowed := true, recurses := true, apart := false }
def DiskArmsSaid : Prop := diskArmsRow.holds Try.pinned (OpenSpec.ofChange diskArmsSpec)

/-- ITS FALSE NEIGHBOUR: 'it returns false'. Refute it at one input. -/
def diskArmsWrong : ChangeSpec := { name := "diskArms", fn := fun _ => fun
  | [d1, d2, d3] => { results := [.lit (.bool false)], args := [d1, d2, d3] }
  | _ => none }
def DiskArmsWrongFalsely : Prop := diskArmsRow.holds Try.pinned (OpenSpec.ofChange diskArmsWrong)

/-- 'culvertlaw10.DiskClaims': WHATEVER THE INPUT: true; the input reads as it did. -/
def diskClaimsSpec : ChangeSpec := { name := "diskClaims", fn := fun _ => fun
  | [d] => { results := [.lit (.bool true)], args := [d] }
  | _ => none }
def diskClaimsRow : OpenClaim := { program := "ytkndlpihhfjcpaa", sum := "cda821b77a055d914b31c248dde37f03e5abc21157b157c39983941521918afe", func := "culvert/culvertlaw10.DiskClaims", spec := "diskClaims", unfollowed := true, recurses := true, apart := false }
def DiskClaimsSaid : Prop := diskClaimsRow.holds Try.pinned (OpenSpec.ofChange diskClaimsSpec)

/-- ITS FALSE NEIGHBOUR: 'it returns false'. Refute it at one input. -/
def diskClaimsWrong : ChangeSpec := { name := "diskClaims", fn := fun _ => fun
  | [d] => { results := [.lit (.bool false)], args := [d] }
  | _ => none }
def DiskClaimsWrongFalsely : Prop := diskClaimsRow.holds Try.pinned (OpenSpec.ofChange diskClaimsWrong)

/-- 'culvertlaw10.DiskLasts': WHATEVER THE INPUT: true; the input reads as it did. -/
def diskLastsSpec : ChangeSpec := { name := "diskLasts", fn := fun _ => fun
  | [d] => { results := [.lit (.bool true)], args := [d] }
  | _ => none }
def diskLastsRow : OpenClaim := { program := "ytkndlpihhfjcpaa", sum := "cda821b77a055d914b31c248dde37f03e5abc21157b157c39983941521918afe", func := "culvert/culvertlaw10.DiskLasts", spec := "diskLasts", unfollowed := true, recurses := true, apart := false }
def DiskLastsSaid : Prop := diskLastsRow.holds Try.pinned (OpenSpec.ofChange diskLastsSpec)

/-- ITS FALSE NEIGHBOUR: 'it returns false'. Refute it at one input. -/
def diskLastsWrong : ChangeSpec := { name := "diskLasts", fn := fun _ => fun
  | [d] => { results := [.lit (.bool false)], args := [d] }
  | _ => none }
def DiskLastsWrongFalsely : Prop := diskLastsRow.holds Try.pinned (OpenSpec.ofChange diskLastsWrong)

/-- 'culvertlaw10.DiskSurvivors': WHATEVER THE INPUT: true; the input reads as it did. -/
def diskSurvivorsSpec : ChangeSpec := { name := "diskSurvivors", fn := fun _ => fun
  | [d1, d2, d3, d4] => { results := [.lit (.bool true)], args := [d1, d2, d3, d4] }
  | _ => none }
def diskSurvivorsRow : OpenClaim := { program := "ytkndlpihhfjcpaa", sum := "cda821b77a055d914b31c248dde37f03e5abc21157b157c39983941521918afe", func := "culvert/culvertlaw10.DiskSurvivors", spec := "diskSurvivors", unfollowed := true, recurses := true, apart := false }
def DiskSurvivorsSaid : Prop := diskSurvivorsRow.holds Try.pinned (OpenSpec.ofChange diskSurvivorsSpec)

/-- ITS FALSE NEIGHBOUR: 'it returns false'. Refute it at one input. -/
def diskSurvivorsWrong : ChangeSpec := { name := "diskSurvivors", fn := fun _ => fun
  | [d1, d2, d3, d4] => { results := [.lit (.bool false)], args := [d1, d2, d3, d4] }
  | _ => none }
def DiskSurvivorsWrongFalsely : Prop := diskSurvivorsRow.holds Try.pinned (OpenSpec.ofChange diskSurvivorsWrong)

/-- 'culvertlaw10.DiskWide': WHATEVER THE INPUT: true; the input reads as it did. -/
def diskWideSpec : ChangeSpec := { name := "diskWide", fn := fun _ => fun
  | [d1, d2, d3, d4] => { results := [.lit (.bool true)], args := [d1, d2, d3, d4] }
  | _ => none }
def diskWideRow : OpenClaim := { program := "ytkndlpihhfjcpaa", sum := "cda821b77a055d914b31c248dde37f03e5abc21157b157c39983941521918afe", func := "culvert/culvertlaw10.DiskWide", spec := "diskWide", unfollowed := true, recurses := true, apart := false }
def DiskWideSaid : Prop := diskWideRow.holds Try.pinned (OpenSpec.ofChange diskWideSpec)

/-- ITS FALSE NEIGHBOUR: 'it returns false'. Refute it at one input. -/
def diskWideWrong : ChangeSpec := { name := "diskWide", fn := fun _ => fun
  | [d1, d2, d3, d4] => { results := [.lit (.bool false)], args := [d1, d2, d3, d4] }
  | _ => none }
def DiskWideWrongFalsely : Prop := diskWideRow.holds Try.pinned (OpenSpec.ofChange diskWideWrong)

/-- 'culvertlaw10.DiskMakes': WHATEVER THE INPUT: true; the input reads as it did. -/
def diskMakesSpec : ChangeSpec := { name := "diskMakes", fn := fun _ => fun
  | [d1, d2] => { results := [.lit (.bool true)], args := [d1, d2] }
  | _ => none }
def diskMakesRow : OpenClaim := { program := "ytkndlpihhfjcpaa", sum := "cda821b77a055d914b31c248dde37f03e5abc21157b157c39983941521918afe", func := "culvert/culvertlaw10.DiskMakes", spec := "diskMakes", unfollowed := true, recurses := true, apart := false }
def DiskMakesSaid : Prop := diskMakesRow.holds Try.pinned (OpenSpec.ofChange diskMakesSpec)

/-- ITS FALSE NEIGHBOUR: 'it returns false'. Refute it at one input. -/
def diskMakesWrong : ChangeSpec := { name := "diskMakes", fn := fun _ => fun
  | [d1, d2] => { results := [.lit (.bool false)], args := [d1, d2] }
  | _ => none }
def DiskMakesWrongFalsely : Prop := diskMakesRow.holds Try.pinned (OpenSpec.ofChange diskMakesWrong)

/-- 'culvertlaw10.DiskPlays': WHATEVER THE INPUT: true; the input reads as it did. -/
def diskPlaysSpec : ChangeSpec := { name := "diskPlays", fn := fun _ => fun
  | [d1, d2, d3] => { results := [.lit (.bool true)], args := [d1, d2, d3] }
  | _ => none }
def diskPlaysRow : OpenClaim := { program := "ytkndlpihhfjcpaa", sum := "cda821b77a055d914b31c248dde37f03e5abc21157b157c39983941521918afe", func := "culvert/culvertlaw10.DiskPlays", spec := "diskPlays", unfollowed := true, recurses := true, apart := false }
def DiskPlaysSaid : Prop := diskPlaysRow.holds Try.pinned (OpenSpec.ofChange diskPlaysSpec)

/-- ITS FALSE NEIGHBOUR: 'it returns false'. Refute it at one input. -/
def diskPlaysWrong : ChangeSpec := { name := "diskPlays", fn := fun _ => fun
  | [d1, d2, d3] => { results := [.lit (.bool false)], args := [d1, d2, d3] }
  | _ => none }
def DiskPlaysWrongFalsely : Prop := diskPlaysRow.holds Try.pinned (OpenSpec.ofChange diskPlaysWrong)

/- THE SECOND FORM. 'bulk': how many values and letters a reading holds, each counted each time it is reached (what is shared counts as often as it is met; a slice's spare places count too). A statement '..UptoSaid' is the law's where the arguments, and the package variables that the reading takes, are together of bulk at most 1048576: NARROWER than '..Said'. Prove '..Said' where nothing that the law and all that it calls make is longer than what came in: it says more and counts as full. Else prove '..UptoSaid'. A law counts once. -/
mutual
def uptoBulk {H : Type} : DataW H → Nat
  | .lit (.string bytes) => bytes.length + 1
  | .lit _ => 1
  | .nil => 1
  | .ptr d => uptoBulk d + 1
  | .slice elems spare => uptoBulkAll elems + uptoBulkAll spare + 1
  | .agg parts => uptoBulkAll parts + 1
  | .iface _ d => uptoBulk d + 1
  | .map entries => uptoBulkEntries entries + 1
  | .held _ => 1
def uptoBulkAll {H : Type} : List (DataW H) → Nat
  | [] => 0
  | d :: r => uptoBulk d + uptoBulkAll r
def uptoBulkEntries {H : Type} : List (Lit × DataW H) → Nat
  | [] => 0
  | x :: r => uptoBulkEntry x + uptoBulkEntries r
def uptoBulkEntry {H : Type} : Lit × DataW H → Nat
  | (.string bytes, d) => bytes.length + uptoBulk d + 1
  | (_, d) => uptoBulk d + 1
 end
def uptoSmall : (H : Type) → List (DataW H) → Bool := fun _ ds => decide (uptoBulkAll ds ≤ 1048576)
def OpenSpec.upto (s : _root_.Go.ChangeSpec) : _root_.Go.OpenSpec := { _root_.Go.OpenSpec.ofChange s with cond := some uptoSmall }

/-- 'culvertlaw10.DiskArms', WHERE WHAT IT READS IS OF BULK AT MOST 1048576: true; the input reads as it did. -/
def diskArmsUptoRow : OpenClaim := { program := "ytkndlpihhfjcpaa", sum := "cda821b77a055d914b31c248dde37f03e5abc21157b157c39983941521918afe", func := "culvert/culvertlaw10.DiskArms", spec := "diskArms", unfollowed := true, recurses := true, apart := false, narrowed := true }
def DiskArmsUptoSaid : Prop := diskArmsUptoRow.holds Try.pinned (OpenSpec.upto diskArmsSpec)

/-- 'culvertlaw10.DiskClaims', WHERE WHAT IT READS IS OF BULK AT MOST 1048576: true; the input reads as it did. -/
def diskClaimsUptoRow : OpenClaim := { program := "ytkndlpihhfjcpaa", sum := "cda821b77a055d914b31c248dde37f03e5abc21157b157c39983941521918afe", func := "culvert/culvertlaw10.DiskClaims", spec := "diskClaims", unfollowed := true, recurses := true, apart := false, narrowed := true }
def DiskClaimsUptoSaid : Prop := diskClaimsUptoRow.holds Try.pinned (OpenSpec.upto diskClaimsSpec)

/-- 'culvertlaw10.DiskLasts', WHERE WHAT IT READS IS OF BULK AT MOST 1048576: true; the input reads as it did. -/
def diskLastsUptoRow : OpenClaim := { program := "ytkndlpihhfjcpaa", sum := "cda821b77a055d914b31c248dde37f03e5abc21157b157c39983941521918afe", func := "culvert/culvertlaw10.DiskLasts", spec := "diskLasts", unfollowed := true, recurses := true, apart := false, narrowed := true }
def DiskLastsUptoSaid : Prop := diskLastsUptoRow.holds Try.pinned (OpenSpec.upto diskLastsSpec)

/-- 'culvertlaw10.DiskSurvivors', WHERE WHAT IT READS IS OF BULK AT MOST 1048576: true; the input reads as it did. -/
def diskSurvivorsUptoRow : OpenClaim := { program := "ytkndlpihhfjcpaa", sum := "cda821b77a055d914b31c248dde37f03e5abc21157b157c39983941521918afe", func := "culvert/culvertlaw10.DiskSurvivors", spec := "diskSurvivors", unfollowed := true, recurses := true, apart := false, narrowed := true }
def DiskSurvivorsUptoSaid : Prop := diskSurvivorsUptoRow.holds Try.pinned (OpenSpec.upto diskSurvivorsSpec)

/-- 'culvertlaw10.DiskWide', WHERE WHAT IT READS IS OF BULK AT MOST 1048576: true; the input reads as it did. -/
def diskWideUptoRow : OpenClaim := { program := "ytkndlpihhfjcpaa", sum := "cda821b77a055d914b31c248dde37f03e5abc21157b157c39983941521918afe", func := "culvert/culvertlaw10.DiskWide", spec := "diskWide", unfollowed := true, recurses := true, apart := false, narrowed := true }
def DiskWideUptoSaid : Prop := diskWideUptoRow.holds Try.pinned (OpenSpec.upto diskWideSpec)

/-- 'culvertlaw10.DiskMakes', WHERE WHAT IT READS IS OF BULK AT MOST 1048576: true; the input reads as it did. -/
def diskMakesUptoRow : OpenClaim := { program := "ytkndlpihhfjcpaa", sum := "cda821b77a055d914b31c248dde37f03e5abc21157b157c39983941521918afe", func := "culvert/culvertlaw10.DiskMakes", spec := "diskMakes", unfollowed := true, recurses := true, apart := false, narrowed := true }
def DiskMakesUptoSaid : Prop := diskMakesUptoRow.holds Try.pinned (OpenSpec.upto diskMakesSpec)

/-- 'culvertlaw10.DiskPlays', WHERE WHAT IT READS IS OF BULK AT MOST 1048576: true; the input reads as it did. -/
def diskPlaysUptoRow : OpenClaim := { program := "ytkndlpihhfjcpaa", sum := "cda821b77a055d914b31c248dde37f03e5abc21157b157c39983941521918afe", func := "culvert/culvertlaw10.DiskPlays", spec := "diskPlays", unfollowed := true, recurses := true, apart := false, narrowed := true }
def DiskPlaysUptoSaid : Prop := diskPlaysUptoRow.holds Try.pinned (OpenSpec.upto diskPlaysSpec)

end Rows
end Go.Proofs.Ytkndlpihhfjcpaa
