/-
  No cell of these rows narrows 'for every input' (looked for: loops, veiled, ifaces, maps, wideKeys, modest, calm, conditions, laid).
  DERIVED. THE GIVEN ROWS OF THIS SEAT. 10 by the template 'for every input the law returns true; each argument reads behind the call as it read before'; 0 by the template 'total and deterministic' (their statements: YtihndipgdogebaaTotals.lean).
  GIVEN WITH THE SEED: the statements are not yours to turn. If you find one false, say at which input.
  Laid BY PROGRAM, IN A SANDBOX (cutbox-rows.mjs): the forced cells as the released guide's own fill.sh prints them over the translation 1794bf2d05f556d1… (all of the seat's roots in one cut). By AI agents, Wed Nov 11 2026. No macro, syntax, notation, axiom, sorry.
-/
import Derived.Test.YtihndipgdogebaaChecked
import GoSem.Claim
import GoSem.ClaimJoined
import GoSem.ClaimMapViews
import Derived.JoinedTies
import Derived.KernelRfl
namespace Go.Proofs.Ytihndipgdogebaa
/- THE CELL 'sum', in the pinned program and in every row, IS THE sha256 OF THE DUMP (.gsa) THAT YtihndipgdogebaaProg.lean LOADS. Nothing in Lean hashes anything: it is a label: what it is worth is what the hold of that sum in a sandbox is worth. -/
noncomputable def Try.pinned : Pinned := { name := "ytihndipgdogebaa", sum := "1794bf2d05f556d154d8c393330e415c9a022156bd56f61a9a04d37cde786b8d", checked := Try.checked }
namespace Rows
def none {H : Type} : Left H := { results := [], args := [] }

/-- 'culvertlaw17.LaneValids': WHATEVER THE INPUT: true; the input reads as it did. -/
def laneValidsSpec : ChangeSpec := { name := "laneValids", fn := fun _ => fun
  | [d] => { results := [.lit (.bool true)], args := [d] }
  | _ => none }
def laneValidsRow : OpenClaim := { program := "ytihndipgdogebaa", sum := "1794bf2d05f556d154d8c393330e415c9a022156bd56f61a9a04d37cde786b8d", func := "culvert/culvertlaw17.LaneValids", spec := "laneValids", unfollowed := true, recurses := true, apart := false }
def LaneValidsSaid : Prop := laneValidsRow.holds Try.pinned (OpenSpec.ofChange laneValidsSpec)

/-- ITS FALSE NEIGHBOUR: 'it returns false'. Refute it at one input. -/
def laneValidsWrong : ChangeSpec := { name := "laneValids", fn := fun _ => fun
  | [d] => { results := [.lit (.bool false)], args := [d] }
  | _ => none }
def LaneValidsWrongFalsely : Prop := laneValidsRow.holds Try.pinned (OpenSpec.ofChange laneValidsWrong)

/-- 'culvertlaw17.LaneNews': WHATEVER THE INPUT: true; the input reads as it did. -/
def laneNewsSpec : ChangeSpec := { name := "laneNews", fn := fun _ => fun
  | [d1, d2] => { results := [.lit (.bool true)], args := [d1, d2] }
  | _ => none }
def laneNewsRow : OpenClaim := { program := "ytihndipgdogebaa", sum := "1794bf2d05f556d154d8c393330e415c9a022156bd56f61a9a04d37cde786b8d", func := "culvert/culvertlaw17.LaneNews", spec := "laneNews", unfollowed := true, recurses := true, apart := false }
def LaneNewsSaid : Prop := laneNewsRow.holds Try.pinned (OpenSpec.ofChange laneNewsSpec)

/-- ITS FALSE NEIGHBOUR: 'it returns false'. Refute it at one input. -/
def laneNewsWrong : ChangeSpec := { name := "laneNews", fn := fun _ => fun
  | [d1, d2] => { results := [.lit (.bool false)], args := [d1, d2] }
  | _ => none }
def LaneNewsWrongFalsely : Prop := laneNewsRow.holds Try.pinned (OpenSpec.ofChange laneNewsWrong)

/-- 'culvertlaw17.LaneUps': WHATEVER THE INPUT: true; the input reads as it did. -/
def laneUpsSpec : ChangeSpec := { name := "laneUps", fn := fun _ => fun
  | [d1, d2] => { results := [.lit (.bool true)], args := [d1, d2] }
  | _ => none }
def laneUpsRow : OpenClaim := { program := "ytihndipgdogebaa", sum := "1794bf2d05f556d154d8c393330e415c9a022156bd56f61a9a04d37cde786b8d", func := "culvert/culvertlaw17.LaneUps", spec := "laneUps", unfollowed := true, recurses := true, apart := false }
def LaneUpsSaid : Prop := laneUpsRow.holds Try.pinned (OpenSpec.ofChange laneUpsSpec)

/-- ITS FALSE NEIGHBOUR: 'it returns false'. Refute it at one input. -/
def laneUpsWrong : ChangeSpec := { name := "laneUps", fn := fun _ => fun
  | [d1, d2] => { results := [.lit (.bool false)], args := [d1, d2] }
  | _ => none }
def LaneUpsWrongFalsely : Prop := laneUpsRow.holds Try.pinned (OpenSpec.ofChange laneUpsWrong)

/-- 'culvertlaw17.LaneCalls': WHATEVER THE INPUT: true; the input reads as it did. -/
def laneCallsSpec : ChangeSpec := { name := "laneCalls", fn := fun _ => fun
  | [d1, d2] => { results := [.lit (.bool true)], args := [d1, d2] }
  | _ => none }
def laneCallsRow : OpenClaim := { program := "ytihndipgdogebaa", sum := "1794bf2d05f556d154d8c393330e415c9a022156bd56f61a9a04d37cde786b8d", func := "culvert/culvertlaw17.LaneCalls", spec := "laneCalls", unfollowed := true, recurses := true, apart := false }
def LaneCallsSaid : Prop := laneCallsRow.holds Try.pinned (OpenSpec.ofChange laneCallsSpec)

/-- ITS FALSE NEIGHBOUR: 'it returns false'. Refute it at one input. -/
def laneCallsWrong : ChangeSpec := { name := "laneCalls", fn := fun _ => fun
  | [d1, d2] => { results := [.lit (.bool false)], args := [d1, d2] }
  | _ => none }
def LaneCallsWrongFalsely : Prop := laneCallsRow.holds Try.pinned (OpenSpec.ofChange laneCallsWrong)

/-- 'culvertlaw17.LanePlays': WHATEVER THE INPUT: true; the input reads as it did. -/
def lanePlaysSpec : ChangeSpec := { name := "lanePlays", fn := fun _ => fun
  | [d1, d2, d3] => { results := [.lit (.bool true)], args := [d1, d2, d3] }
  | _ => none }
def lanePlaysRow : OpenClaim := { program := "ytihndipgdogebaa", sum := "1794bf2d05f556d154d8c393330e415c9a022156bd56f61a9a04d37cde786b8d", func := "culvert/culvertlaw17.LanePlays", spec := "lanePlays", unfollowed := true, recurses := true, apart := false }
def LanePlaysSaid : Prop := lanePlaysRow.holds Try.pinned (OpenSpec.ofChange lanePlaysSpec)

/-- ITS FALSE NEIGHBOUR: 'it returns false'. Refute it at one input. -/
def lanePlaysWrong : ChangeSpec := { name := "lanePlays", fn := fun _ => fun
  | [d1, d2, d3] => { results := [.lit (.bool false)], args := [d1, d2, d3] }
  | _ => none }
def LanePlaysWrongFalsely : Prop := lanePlaysRow.holds Try.pinned (OpenSpec.ofChange lanePlaysWrong)

/-- 'culvertlaw17.LaneRises': WHATEVER THE INPUT: true; the input reads as it did. -/
def laneRisesSpec : ChangeSpec := { name := "laneRises", fn := fun _ => fun
  | [d1, d2, d3] => { results := [.lit (.bool true)], args := [d1, d2, d3] }
  | _ => none }
def laneRisesRow : OpenClaim := { program := "ytihndipgdogebaa", sum := "1794bf2d05f556d154d8c393330e415c9a022156bd56f61a9a04d37cde786b8d", func := "culvert/culvertlaw17.LaneRises", spec := "laneRises", unfollowed := true, recurses := true, apart := false }
def LaneRisesSaid : Prop := laneRisesRow.holds Try.pinned (OpenSpec.ofChange laneRisesSpec)

/-- ITS FALSE NEIGHBOUR: 'it returns false'. Refute it at one input. -/
def laneRisesWrong : ChangeSpec := { name := "laneRises", fn := fun _ => fun
  | [d1, d2, d3] => { results := [.lit (.bool false)], args := [d1, d2, d3] }
  | _ => none }
def LaneRisesWrongFalsely : Prop := laneRisesRow.holds Try.pinned (OpenSpec.ofChange laneRisesWrong)

/-- 'culvertlaw17.LaneNever': WHATEVER THE INPUT: true; the input reads as it did. -/
def laneNeverSpec : ChangeSpec := { name := "laneNever", fn := fun _ => fun
  | [d1, d2, d3, d4] => { results := [.lit (.bool true)], args := [d1, d2, d3, d4] }
  | _ => none }
def laneNeverRow : OpenClaim := { program := "ytihndipgdogebaa", sum := "1794bf2d05f556d154d8c393330e415c9a022156bd56f61a9a04d37cde786b8d", func := "culvert/culvertlaw17.LaneNever", spec := "laneNever", unfollowed := true, recurses := true, apart := false }
def LaneNeverSaid : Prop := laneNeverRow.holds Try.pinned (OpenSpec.ofChange laneNeverSpec)

/-- ITS FALSE NEIGHBOUR: 'it returns false'. Refute it at one input. -/
def laneNeverWrong : ChangeSpec := { name := "laneNever", fn := fun _ => fun
  | [d1, d2, d3, d4] => { results := [.lit (.bool false)], args := [d1, d2, d3, d4] }
  | _ => none }
def LaneNeverWrongFalsely : Prop := laneNeverRow.holds Try.pinned (OpenSpec.ofChange laneNeverWrong)

/-- 'culvertlaw17.LaneCeils': WHATEVER THE INPUT: true; the input reads as it did. -/
def laneCeilsSpec : ChangeSpec := { name := "laneCeils", fn := fun _ => fun
  | [d1, d2, d3, d4] => { results := [.lit (.bool true)], args := [d1, d2, d3, d4] }
  | _ => none }
def laneCeilsRow : OpenClaim := { program := "ytihndipgdogebaa", sum := "1794bf2d05f556d154d8c393330e415c9a022156bd56f61a9a04d37cde786b8d", func := "culvert/culvertlaw17.LaneCeils", spec := "laneCeils", unfollowed := true, recurses := true, apart := false }
def LaneCeilsSaid : Prop := laneCeilsRow.holds Try.pinned (OpenSpec.ofChange laneCeilsSpec)

/-- ITS FALSE NEIGHBOUR: 'it returns false'. Refute it at one input. -/
def laneCeilsWrong : ChangeSpec := { name := "laneCeils", fn := fun _ => fun
  | [d1, d2, d3, d4] => { results := [.lit (.bool false)], args := [d1, d2, d3, d4] }
  | _ => none }
def LaneCeilsWrongFalsely : Prop := laneCeilsRow.holds Try.pinned (OpenSpec.ofChange laneCeilsWrong)

/-- 'culvertlaw17.LaneUpper': WHATEVER THE INPUT: true; the input reads as it did. -/
def laneUpperSpec : ChangeSpec := { name := "laneUpper", fn := fun _ => fun
  | [d1, d2, d3] => { results := [.lit (.bool true)], args := [d1, d2, d3] }
  | _ => none }
def laneUpperRow : OpenClaim := { program := "ytihndipgdogebaa", sum := "1794bf2d05f556d154d8c393330e415c9a022156bd56f61a9a04d37cde786b8d", func := "culvert/culvertlaw17.LaneUpper", spec := "laneUpper", unfollowed := true, recurses := true, apart := false }
def LaneUpperSaid : Prop := laneUpperRow.holds Try.pinned (OpenSpec.ofChange laneUpperSpec)

/-- ITS FALSE NEIGHBOUR: 'it returns false'. Refute it at one input. -/
def laneUpperWrong : ChangeSpec := { name := "laneUpper", fn := fun _ => fun
  | [d1, d2, d3] => { results := [.lit (.bool false)], args := [d1, d2, d3] }
  | _ => none }
def LaneUpperWrongFalsely : Prop := laneUpperRow.holds Try.pinned (OpenSpec.ofChange laneUpperWrong)

/-- 'culvertlaw17.LanePlace': WHATEVER THE INPUT: true; the input reads as it did. -/
def lanePlaceSpec : ChangeSpec := { name := "lanePlace", fn := fun _ => fun
  | [d1, d2, d3] => { results := [.lit (.bool true)], args := [d1, d2, d3] }
  | _ => none }
def lanePlaceRow : OpenClaim := { program := "ytihndipgdogebaa", sum := "1794bf2d05f556d154d8c393330e415c9a022156bd56f61a9a04d37cde786b8d", func := "culvert/culvertlaw17.LanePlace", spec := "lanePlace", unfollowed := true, recurses := true, apart := false }
def LanePlaceSaid : Prop := lanePlaceRow.holds Try.pinned (OpenSpec.ofChange lanePlaceSpec)

/-- ITS FALSE NEIGHBOUR: 'it returns false'. Refute it at one input. -/
def lanePlaceWrong : ChangeSpec := { name := "lanePlace", fn := fun _ => fun
  | [d1, d2, d3] => { results := [.lit (.bool false)], args := [d1, d2, d3] }
  | _ => none }
def LanePlaceWrongFalsely : Prop := lanePlaceRow.holds Try.pinned (OpenSpec.ofChange lanePlaceWrong)

/- THE SECOND FORM. 'bulk': how many values and letters a reading holds, each counted each time it is reached (what is shared counts as often as it is met; a slice's spare places count too). A statement '..UptoSaid' is the law's where the arguments, and the package variables that the reading takes, are together of bulk at most 1048576: NARROWER than '..Said'. Prove '..Said' where nothing that the law and all that it calls make is longer than what came in: it says more and counts as full. Else prove '..UptoSaid'. A law counts once. -/
mutual
def uptoBulk {H : Type} : DataW H → Nat
  | .lit (.string bytes) => bytes.length + 1
  | .lit _ => 1
  | .nil => 1
  | .ptr d => uptoBulk d + 1
  | .slice elems spare => uptoBulkAll elems + uptoBulkAll spare + 1
  | .agg parts => uptoBulkAll parts + 1
  | .iface _ d => uptoBulk d + 1
  | .map entries => uptoBulkEntries entries + 1
  | .held _ => 1
def uptoBulkAll {H : Type} : List (DataW H) → Nat
  | [] => 0
  | d :: r => uptoBulk d + uptoBulkAll r
def uptoBulkEntries {H : Type} : List (Lit × DataW H) → Nat
  | [] => 0
  | x :: r => uptoBulkEntry x + uptoBulkEntries r
def uptoBulkEntry {H : Type} : Lit × DataW H → Nat
  | (.string bytes, d) => bytes.length + uptoBulk d + 1
  | (_, d) => uptoBulk d + 1
 end
def uptoSmall : (H : Type) → List (DataW H) → Bool := fun _ ds => decide (uptoBulkAll ds ≤ 1048576)
def OpenSpec.upto (s : _root_.Go.ChangeSpec) : _root_.Go.OpenSpec := { _root_.Go.OpenSpec.ofChange s with cond := some uptoSmall }

/-- 'culvertlaw17.LaneValids', WHERE WHAT IT READS IS OF BULK AT MOST 1048576: true; the input reads as it did. -/
def laneValidsUptoRow : OpenClaim := { program := "ytihndipgdogebaa", sum := "1794bf2d05f556d154d8c393330e415c9a022156bd56f61a9a04d37cde786b8d", func := "culvert/culvertlaw17.LaneValids", spec := "laneValids", unfollowed := true, recurses := true, apart := false, narrowed := true }
def LaneValidsUptoSaid : Prop := laneValidsUptoRow.holds Try.pinned (OpenSpec.upto laneValidsSpec)

/-- 'culvertlaw17.LaneNews', WHERE WHAT IT READS IS OF BULK AT MOST 1048576: true; the input reads as it did. -/
def laneNewsUptoRow : OpenClaim := { program := "ytihndipgdogebaa", sum := "1794bf2d05f556d154d8c393330e415c9a022156bd56f61a9a04d37cde786b8d", func := "culvert/culvertlaw17.LaneNews", spec := "laneNews", unfollowed := true, recurses := true, apart := false, narrowed := true }
def LaneNewsUptoSaid : Prop := laneNewsUptoRow.holds Try.pinned (OpenSpec.upto laneNewsSpec)

/-- 'culvertlaw17.LaneUps', WHERE WHAT IT READS IS OF BULK AT MOST 1048576: true; the input reads as it did. -/
def laneUpsUptoRow : OpenClaim := { program := "ytihndipgdogebaa", sum := "1794bf2d05f556d154d8c393330e415c9a022156bd56f61a9a04d37cde786b8d", func := "culvert/culvertlaw17.LaneUps", spec := "laneUps", unfollowed := true, recurses := true, apart := false, narrowed := true }
def LaneUpsUptoSaid : Prop := laneUpsUptoRow.holds Try.pinned (OpenSpec.upto laneUpsSpec)

/-- 'culvertlaw17.LaneCalls', WHERE WHAT IT READS IS OF BULK AT MOST 1048576: true; the input reads as it did. -/
def laneCallsUptoRow : OpenClaim := { program := "ytihndipgdogebaa", sum := "1794bf2d05f556d154d8c393330e415c9a022156bd56f61a9a04d37cde786b8d", func := "culvert/culvertlaw17.LaneCalls", spec := "laneCalls", unfollowed := true, recurses := true, apart := false, narrowed := true }
def LaneCallsUptoSaid : Prop := laneCallsUptoRow.holds Try.pinned (OpenSpec.upto laneCallsSpec)

/-- 'culvertlaw17.LanePlays', WHERE WHAT IT READS IS OF BULK AT MOST 1048576: true; the input reads as it did. -/
def lanePlaysUptoRow : OpenClaim := { program := "ytihndipgdogebaa", sum := "1794bf2d05f556d154d8c393330e415c9a022156bd56f61a9a04d37cde786b8d", func := "culvert/culvertlaw17.LanePlays", spec := "lanePlays", unfollowed := true, recurses := true, apart := false, narrowed := true }
def LanePlaysUptoSaid : Prop := lanePlaysUptoRow.holds Try.pinned (OpenSpec.upto lanePlaysSpec)

/-- 'culvertlaw17.LaneRises', WHERE WHAT IT READS IS OF BULK AT MOST 1048576: true; the input reads as it did. -/
def laneRisesUptoRow : OpenClaim := { program := "ytihndipgdogebaa", sum := "1794bf2d05f556d154d8c393330e415c9a022156bd56f61a9a04d37cde786b8d", func := "culvert/culvertlaw17.LaneRises", spec := "laneRises", unfollowed := true, recurses := true, apart := false, narrowed := true }
def LaneRisesUptoSaid : Prop := laneRisesUptoRow.holds Try.pinned (OpenSpec.upto laneRisesSpec)

/-- 'culvertlaw17.LaneNever', WHERE WHAT IT READS IS OF BULK AT MOST 1048576: true; the input reads as it did. -/
def laneNeverUptoRow : OpenClaim := { program := "ytihndipgdogebaa", sum := "1794bf2d05f556d154d8c393330e415c9a022156bd56f61a9a04d37cde786b8d", func := "culvert/culvertlaw17.LaneNever", spec := "laneNever", unfollowed := true, recurses := true, apart := false, narrowed := true }
def LaneNeverUptoSaid : Prop := laneNeverUptoRow.holds Try.pinned (OpenSpec.upto laneNeverSpec)

/-- 'culvertlaw17.LaneCeils', WHERE WHAT IT READS IS OF BULK AT MOST 1048576: true; the input reads as it did. -/
def laneCeilsUptoRow : OpenClaim := { program := "ytihndipgdogebaa", sum := "1794bf2d05f556d154d8c393330e415c9a022156bd56f61a9a04d37cde786b8d", func := "culvert/culvertlaw17.LaneCeils", spec := "laneCeils", unfollowed := true, recurses := true, apart := false, narrowed := true }
def LaneCeilsUptoSaid : Prop := laneCeilsUptoRow.holds Try.pinned (OpenSpec.upto laneCeilsSpec)

/-- 'culvertlaw17.LaneUpper', WHERE WHAT IT READS IS OF BULK AT MOST 1048576: true; the input reads as it did. -/
def laneUpperUptoRow : OpenClaim := { program := "ytihndipgdogebaa", sum := "1794bf2d05f556d154d8c393330e415c9a022156bd56f61a9a04d37cde786b8d", func := "culvert/culvertlaw17.LaneUpper", spec := "laneUpper", unfollowed := true, recurses := true, apart := false, narrowed := true }
def LaneUpperUptoSaid : Prop := laneUpperUptoRow.holds Try.pinned (OpenSpec.upto laneUpperSpec)

/-- 'culvertlaw17.LanePlace', WHERE WHAT IT READS IS OF BULK AT MOST 1048576: true; the input reads as it did. -/
def lanePlaceUptoRow : OpenClaim := { program := "ytihndipgdogebaa", sum := "1794bf2d05f556d154d8c393330e415c9a022156bd56f61a9a04d37cde786b8d", func := "culvert/culvertlaw17.LanePlace", spec := "lanePlace", unfollowed := true, recurses := true, apart := false, narrowed := true }
def LanePlaceUptoSaid : Prop := lanePlaceUptoRow.holds Try.pinned (OpenSpec.upto lanePlaceSpec)

end Rows
end Go.Proofs.Ytihndipgdogebaa
