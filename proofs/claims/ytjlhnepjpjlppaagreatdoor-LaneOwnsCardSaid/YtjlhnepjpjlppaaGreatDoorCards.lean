/-
  DERIVED. GIVEN WITH THE SEED: THE CARDS: each row of YtjlhnepjpjlppaaGreatDoorRows.lean that lists a variable, with what it lists TIED to the program's text (the seventh form; the later family's looks); each row that meets fmt, with fmt's text TOLD by the authors' own Lean function (tested against real Go, not proved from fmt's source: count such statements apart). THE CARD IS WHAT COUNTS. Prove the row's statement (the work); the ties are given (YtjlhnepjpjlppaaGreatDoorTie.lean); close each card by the builder's one call (the guide's Derived/Test/ToyasCard.lean, 'card_holds'). Laid BY PROGRAM, IN A SANDBOX (cutbox-door.mjs). By AI agents, Wed Nov 11 2026. No macro, syntax, notation, axiom, sorry.
-/
import Derived.Test.YtjlhnepjpjlppaaGreatDoorRows
import GoSem.ClaimSeven
namespace Go.Proofs.YtjlhnepjpjlppaaGreatDoor
namespace Rows

/-- THE TIED CARD OF 'culvertlaw17.LaneOwns'. -/
def laneOwnsCard : Claim7 := { stood := { row := laneOwnsRow, standIns := [], harness := (true, "b40614844c25a7585c4dc0dd869b99d84fa6914f3b4cd1ff73e05abde75875ef"), looks := false }, kinds := [], alts := [], laidByText := true, laidKinds := [.data, .data, .data], laidTests := true, laidLooks := .later }
def LaneOwnsCardSaid : Prop := Claim7.holds Tryz.pinned (.plain (OpenSpec.ofChange laneOwnsSpec)) laneOwnsCard

/-- THE SECOND FORM's CARD OF 'culvertlaw17.LaneOwns'. -/
def laneOwnsUptoCard : Claim7 := { stood := { row := laneOwnsUptoRow, standIns := [], harness := (true, "b40614844c25a7585c4dc0dd869b99d84fa6914f3b4cd1ff73e05abde75875ef"), looks := false }, kinds := [], alts := [], laidByText := true, laidKinds := [.data, .data, .data], laidTests := true, laidLooks := .later }
def LaneOwnsUptoCardSaid : Prop := Claim7.holds Tryz.pinned (.plain (OpenSpec.upto laneOwnsSpec)) laneOwnsUptoCard
end Rows
end Go.Proofs.YtjlhnepjpjlppaaGreatDoor
