/-
  DERIVED. GIVEN WITH THE SEED: THE CARDS: each row of YtinfhlepjmollaaGreatDoorRows.lean that lists a variable, with what it lists TIED to the program's text (the seventh form; the later family's looks); each row that meets fmt, with fmt's text TOLD by the authors' own Lean function (tested against real Go, not proved from fmt's source: count such statements apart). THE CARD IS WHAT COUNTS. Prove the row's statement (the work); the ties are given (YtinfhlepjmollaaGreatDoorTie.lean); close each card by the builder's one call (the guide's Derived/Test/ToyasCard.lean, 'card_holds'). Laid BY PROGRAM, IN A SANDBOX (cutbox-door.mjs). By AI agents, Wed Nov 11 2026. No macro, syntax, notation, axiom, sorry.
-/
import Derived.Test.YtinfhlepjmollaaGreatDoorRows
import GoSem.ClaimSeven
namespace Go.Proofs.YtinfhlepjmollaaGreatDoor
namespace Rows

/-- THE TIED CARD OF 'culvertlaw11.SectorOwn'. -/
def sectorOwnCard : Claim7 := { stood := { row := sectorOwnRow, standIns := [], harness := (true, "6748dfd004d1b9241be03d72844a9afb6d5f35e22776be09034141bc242559ad"), looks := false }, kinds := [], alts := [], laidByText := true, laidKinds := [.data, .data, .data, .data], laidTests := true, laidLooks := .later }
def SectorOwnCardSaid : Prop := Claim7.holds Tryz.pinned (.plain (OpenSpec.ofChange sectorOwnSpec)) sectorOwnCard

/-- THE SECOND FORM's CARD OF 'culvertlaw11.SectorOwn'. -/
def sectorOwnUptoCard : Claim7 := { stood := { row := sectorOwnUptoRow, standIns := [], harness := (true, "6748dfd004d1b9241be03d72844a9afb6d5f35e22776be09034141bc242559ad"), looks := false }, kinds := [], alts := [], laidByText := true, laidKinds := [.data, .data, .data, .data], laidTests := true, laidLooks := .later }
def SectorOwnUptoCardSaid : Prop := Claim7.holds Tryz.pinned (.plain (OpenSpec.upto sectorOwnSpec)) sectorOwnUptoCard
end Rows
end Go.Proofs.YtinfhlepjmollaaGreatDoor
