/-
  DERIVED. GIVEN WITH THE SEED: THE CARDS: each row of YtinfhlepjmollaaDoorRows.lean that lists a variable, with what it lists TIED to the program's text (the seventh form; the later family's looks); each row that meets fmt, with fmt's text TOLD by the authors' own Lean function (tested against real Go, not proved from fmt's source: count such statements apart). THE CARD IS WHAT COUNTS. Prove the row's statement (the work); the ties are given (YtinfhlepjmollaaDoorTie.lean); close each card by the builder's one call (the guide's Derived/Test/ToyasCard.lean, 'card_holds'). Laid BY PROGRAM, IN A SANDBOX (cutbox-door.mjs). By AI agents, Wed Nov 11 2026. No macro, syntax, notation, axiom, sorry.
-/
import Derived.Test.YtinfhlepjmollaaDoorRows
import GoSem.ClaimSeven
namespace Go.Proofs.YtinfhlepjmollaaDoor
namespace Rows

/-- THE TIED CARD OF 'culvertlaw11.SectorPuts'. -/
def sectorPutsCard : Claim7 := { stood := { row := sectorPutsRow, standIns := [], harness := (true, "2659516968a828941c044bffa62b96e9f3f9b92edb199f1b7067f90a52af25f1"), looks := false }, kinds := [], alts := [], laidByText := true, laidKinds := [.data], laidTests := true, laidLooks := .later }
def SectorPutsCardSaid : Prop := Claim7.holds Tryd.pinned (.plain (OpenSpec.ofChange sectorPutsSpec)) sectorPutsCard

/-- THE TIED CARD OF 'culvertlaw11.SectorGets'. -/
def sectorGetsCard : Claim7 := { stood := { row := sectorGetsRow, standIns := [], harness := (true, "2659516968a828941c044bffa62b96e9f3f9b92edb199f1b7067f90a52af25f1"), looks := false }, kinds := [], alts := [], laidByText := true, laidKinds := [.data], laidTests := true, laidLooks := .later }
def SectorGetsCardSaid : Prop := Claim7.holds Tryd.pinned (.plain (OpenSpec.ofChange sectorGetsSpec)) sectorGetsCard

/-- THE TIED CARD OF 'culvertlaw11.SectorRights'. -/
def sectorRightsCard : Claim7 := { stood := { row := sectorRightsRow, standIns := [], harness := (true, "2659516968a828941c044bffa62b96e9f3f9b92edb199f1b7067f90a52af25f1"), looks := false }, kinds := [], alts := [], laidByText := true, laidKinds := [.data], laidTests := true, laidLooks := .later }
def SectorRightsCardSaid : Prop := Claim7.holds Tryd.pinned (.plain (OpenSpec.ofChange sectorRightsSpec)) sectorRightsCard

/-- THE TIED CARD OF 'culvertlaw11.SectorBack'. -/
def sectorBackCard : Claim7 := { stood := { row := sectorBackRow, standIns := [], harness := (true, "2659516968a828941c044bffa62b96e9f3f9b92edb199f1b7067f90a52af25f1"), looks := false }, kinds := [], alts := [], laidByText := true, laidKinds := [.data], laidTests := true, laidLooks := .later }
def SectorBackCardSaid : Prop := Claim7.holds Tryd.pinned (.plain (OpenSpec.ofChange sectorBackSpec)) sectorBackCard

/-- THE TIED CARD OF 'culvertlaw11.SectorOneForm'. -/
def sectorOneFormCard : Claim7 := { stood := { row := sectorOneFormRow, standIns := [], harness := (true, "2659516968a828941c044bffa62b96e9f3f9b92edb199f1b7067f90a52af25f1"), looks := false }, kinds := [], alts := [], laidByText := true, laidKinds := [.data], laidTests := true, laidLooks := .later }
def SectorOneFormCardSaid : Prop := Claim7.holds Tryd.pinned (.plain (OpenSpec.ofChange sectorOneFormSpec)) sectorOneFormCard

/-- THE TIED CARD OF 'culvertlaw11.SectorUnlike'. -/
def sectorUnlikeCard : Claim7 := { stood := { row := sectorUnlikeRow, standIns := [], harness := (true, "2659516968a828941c044bffa62b96e9f3f9b92edb199f1b7067f90a52af25f1"), looks := false }, kinds := [], alts := [], laidByText := true, laidKinds := [.data], laidTests := true, laidLooks := .later }
def SectorUnlikeCardSaid : Prop := Claim7.holds Tryd.pinned (.plain (OpenSpec.ofChange sectorUnlikeSpec)) sectorUnlikeCard

/-- THE TIED CARD OF 'culvertlaw11.SectorTurned'. -/
def sectorTurnedCard : Claim7 := { stood := { row := sectorTurnedRow, standIns := [], harness := (true, "2659516968a828941c044bffa62b96e9f3f9b92edb199f1b7067f90a52af25f1"), looks := false }, kinds := [], alts := [], laidByText := true, laidKinds := [.data], laidTests := true, laidLooks := .later }
def SectorTurnedCardSaid : Prop := Claim7.holds Tryd.pinned (.plain (OpenSpec.ofChange sectorTurnedSpec)) sectorTurnedCard

/-- THE TIED CARD OF 'culvertlaw11.SectorBurst'. -/
def sectorBurstCard : Claim7 := { stood := { row := sectorBurstRow, standIns := [], harness := (true, "2659516968a828941c044bffa62b96e9f3f9b92edb199f1b7067f90a52af25f1"), looks := false }, kinds := [], alts := [], laidByText := true, laidKinds := [.data], laidTests := true, laidLooks := .later }
def SectorBurstCardSaid : Prop := Claim7.holds Tryd.pinned (.plain (OpenSpec.ofChange sectorBurstSpec)) sectorBurstCard

/-- THE SECOND FORM's CARD OF 'culvertlaw11.SectorPuts'. -/
def sectorPutsUptoCard : Claim7 := { stood := { row := sectorPutsUptoRow, standIns := [], harness := (true, "2659516968a828941c044bffa62b96e9f3f9b92edb199f1b7067f90a52af25f1"), looks := false }, kinds := [], alts := [], laidByText := true, laidKinds := [.data], laidTests := true, laidLooks := .later }
def SectorPutsUptoCardSaid : Prop := Claim7.holds Tryd.pinned (.plain (OpenSpec.upto sectorPutsSpec)) sectorPutsUptoCard

/-- THE SECOND FORM's CARD OF 'culvertlaw11.SectorGets'. -/
def sectorGetsUptoCard : Claim7 := { stood := { row := sectorGetsUptoRow, standIns := [], harness := (true, "2659516968a828941c044bffa62b96e9f3f9b92edb199f1b7067f90a52af25f1"), looks := false }, kinds := [], alts := [], laidByText := true, laidKinds := [.data], laidTests := true, laidLooks := .later }
def SectorGetsUptoCardSaid : Prop := Claim7.holds Tryd.pinned (.plain (OpenSpec.upto sectorGetsSpec)) sectorGetsUptoCard

/-- THE SECOND FORM's CARD OF 'culvertlaw11.SectorRights'. -/
def sectorRightsUptoCard : Claim7 := { stood := { row := sectorRightsUptoRow, standIns := [], harness := (true, "2659516968a828941c044bffa62b96e9f3f9b92edb199f1b7067f90a52af25f1"), looks := false }, kinds := [], alts := [], laidByText := true, laidKinds := [.data], laidTests := true, laidLooks := .later }
def SectorRightsUptoCardSaid : Prop := Claim7.holds Tryd.pinned (.plain (OpenSpec.upto sectorRightsSpec)) sectorRightsUptoCard

/-- THE SECOND FORM's CARD OF 'culvertlaw11.SectorBack'. -/
def sectorBackUptoCard : Claim7 := { stood := { row := sectorBackUptoRow, standIns := [], harness := (true, "2659516968a828941c044bffa62b96e9f3f9b92edb199f1b7067f90a52af25f1"), looks := false }, kinds := [], alts := [], laidByText := true, laidKinds := [.data], laidTests := true, laidLooks := .later }
def SectorBackUptoCardSaid : Prop := Claim7.holds Tryd.pinned (.plain (OpenSpec.upto sectorBackSpec)) sectorBackUptoCard

/-- THE SECOND FORM's CARD OF 'culvertlaw11.SectorOneForm'. -/
def sectorOneFormUptoCard : Claim7 := { stood := { row := sectorOneFormUptoRow, standIns := [], harness := (true, "2659516968a828941c044bffa62b96e9f3f9b92edb199f1b7067f90a52af25f1"), looks := false }, kinds := [], alts := [], laidByText := true, laidKinds := [.data], laidTests := true, laidLooks := .later }
def SectorOneFormUptoCardSaid : Prop := Claim7.holds Tryd.pinned (.plain (OpenSpec.upto sectorOneFormSpec)) sectorOneFormUptoCard

/-- THE SECOND FORM's CARD OF 'culvertlaw11.SectorUnlike'. -/
def sectorUnlikeUptoCard : Claim7 := { stood := { row := sectorUnlikeUptoRow, standIns := [], harness := (true, "2659516968a828941c044bffa62b96e9f3f9b92edb199f1b7067f90a52af25f1"), looks := false }, kinds := [], alts := [], laidByText := true, laidKinds := [.data], laidTests := true, laidLooks := .later }
def SectorUnlikeUptoCardSaid : Prop := Claim7.holds Tryd.pinned (.plain (OpenSpec.upto sectorUnlikeSpec)) sectorUnlikeUptoCard

/-- THE SECOND FORM's CARD OF 'culvertlaw11.SectorTurned'. -/
def sectorTurnedUptoCard : Claim7 := { stood := { row := sectorTurnedUptoRow, standIns := [], harness := (true, "2659516968a828941c044bffa62b96e9f3f9b92edb199f1b7067f90a52af25f1"), looks := false }, kinds := [], alts := [], laidByText := true, laidKinds := [.data], laidTests := true, laidLooks := .later }
def SectorTurnedUptoCardSaid : Prop := Claim7.holds Tryd.pinned (.plain (OpenSpec.upto sectorTurnedSpec)) sectorTurnedUptoCard

/-- THE SECOND FORM's CARD OF 'culvertlaw11.SectorBurst'. -/
def sectorBurstUptoCard : Claim7 := { stood := { row := sectorBurstUptoRow, standIns := [], harness := (true, "2659516968a828941c044bffa62b96e9f3f9b92edb199f1b7067f90a52af25f1"), looks := false }, kinds := [], alts := [], laidByText := true, laidKinds := [.data], laidTests := true, laidLooks := .later }
def SectorBurstUptoCardSaid : Prop := Claim7.holds Tryd.pinned (.plain (OpenSpec.upto sectorBurstSpec)) sectorBurstUptoCard
end Rows
end Go.Proofs.YtinfhlepjmollaaDoor
