/-
  DERIVED. GIVEN WITH THE SEED: THE CARDS: each row of YthaiibfnjgfgjaaDoorRows.lean that lists a variable, with what it lists TIED to the program's text (the seventh form; the later family's looks); each row that meets fmt, with fmt's text TOLD by the authors' own Lean function (tested against real Go, not proved from fmt's source: count such statements apart). THE CARD IS WHAT COUNTS. Prove the row's statement (the work); the ties are given (YthaiibfnjgfgjaaDoorTie.lean); close each card by the builder's one call (the guide's Derived/Test/ToyasCard.lean, 'card_holds'). Laid BY PROGRAM, IN A SANDBOX (cutbox-door.mjs). By AI agents, Wed Nov 11 2026. No macro, syntax, notation, axiom, sorry.
-/
import Derived.Test.YthaiibfnjgfgjaaDoorRows
import GoSem.ClaimSeven
namespace Go.Proofs.YthaiibfnjgfgjaaDoor
namespace Rows

/-- THE TIED CARD OF 'culvertlaw12.WalNeeds'. -/
def walNeedsCard : Claim7 := { stood := { row := walNeedsRow, standIns := [], harness := (true, "3c32b7ec4ac897ccb11919f169887179203be16ae4ea1767d553b55186c80866"), looks := false }, kinds := [], alts := [], laidByText := true, laidKinds := [.data], laidTests := true, laidLooks := .later }
def WalNeedsCardSaid : Prop := Claim7.holds Tryd.pinned (.plain (OpenSpec.ofChange walNeedsSpec)) walNeedsCard

/-- THE TIED CARD OF 'culvertlaw12.WalWhole'. -/
def walWholeCard : Claim7 := { stood := { row := walWholeRow, standIns := [], harness := (true, "3c32b7ec4ac897ccb11919f169887179203be16ae4ea1767d553b55186c80866"), looks := false }, kinds := [], alts := [], laidByText := true, laidKinds := [.data], laidTests := true, laidLooks := .later }
def WalWholeCardSaid : Prop := Claim7.holds Tryd.pinned (.plain (OpenSpec.ofChange walWholeSpec)) walWholeCard

/-- THE TIED CARD OF 'culvertlaw12.WalKept'. -/
def walKeptCard : Claim7 := { stood := { row := walKeptRow, standIns := [], harness := (true, "3c32b7ec4ac897ccb11919f169887179203be16ae4ea1767d553b55186c80866"), looks := false }, kinds := [], alts := [], laidByText := true, laidKinds := [.data], laidTests := true, laidLooks := .later }
def WalKeptCardSaid : Prop := Claim7.holds Tryd.pinned (.plain (OpenSpec.ofChange walKeptSpec)) walKeptCard

/-- THE TIED CARD OF 'culvertlaw12.WalEvery'. -/
def walEveryCard : Claim7 := { stood := { row := walEveryRow, standIns := [], harness := (true, "3c32b7ec4ac897ccb11919f169887179203be16ae4ea1767d553b55186c80866"), looks := false }, kinds := [], alts := [], laidByText := true, laidKinds := [.data], laidTests := true, laidLooks := .later }
def WalEveryCardSaid : Prop := Claim7.holds Tryd.pinned (.plain (OpenSpec.ofChange walEverySpec)) walEveryCard

/-- THE TIED CARD OF 'culvertlaw12.WalSteps'. -/
def walStepsCard : Claim7 := { stood := { row := walStepsRow, standIns := [], harness := (true, "3c32b7ec4ac897ccb11919f169887179203be16ae4ea1767d553b55186c80866"), looks := false }, kinds := [], alts := [], laidByText := true, laidKinds := [.data], laidTests := true, laidLooks := .later }
def WalStepsCardSaid : Prop := Claim7.holds Tryd.pinned (.plain (OpenSpec.ofChange walStepsSpec)) walStepsCard

/-- THE TIED CARD OF 'culvertlaw12.WalClaims'. -/
def walClaimsCard : Claim7 := { stood := { row := walClaimsRow, standIns := [], harness := (true, "3c32b7ec4ac897ccb11919f169887179203be16ae4ea1767d553b55186c80866"), looks := false }, kinds := [], alts := [], laidByText := true, laidKinds := [.data], laidTests := true, laidLooks := .later }
def WalClaimsCardSaid : Prop := Claim7.holds Tryd.pinned (.plain (OpenSpec.ofChange walClaimsSpec)) walClaimsCard

/-- THE SECOND FORM's CARD OF 'culvertlaw12.WalNeeds'. -/
def walNeedsUptoCard : Claim7 := { stood := { row := walNeedsUptoRow, standIns := [], harness := (true, "3c32b7ec4ac897ccb11919f169887179203be16ae4ea1767d553b55186c80866"), looks := false }, kinds := [], alts := [], laidByText := true, laidKinds := [.data], laidTests := true, laidLooks := .later }
def WalNeedsUptoCardSaid : Prop := Claim7.holds Tryd.pinned (.plain (OpenSpec.upto walNeedsSpec)) walNeedsUptoCard

/-- THE SECOND FORM's CARD OF 'culvertlaw12.WalWhole'. -/
def walWholeUptoCard : Claim7 := { stood := { row := walWholeUptoRow, standIns := [], harness := (true, "3c32b7ec4ac897ccb11919f169887179203be16ae4ea1767d553b55186c80866"), looks := false }, kinds := [], alts := [], laidByText := true, laidKinds := [.data], laidTests := true, laidLooks := .later }
def WalWholeUptoCardSaid : Prop := Claim7.holds Tryd.pinned (.plain (OpenSpec.upto walWholeSpec)) walWholeUptoCard

/-- THE SECOND FORM's CARD OF 'culvertlaw12.WalKept'. -/
def walKeptUptoCard : Claim7 := { stood := { row := walKeptUptoRow, standIns := [], harness := (true, "3c32b7ec4ac897ccb11919f169887179203be16ae4ea1767d553b55186c80866"), looks := false }, kinds := [], alts := [], laidByText := true, laidKinds := [.data], laidTests := true, laidLooks := .later }
def WalKeptUptoCardSaid : Prop := Claim7.holds Tryd.pinned (.plain (OpenSpec.upto walKeptSpec)) walKeptUptoCard

/-- THE SECOND FORM's CARD OF 'culvertlaw12.WalEvery'. -/
def walEveryUptoCard : Claim7 := { stood := { row := walEveryUptoRow, standIns := [], harness := (true, "3c32b7ec4ac897ccb11919f169887179203be16ae4ea1767d553b55186c80866"), looks := false }, kinds := [], alts := [], laidByText := true, laidKinds := [.data], laidTests := true, laidLooks := .later }
def WalEveryUptoCardSaid : Prop := Claim7.holds Tryd.pinned (.plain (OpenSpec.upto walEverySpec)) walEveryUptoCard

/-- THE SECOND FORM's CARD OF 'culvertlaw12.WalSteps'. -/
def walStepsUptoCard : Claim7 := { stood := { row := walStepsUptoRow, standIns := [], harness := (true, "3c32b7ec4ac897ccb11919f169887179203be16ae4ea1767d553b55186c80866"), looks := false }, kinds := [], alts := [], laidByText := true, laidKinds := [.data], laidTests := true, laidLooks := .later }
def WalStepsUptoCardSaid : Prop := Claim7.holds Tryd.pinned (.plain (OpenSpec.upto walStepsSpec)) walStepsUptoCard

/-- THE SECOND FORM's CARD OF 'culvertlaw12.WalClaims'. -/
def walClaimsUptoCard : Claim7 := { stood := { row := walClaimsUptoRow, standIns := [], harness := (true, "3c32b7ec4ac897ccb11919f169887179203be16ae4ea1767d553b55186c80866"), looks := false }, kinds := [], alts := [], laidByText := true, laidKinds := [.data], laidTests := true, laidLooks := .later }
def WalClaimsUptoCardSaid : Prop := Claim7.holds Tryd.pinned (.plain (OpenSpec.upto walClaimsSpec)) walClaimsUptoCard
end Rows
end Go.Proofs.YthaiibfnjgfgjaaDoor
