/-
  DERIVED. GIVEN WITH THE SEED: THE CARDS: each row of YtiiegpklpmogmaaGreatDoorRows.lean that lists a variable, with what it lists TIED to the program's text (the seventh form; the later family's looks); each row that meets fmt, with fmt's text TOLD by the authors' own Lean function (tested against real Go, not proved from fmt's source: count such statements apart). THE CARD IS WHAT COUNTS. Prove the row's statement (the work); the ties are given (YtiiegpklpmogmaaGreatDoorTie.lean); close each card by the builder's one call (the guide's Derived/Test/ToyasCard.lean, 'card_holds'). Laid BY PROGRAM, IN A SANDBOX (cutbox-door.mjs). By AI agents, Wed Nov 11 2026. No macro, syntax, notation, axiom, sorry.
-/
import Derived.Test.YtiiegpklpmogmaaGreatDoorRows
import GoSem.ClaimSeven
namespace Go.Proofs.YtiiegpklpmogmaaGreatDoor
namespace Rows

/-- THE TIED CARD OF 'sluicelaw01.StampFronts'. -/
def stampFrontsCard : Claim7 := { stood := { row := stampFrontsRow, standIns := [], harness := (true, "b5995fa61b2913f61d233684dd691a5c5c63b9e8d5b083330528eb3531873e65"), looks := true }, kinds := [], alts := [], laidByText := true, laidKinds := [.data, .data, .data, .data, .sentinel, .sentinel, .pinned], laidTests := true, laidLooks := .later }
def StampFrontsCardSaid : Prop := Claim7.holds Tryz.pinned (.plain (OpenSpec.ofChange stampFrontsSpec)) stampFrontsCard

/-- THE TIED CARD OF 'sluicelaw01.StampTwo'. -/
def stampTwoCard : Claim7 := { stood := { row := stampTwoRow, standIns := [], harness := (true, "b5995fa61b2913f61d233684dd691a5c5c63b9e8d5b083330528eb3531873e65"), looks := true }, kinds := [], alts := [], laidByText := true, laidKinds := [.data, .data, .data, .data, .sentinel, .sentinel, .pinned], laidTests := true, laidLooks := .later }
def StampTwoCardSaid : Prop := Claim7.holds Tryz.pinned (.plain (OpenSpec.ofChange stampTwoSpec)) stampTwoCard

/-- THE TIED CARD OF 'sluicelaw02.PathPlays'. -/
def pathPlaysCard : Claim7 := { stood := { row := pathPlaysRow, standIns := [], harness := (true, "b5995fa61b2913f61d233684dd691a5c5c63b9e8d5b083330528eb3531873e65"), looks := true }, kinds := [], alts := [], laidByText := true, laidKinds := [.data, .data, .data, .data, .sentinel, .sentinel, .pinned], laidTests := true, laidLooks := .later }
def PathPlaysCardSaid : Prop := Claim7.holds Tryz.pinned (.plain (OpenSpec.ofChange pathPlaysSpec)) pathPlaysCard

/-- THE TIED CARD OF 'sluicelaw02.PathLeasts'. -/
def pathLeastsCard : Claim7 := { stood := { row := pathLeastsRow, standIns := [], harness := (true, "b5995fa61b2913f61d233684dd691a5c5c63b9e8d5b083330528eb3531873e65"), looks := true }, kinds := [], alts := [], laidByText := true, laidKinds := [.data, .data, .data, .data, .sentinel, .sentinel, .pinned], laidTests := true, laidLooks := .later }
def PathLeastsCardSaid : Prop := Claim7.holds Tryz.pinned (.plain (OpenSpec.ofChange pathLeastsSpec)) pathLeastsCard

/-- THE TIED CARD OF 'sluicelaw02.PathTexts'. -/
def pathTextsCard : Claim7 := { stood := { row := pathTextsRow, standIns := [], harness := (true, "b5995fa61b2913f61d233684dd691a5c5c63b9e8d5b083330528eb3531873e65"), looks := true }, kinds := [], alts := [], laidByText := true, laidKinds := [.data, .data, .data, .data, .sentinel, .sentinel, .pinned], laidTests := true, laidLooks := .later }
def PathTextsCardSaid : Prop := Claim7.holds Tryz.pinned (.plain (OpenSpec.ofChange pathTextsSpec)) pathTextsCard

/-- THE TIED CARD OF 'sluicelaw02.PathWays'. -/
def pathWaysCard : Claim7 := { stood := { row := pathWaysRow, standIns := [], harness := (true, "b5995fa61b2913f61d233684dd691a5c5c63b9e8d5b083330528eb3531873e65"), looks := true }, kinds := [], alts := [], laidByText := true, laidKinds := [.data, .data, .data, .data, .sentinel, .sentinel, .pinned], laidTests := true, laidLooks := .later }
def PathWaysCardSaid : Prop := Claim7.holds Tryz.pinned (.plain (OpenSpec.ofChange pathWaysSpec)) pathWaysCard

/-- THE TIED CARD OF 'sluicelaw02.PathRises'. -/
def pathRisesCard : Claim7 := { stood := { row := pathRisesRow, standIns := [], harness := (true, "b5995fa61b2913f61d233684dd691a5c5c63b9e8d5b083330528eb3531873e65"), looks := true }, kinds := [], alts := [], laidByText := true, laidKinds := [.data, .data, .data, .data, .sentinel, .sentinel, .pinned], laidTests := true, laidLooks := .later }
def PathRisesCardSaid : Prop := Claim7.holds Tryz.pinned (.plain (OpenSpec.ofChange pathRisesSpec)) pathRisesCard

/-- THE TIED CARD OF 'sluicelaw02.PathCovers'. -/
def pathCoversCard : Claim7 := { stood := { row := pathCoversRow, standIns := [], harness := (true, "b5995fa61b2913f61d233684dd691a5c5c63b9e8d5b083330528eb3531873e65"), looks := true }, kinds := [], alts := [], laidByText := true, laidKinds := [.data, .data, .data, .data, .sentinel, .sentinel, .pinned], laidTests := true, laidLooks := .later }
def PathCoversCardSaid : Prop := Claim7.holds Tryz.pinned (.plain (OpenSpec.ofChange pathCoversSpec)) pathCoversCard

/-- THE TIED CARD OF 'sluicelaw02.PathBack'. -/
def pathBackCard : Claim7 := { stood := { row := pathBackRow, standIns := [], harness := (true, "b5995fa61b2913f61d233684dd691a5c5c63b9e8d5b083330528eb3531873e65"), looks := true }, kinds := [], alts := [], laidByText := true, laidKinds := [.data, .data, .data, .data, .sentinel, .sentinel, .pinned], laidTests := true, laidLooks := .later }
def PathBackCardSaid : Prop := Claim7.holds Tryz.pinned (.plain (OpenSpec.ofChange pathBackSpec)) pathBackCard

/-- THE SECOND FORM's CARD OF 'sluicelaw01.StampFronts'. -/
def stampFrontsUptoCard : Claim7 := { stood := { row := stampFrontsUptoRow, standIns := [], harness := (true, "b5995fa61b2913f61d233684dd691a5c5c63b9e8d5b083330528eb3531873e65"), looks := true }, kinds := [], alts := [], laidByText := true, laidKinds := [.data, .data, .data, .data, .sentinel, .sentinel, .pinned], laidTests := true, laidLooks := .later }
def StampFrontsUptoCardSaid : Prop := Claim7.holds Tryz.pinned (.plain (OpenSpec.upto stampFrontsSpec)) stampFrontsUptoCard

/-- THE SECOND FORM's CARD OF 'sluicelaw01.StampTwo'. -/
def stampTwoUptoCard : Claim7 := { stood := { row := stampTwoUptoRow, standIns := [], harness := (true, "b5995fa61b2913f61d233684dd691a5c5c63b9e8d5b083330528eb3531873e65"), looks := true }, kinds := [], alts := [], laidByText := true, laidKinds := [.data, .data, .data, .data, .sentinel, .sentinel, .pinned], laidTests := true, laidLooks := .later }
def StampTwoUptoCardSaid : Prop := Claim7.holds Tryz.pinned (.plain (OpenSpec.upto stampTwoSpec)) stampTwoUptoCard

/-- THE SECOND FORM's CARD OF 'sluicelaw02.PathPlays'. -/
def pathPlaysUptoCard : Claim7 := { stood := { row := pathPlaysUptoRow, standIns := [], harness := (true, "b5995fa61b2913f61d233684dd691a5c5c63b9e8d5b083330528eb3531873e65"), looks := true }, kinds := [], alts := [], laidByText := true, laidKinds := [.data, .data, .data, .data, .sentinel, .sentinel, .pinned], laidTests := true, laidLooks := .later }
def PathPlaysUptoCardSaid : Prop := Claim7.holds Tryz.pinned (.plain (OpenSpec.upto pathPlaysSpec)) pathPlaysUptoCard

/-- THE SECOND FORM's CARD OF 'sluicelaw02.PathLeasts'. -/
def pathLeastsUptoCard : Claim7 := { stood := { row := pathLeastsUptoRow, standIns := [], harness := (true, "b5995fa61b2913f61d233684dd691a5c5c63b9e8d5b083330528eb3531873e65"), looks := true }, kinds := [], alts := [], laidByText := true, laidKinds := [.data, .data, .data, .data, .sentinel, .sentinel, .pinned], laidTests := true, laidLooks := .later }
def PathLeastsUptoCardSaid : Prop := Claim7.holds Tryz.pinned (.plain (OpenSpec.upto pathLeastsSpec)) pathLeastsUptoCard

/-- THE SECOND FORM's CARD OF 'sluicelaw02.PathTexts'. -/
def pathTextsUptoCard : Claim7 := { stood := { row := pathTextsUptoRow, standIns := [], harness := (true, "b5995fa61b2913f61d233684dd691a5c5c63b9e8d5b083330528eb3531873e65"), looks := true }, kinds := [], alts := [], laidByText := true, laidKinds := [.data, .data, .data, .data, .sentinel, .sentinel, .pinned], laidTests := true, laidLooks := .later }
def PathTextsUptoCardSaid : Prop := Claim7.holds Tryz.pinned (.plain (OpenSpec.upto pathTextsSpec)) pathTextsUptoCard

/-- THE SECOND FORM's CARD OF 'sluicelaw02.PathWays'. -/
def pathWaysUptoCard : Claim7 := { stood := { row := pathWaysUptoRow, standIns := [], harness := (true, "b5995fa61b2913f61d233684dd691a5c5c63b9e8d5b083330528eb3531873e65"), looks := true }, kinds := [], alts := [], laidByText := true, laidKinds := [.data, .data, .data, .data, .sentinel, .sentinel, .pinned], laidTests := true, laidLooks := .later }
def PathWaysUptoCardSaid : Prop := Claim7.holds Tryz.pinned (.plain (OpenSpec.upto pathWaysSpec)) pathWaysUptoCard

/-- THE SECOND FORM's CARD OF 'sluicelaw02.PathRises'. -/
def pathRisesUptoCard : Claim7 := { stood := { row := pathRisesUptoRow, standIns := [], harness := (true, "b5995fa61b2913f61d233684dd691a5c5c63b9e8d5b083330528eb3531873e65"), looks := true }, kinds := [], alts := [], laidByText := true, laidKinds := [.data, .data, .data, .data, .sentinel, .sentinel, .pinned], laidTests := true, laidLooks := .later }
def PathRisesUptoCardSaid : Prop := Claim7.holds Tryz.pinned (.plain (OpenSpec.upto pathRisesSpec)) pathRisesUptoCard

/-- THE SECOND FORM's CARD OF 'sluicelaw02.PathCovers'. -/
def pathCoversUptoCard : Claim7 := { stood := { row := pathCoversUptoRow, standIns := [], harness := (true, "b5995fa61b2913f61d233684dd691a5c5c63b9e8d5b083330528eb3531873e65"), looks := true }, kinds := [], alts := [], laidByText := true, laidKinds := [.data, .data, .data, .data, .sentinel, .sentinel, .pinned], laidTests := true, laidLooks := .later }
def PathCoversUptoCardSaid : Prop := Claim7.holds Tryz.pinned (.plain (OpenSpec.upto pathCoversSpec)) pathCoversUptoCard

/-- THE SECOND FORM's CARD OF 'sluicelaw02.PathBack'. -/
def pathBackUptoCard : Claim7 := { stood := { row := pathBackUptoRow, standIns := [], harness := (true, "b5995fa61b2913f61d233684dd691a5c5c63b9e8d5b083330528eb3531873e65"), looks := true }, kinds := [], alts := [], laidByText := true, laidKinds := [.data, .data, .data, .data, .sentinel, .sentinel, .pinned], laidTests := true, laidLooks := .later }
def PathBackUptoCardSaid : Prop := Claim7.holds Tryz.pinned (.plain (OpenSpec.upto pathBackSpec)) pathBackUptoCard
end Rows
end Go.Proofs.YtiiegpklpmogmaaGreatDoor
