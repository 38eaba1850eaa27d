/-
  DERIVED. GIVEN WITH THE SEED: THE CARDS: each row of YtiiegpklpmogmaaDoorRows.lean that lists a variable, with what it lists TIED to the program's text (the seventh form; the later family's looks); each row that meets fmt, with fmt's text TOLD by the authors' own Lean function (tested against real Go, not proved from fmt's source: count such statements apart). THE CARD IS WHAT COUNTS. Prove the row's statement (the work); the ties are given (YtiiegpklpmogmaaDoorTie.lean); close each card by the builder's one call (the guide's Derived/Test/ToyasCard.lean, 'card_holds'). Laid BY PROGRAM, IN A SANDBOX (cutbox-door.mjs). By AI agents, Wed Nov 11 2026. No macro, syntax, notation, axiom, sorry.
-/
import Derived.Test.YtiiegpklpmogmaaDoorRows
import GoSem.ClaimSeven
namespace Go.Proofs.YtiiegpklpmogmaaDoor
namespace Rows

/-- THE TIED CARD OF 'sluicelaw01.StampTexts'. -/
def stampTextsCard : Claim7 := { stood := { row := stampTextsRow, standIns := [], harness := (true, "8ff19a0d05c85c9b18e4e0e0d278563de561e5382d3931bf46edccf88c9ee50b"), looks := true }, kinds := [], alts := [], laidByText := true, laidKinds := [.data, .data, .data, .data, .sentinel, .sentinel, .pinned], laidTests := true, laidLooks := .later }
def StampTextsCardSaid : Prop := Claim7.holds Tryd.pinned (.plain (OpenSpec.ofChange stampTextsSpec)) stampTextsCard

/-- THE TIED CARD OF 'sluicelaw01.StampLeast'. -/
def stampLeastCard : Claim7 := { stood := { row := stampLeastRow, standIns := [], harness := (true, "8ff19a0d05c85c9b18e4e0e0d278563de561e5382d3931bf46edccf88c9ee50b"), looks := true }, kinds := [], alts := [], laidByText := true, laidKinds := [.data, .data, .data, .data, .sentinel, .sentinel, .pinned], laidTests := true, laidLooks := .later }
def StampLeastCardSaid : Prop := Claim7.holds Tryd.pinned (.plain (OpenSpec.ofChange stampLeastSpec)) stampLeastCard

/-- THE TIED CARD OF 'sluicelaw01.StampBack'. -/
def stampBackCard : Claim7 := { stood := { row := stampBackRow, standIns := [], harness := (true, "8ff19a0d05c85c9b18e4e0e0d278563de561e5382d3931bf46edccf88c9ee50b"), looks := true }, kinds := [], alts := [], laidByText := true, laidKinds := [.data, .data, .data, .data, .sentinel, .sentinel, .pinned], laidTests := true, laidLooks := .later }
def StampBackCardSaid : Prop := Claim7.holds Tryd.pinned (.plain (OpenSpec.ofChange stampBackSpec)) stampBackCard

/-- THE TIED CARD OF 'sluicelaw01.StampOrders'. -/
def stampOrdersCard : Claim7 := { stood := { row := stampOrdersRow, standIns := [], harness := (true, "8ff19a0d05c85c9b18e4e0e0d278563de561e5382d3931bf46edccf88c9ee50b"), looks := true }, kinds := [], alts := [], laidByText := true, laidKinds := [.data, .data, .data, .data, .sentinel, .sentinel, .pinned], laidTests := true, laidLooks := .later }
def StampOrdersCardSaid : Prop := Claim7.holds Tryd.pinned (.plain (OpenSpec.ofChange stampOrdersSpec)) stampOrdersCard

/-- THE SECOND FORM's CARD OF 'sluicelaw01.StampTexts'. -/
def stampTextsUptoCard : Claim7 := { stood := { row := stampTextsUptoRow, standIns := [], harness := (true, "8ff19a0d05c85c9b18e4e0e0d278563de561e5382d3931bf46edccf88c9ee50b"), looks := true }, kinds := [], alts := [], laidByText := true, laidKinds := [.data, .data, .data, .data, .sentinel, .sentinel, .pinned], laidTests := true, laidLooks := .later }
def StampTextsUptoCardSaid : Prop := Claim7.holds Tryd.pinned (.plain (OpenSpec.upto stampTextsSpec)) stampTextsUptoCard

/-- THE SECOND FORM's CARD OF 'sluicelaw01.StampLeast'. -/
def stampLeastUptoCard : Claim7 := { stood := { row := stampLeastUptoRow, standIns := [], harness := (true, "8ff19a0d05c85c9b18e4e0e0d278563de561e5382d3931bf46edccf88c9ee50b"), looks := true }, kinds := [], alts := [], laidByText := true, laidKinds := [.data, .data, .data, .data, .sentinel, .sentinel, .pinned], laidTests := true, laidLooks := .later }
def StampLeastUptoCardSaid : Prop := Claim7.holds Tryd.pinned (.plain (OpenSpec.upto stampLeastSpec)) stampLeastUptoCard

/-- THE SECOND FORM's CARD OF 'sluicelaw01.StampBack'. -/
def stampBackUptoCard : Claim7 := { stood := { row := stampBackUptoRow, standIns := [], harness := (true, "8ff19a0d05c85c9b18e4e0e0d278563de561e5382d3931bf46edccf88c9ee50b"), looks := true }, kinds := [], alts := [], laidByText := true, laidKinds := [.data, .data, .data, .data, .sentinel, .sentinel, .pinned], laidTests := true, laidLooks := .later }
def StampBackUptoCardSaid : Prop := Claim7.holds Tryd.pinned (.plain (OpenSpec.upto stampBackSpec)) stampBackUptoCard

/-- THE SECOND FORM's CARD OF 'sluicelaw01.StampOrders'. -/
def stampOrdersUptoCard : Claim7 := { stood := { row := stampOrdersUptoRow, standIns := [], harness := (true, "8ff19a0d05c85c9b18e4e0e0d278563de561e5382d3931bf46edccf88c9ee50b"), looks := true }, kinds := [], alts := [], laidByText := true, laidKinds := [.data, .data, .data, .data, .sentinel, .sentinel, .pinned], laidTests := true, laidLooks := .later }
def StampOrdersUptoCardSaid : Prop := Claim7.holds Tryd.pinned (.plain (OpenSpec.upto stampOrdersSpec)) stampOrdersUptoCard
end Rows
end Go.Proofs.YtiiegpklpmogmaaDoor
