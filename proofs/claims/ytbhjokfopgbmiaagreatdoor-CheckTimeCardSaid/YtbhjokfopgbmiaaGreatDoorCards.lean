/-
  DERIVED. GIVEN WITH THE SEED: THE CARDS: each row of YtbhjokfopgbmiaaGreatDoorRows.lean that lists a variable, with what it lists TIED to the program's text (the seventh form; the later family's looks); each row that meets fmt, with fmt's text TOLD by the authors' own Lean function (tested against real Go, not proved from fmt's source: count such statements apart). THE CARD IS WHAT COUNTS. Prove the row's statement (the work); the ties are given (YtbhjokfopgbmiaaGreatDoorTie.lean); close each card by the builder's one call (the guide's Derived/Test/ToyasCard.lean, 'card_holds'). Laid BY PROGRAM, IN A SANDBOX (cutbox-door.mjs). By AI agents, Wed Nov 11 2026. No macro, syntax, notation, axiom, sorry.
-/
import Derived.Test.YtbhjokfopgbmiaaGreatDoorRows
import GoSem.ClaimSeven
namespace Go.Proofs.YtbhjokfopgbmiaaGreatDoor
namespace Rows

/-- THE TIED CARD OF 'stonecroplaw30.CheckTime'. -/
def checkTimeCard : Claim7 := { stood := { row := checkTimeRow, standIns := [], harness := (true, "c112f9c9a04553161c5ba4c3ed23ec8f2ecfe5d8f92ade6081b29b7d53be8ff0"), looks := false }, kinds := [], alts := [], laidByText := true, laidKinds := [.data, .data, .data, .data, .pinned], laidTests := true, laidLooks := .later }
def CheckTimeCardSaid : Prop := Claim7.holds Tryz.pinned (.plain (OpenSpec.ofChange checkTimeSpec)) checkTimeCard

/-- THE SECOND FORM's CARD OF 'stonecroplaw30.CheckTime'. -/
def checkTimeUptoCard : Claim7 := { stood := { row := checkTimeUptoRow, standIns := [], harness := (true, "c112f9c9a04553161c5ba4c3ed23ec8f2ecfe5d8f92ade6081b29b7d53be8ff0"), looks := false }, kinds := [], alts := [], laidByText := true, laidKinds := [.data, .data, .data, .data, .pinned], laidTests := true, laidLooks := .later }
def CheckTimeUptoCardSaid : Prop := Claim7.holds Tryz.pinned (.plain (OpenSpec.upto checkTimeSpec)) checkTimeUptoCard
end Rows
end Go.Proofs.YtbhjokfopgbmiaaGreatDoor
