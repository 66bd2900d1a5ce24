/-
  DERIVED. GIVEN WITH THE SEED: THE CARDS: each row of YtknejocjkjpfmaaGreatDoorRows.lean that lists a variable, with what it lists TIED to the program's text (the seventh form; the later family's looks); each row that meets fmt, with fmt's text TOLD by the authors' own Lean function (tested against real Go, not proved from fmt's source: count such statements apart). THE CARD IS WHAT COUNTS. Prove the row's statement (the work); the ties are given (YtknejocjkjpfmaaGreatDoorTie.lean); close each card by the builder's one call (the guide's Derived/Test/ToyasCard.lean, 'card_holds'). Laid BY PROGRAM, IN A SANDBOX (cutbox-door.mjs). By AI agents, Wed Nov 11 2026. No macro, syntax, notation, axiom, sorry.
-/
import Derived.Test.YtknejocjkjpfmaaGreatDoorRows
import GoSem.ClaimSeven
namespace Go.Proofs.YtknejocjkjpfmaaGreatDoor
namespace Rows

/-- THE TIED CARD OF 'caliperlaw11.HexformWrites'. -/
def hexformWritesCard : Claim7 := { stood := { row := hexformWritesRow, standIns := [], harness := (true, "d194d05c450727eff7b34aeee72e065408ac9580a72a00845e505bd9b3a1ddcd"), looks := false }, kinds := [], alts := [], laidByText := true, laidKinds := [.data, .data, .data, .data, .pinned], laidTests := true, laidLooks := .later }
def HexformWritesCardSaid : Prop := Claim7.holds Tryz.pinned (.plain (OpenSpec.ofChange hexformWritesSpec)) hexformWritesCard

/-- THE SECOND FORM's CARD OF 'caliperlaw11.HexformWrites'. -/
def hexformWritesUptoCard : Claim7 := { stood := { row := hexformWritesUptoRow, standIns := [], harness := (true, "d194d05c450727eff7b34aeee72e065408ac9580a72a00845e505bd9b3a1ddcd"), looks := false }, kinds := [], alts := [], laidByText := true, laidKinds := [.data, .data, .data, .data, .pinned], laidTests := true, laidLooks := .later }
def HexformWritesUptoCardSaid : Prop := Claim7.holds Tryz.pinned (.plain (OpenSpec.upto hexformWritesSpec)) hexformWritesUptoCard
end Rows
end Go.Proofs.YtknejocjkjpfmaaGreatDoor
