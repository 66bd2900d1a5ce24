/-
  DERIVED. GIVEN WITH THE SEED: THE CARDS: each row of YthdbkmpkebdliaaGreatDoorRows.lean that lists a variable, with what it lists TIED to the program's text (the seventh form; the later family's looks); each row that meets fmt, with fmt's text TOLD by the authors' own Lean function (tested against real Go, not proved from fmt's source: count such statements apart). THE CARD IS WHAT COUNTS. Prove the row's statement (the work); the ties are given (YthdbkmpkebdliaaGreatDoorTie.lean); close each card by the builder's one call (the guide's Derived/Test/ToyasCard.lean, 'card_holds'). Laid BY PROGRAM, IN A SANDBOX (cutbox-door.mjs). By AI agents, Wed Nov 11 2026. No macro, syntax, notation, axiom, sorry.
-/
import Derived.Test.YthdbkmpkebdliaaGreatDoorRows
import GoSem.ClaimSeven
namespace Go.Proofs.YthdbkmpkebdliaaGreatDoor
namespace Rows

/-- THE TIED CARD OF 'caliperlaw11.HexformWrites'. -/
def hexformWritesCard : Claim7 := { stood := { row := hexformWritesRow, standIns := [], harness := (true, "daa3e84377c37ee9aa9370375b9bf02a9b048f9791c5dfe582e5228de482010f"), looks := true }, kinds := [], alts := [], laidByText := true, laidKinds := [.data, .data, .data, .data, .pinned], laidTests := true, laidLooks := .later }
def HexformWritesCardSaid : Prop := Claim7.holds Tryz.pinned (.plain (OpenSpec.ofChange hexformWritesSpec)) hexformWritesCard

/-- THE TIED CARD OF 'caliperlaw09.ShortestDigits'. -/
def shortestDigitsCard : Claim7 := { stood := { row := shortestDigitsRow, standIns := [], harness := (true, "daa3e84377c37ee9aa9370375b9bf02a9b048f9791c5dfe582e5228de482010f"), looks := true }, kinds := [], alts := [], laidByText := true, laidKinds := [.data, .data, .data, .data, .pinned], laidTests := true, laidLooks := .later }
def ShortestDigitsCardSaid : Prop := Claim7.holds Tryz.pinned (.plain (OpenSpec.ofChange shortestDigitsSpec)) shortestDigitsCard

/-- THE TIED CARD OF 'caliperlaw09.ShortestWrites'. -/
def shortestWritesCard : Claim7 := { stood := { row := shortestWritesRow, standIns := [], harness := (true, "daa3e84377c37ee9aa9370375b9bf02a9b048f9791c5dfe582e5228de482010f"), looks := true }, kinds := [], alts := [], laidByText := true, laidKinds := [.data, .data, .data, .data, .pinned], laidTests := true, laidLooks := .later }
def ShortestWritesCardSaid : Prop := Claim7.holds Tryz.pinned (.plain (OpenSpec.ofChange shortestWritesSpec)) shortestWritesCard

/-- THE TIED CARD OF 'caliperlaw09.ShortestSign'. -/
def shortestSignCard : Claim7 := { stood := { row := shortestSignRow, standIns := [], harness := (true, "daa3e84377c37ee9aa9370375b9bf02a9b048f9791c5dfe582e5228de482010f"), looks := true }, kinds := [], alts := [], laidByText := true, laidKinds := [.data, .data, .data, .data, .pinned], laidTests := true, laidLooks := .later }
def ShortestSignCardSaid : Prop := Claim7.holds Tryz.pinned (.plain (OpenSpec.ofChange shortestSignSpec)) shortestSignCard

/-- THE TIED CARD OF 'caliperlaw08.ReadbinReads'. -/
def readbinReadsCard : Claim7 := { stood := { row := readbinReadsRow, standIns := [], harness := (true, "daa3e84377c37ee9aa9370375b9bf02a9b048f9791c5dfe582e5228de482010f"), looks := true }, kinds := [], alts := [], laidByText := true, laidKinds := [.data, .data, .data, .data, .sentinel, .sentinel, .pinned], laidTests := true, laidLooks := .later }
def ReadbinReadsCardSaid : Prop := Claim7.holds Tryz.pinned (.plain (OpenSpec.ofChange readbinReadsSpec)) readbinReadsCard

/-- THE TIED CARD OF 'caliperlaw08.ReadbinMakes'. -/
def readbinMakesCard : Claim7 := { stood := { row := readbinMakesRow, standIns := [], harness := (true, "daa3e84377c37ee9aa9370375b9bf02a9b048f9791c5dfe582e5228de482010f"), looks := true }, kinds := [], alts := [], laidByText := true, laidKinds := [.data, .data, .data, .data, .sentinel, .sentinel, .pinned], laidTests := true, laidLooks := .later }
def ReadbinMakesCardSaid : Prop := Claim7.holds Tryz.pinned (.plain (OpenSpec.ofChange readbinMakesSpec)) readbinMakesCard

/-- THE TIED CARD OF 'caliperlaw08.ReadbinExact'. -/
def readbinExactCard : Claim7 := { stood := { row := readbinExactRow, standIns := [], harness := (true, "daa3e84377c37ee9aa9370375b9bf02a9b048f9791c5dfe582e5228de482010f"), looks := true }, kinds := [], alts := [], laidByText := true, laidKinds := [.data, .data, .data, .data, .sentinel, .sentinel, .pinned], laidTests := true, laidLooks := .later }
def ReadbinExactCardSaid : Prop := Claim7.holds Tryz.pinned (.plain (OpenSpec.ofChange readbinExactSpec)) readbinExactCard

/-- THE TIED CARD OF 'caliperlaw08.ReadbinSpelt'. -/
def readbinSpeltCard : Claim7 := { stood := { row := readbinSpeltRow, standIns := [], harness := (true, "daa3e84377c37ee9aa9370375b9bf02a9b048f9791c5dfe582e5228de482010f"), looks := true }, kinds := [], alts := [], laidByText := true, laidKinds := [.data, .data, .data, .data, .sentinel, .sentinel, .pinned], laidTests := true, laidLooks := .later }
def ReadbinSpeltCardSaid : Prop := Claim7.holds Tryz.pinned (.plain (OpenSpec.ofChange readbinSpeltSpec)) readbinSpeltCard

/-- THE TIED CARD OF 'caliperlaw08.ReadbinNaNs'. -/
def readbinNaNsCard : Claim7 := { stood := { row := readbinNaNsRow, standIns := [], harness := (true, "daa3e84377c37ee9aa9370375b9bf02a9b048f9791c5dfe582e5228de482010f"), looks := true }, kinds := [], alts := [], laidByText := true, laidKinds := [.data, .data, .data, .data, .sentinel, .sentinel, .pinned], laidTests := true, laidLooks := .later }
def ReadbinNaNsCardSaid : Prop := Claim7.holds Tryz.pinned (.plain (OpenSpec.ofChange readbinNaNsSpec)) readbinNaNsCard

/-- THE TIED CARD OF 'caliperlaw08.ReadbinTurns'. -/
def readbinTurnsCard : Claim7 := { stood := { row := readbinTurnsRow, standIns := [], harness := (true, "daa3e84377c37ee9aa9370375b9bf02a9b048f9791c5dfe582e5228de482010f"), looks := true }, kinds := [], alts := [], laidByText := true, laidKinds := [.data, .data, .data, .data, .sentinel, .sentinel, .pinned], laidTests := true, laidLooks := .later }
def ReadbinTurnsCardSaid : Prop := Claim7.holds Tryz.pinned (.plain (OpenSpec.ofChange readbinTurnsSpec)) readbinTurnsCard

/-- THE TIED CARD OF 'caliperlaw21.NativeOwn'. -/
def nativeOwnCard : Claim7 := { stood := { row := nativeOwnRow, standIns := [], harness := (true, "daa3e84377c37ee9aa9370375b9bf02a9b048f9791c5dfe582e5228de482010f"), looks := true }, kinds := [], alts := [], laidByText := true, laidKinds := [.data, .data, .data, .data, .sentinel, .sentinel, .pinned], laidTests := true, laidLooks := .later }
def NativeOwnCardSaid : Prop := Claim7.holds Tryz.pinned (.plain (OpenSpec.ofChange nativeOwnSpec)) nativeOwnCard

/-- THE TIED CARD OF 'caliperlaw11.HexformReads'. -/
def hexformReadsCard : Claim7 := { stood := { row := hexformReadsRow, standIns := [], harness := (true, "daa3e84377c37ee9aa9370375b9bf02a9b048f9791c5dfe582e5228de482010f"), looks := true }, kinds := [], alts := [], laidByText := true, laidKinds := [.data, .data, .data, .data, .sentinel, .sentinel, .pinned], laidTests := true, laidLooks := .later }
def HexformReadsCardSaid : Prop := Claim7.holds Tryz.pinned (.plain (OpenSpec.ofChange hexformReadsSpec)) hexformReadsCard

/-- THE TIED CARD OF 'caliperlaw11.HexformBack'. -/
def hexformBackCard : Claim7 := { stood := { row := hexformBackRow, standIns := [], harness := (true, "daa3e84377c37ee9aa9370375b9bf02a9b048f9791c5dfe582e5228de482010f"), looks := true }, kinds := [], alts := [], laidByText := true, laidKinds := [.data, .data, .data, .data, .sentinel, .sentinel, .pinned], laidTests := true, laidLooks := .later }
def HexformBackCardSaid : Prop := Claim7.holds Tryz.pinned (.plain (OpenSpec.ofChange hexformBackSpec)) hexformBackCard

/-- THE TIED CARD OF 'caliperlaw11.HexformMoves'. -/
def hexformMovesCard : Claim7 := { stood := { row := hexformMovesRow, standIns := [], harness := (true, "daa3e84377c37ee9aa9370375b9bf02a9b048f9791c5dfe582e5228de482010f"), looks := true }, kinds := [], alts := [], laidByText := true, laidKinds := [.data, .data, .data, .data, .sentinel, .sentinel, .pinned], laidTests := true, laidLooks := .later }
def HexformMovesCardSaid : Prop := Claim7.holds Tryz.pinned (.plain (OpenSpec.ofChange hexformMovesSpec)) hexformMovesCard

/-- THE TIED CARD OF 'caliperlaw11.HexformAgrees'. -/
def hexformAgreesCard : Claim7 := { stood := { row := hexformAgreesRow, standIns := [], harness := (true, "daa3e84377c37ee9aa9370375b9bf02a9b048f9791c5dfe582e5228de482010f"), looks := true }, kinds := [], alts := [], laidByText := true, laidKinds := [.data, .data, .data, .data, .sentinel, .sentinel, .pinned], laidTests := true, laidLooks := .later }
def HexformAgreesCardSaid : Prop := Claim7.holds Tryz.pinned (.plain (OpenSpec.ofChange hexformAgreesSpec)) hexformAgreesCard

/-- THE TIED CARD OF 'caliperlaw09.ShortestBack'. -/
def shortestBackCard : Claim7 := { stood := { row := shortestBackRow, standIns := [], harness := (true, "daa3e84377c37ee9aa9370375b9bf02a9b048f9791c5dfe582e5228de482010f"), looks := true }, kinds := [], alts := [], laidByText := true, laidKinds := [.data, .data, .data, .data, .sentinel, .sentinel, .pinned], laidTests := true, laidLooks := .later }
def ShortestBackCardSaid : Prop := Claim7.holds Tryz.pinned (.plain (OpenSpec.ofChange shortestBackSpec)) shortestBackCard

/-- THE TIED CARD OF 'caliperlaw09.ShortestLeast'. -/
def shortestLeastCard : Claim7 := { stood := { row := shortestLeastRow, standIns := [], harness := (true, "daa3e84377c37ee9aa9370375b9bf02a9b048f9791c5dfe582e5228de482010f"), looks := true }, kinds := [], alts := [], laidByText := true, laidKinds := [.data, .data, .data, .data, .sentinel, .sentinel, .pinned], laidTests := true, laidLooks := .later }
def ShortestLeastCardSaid : Prop := Claim7.holds Tryz.pinned (.plain (OpenSpec.ofChange shortestLeastSpec)) shortestLeastCard

/-- THE TIED CARD OF 'caliperlaw09.ShortestWhole'. -/
def shortestWholeCard : Claim7 := { stood := { row := shortestWholeRow, standIns := [], harness := (true, "daa3e84377c37ee9aa9370375b9bf02a9b048f9791c5dfe582e5228de482010f"), looks := true }, kinds := [], alts := [], laidByText := true, laidKinds := [.data, .data, .data, .data, .sentinel, .sentinel, .pinned], laidTests := true, laidLooks := .later }
def ShortestWholeCardSaid : Prop := Claim7.holds Tryz.pinned (.plain (OpenSpec.ofChange shortestWholeSpec)) shortestWholeCard

/-- THE SECOND FORM's CARD OF 'caliperlaw11.HexformWrites'. -/
def hexformWritesUptoCard : Claim7 := { stood := { row := hexformWritesUptoRow, standIns := [], harness := (true, "daa3e84377c37ee9aa9370375b9bf02a9b048f9791c5dfe582e5228de482010f"), looks := true }, kinds := [], alts := [], laidByText := true, laidKinds := [.data, .data, .data, .data, .pinned], laidTests := true, laidLooks := .later }
def HexformWritesUptoCardSaid : Prop := Claim7.holds Tryz.pinned (.plain (OpenSpec.upto hexformWritesSpec)) hexformWritesUptoCard

/-- THE SECOND FORM's CARD OF 'caliperlaw09.ShortestDigits'. -/
def shortestDigitsUptoCard : Claim7 := { stood := { row := shortestDigitsUptoRow, standIns := [], harness := (true, "daa3e84377c37ee9aa9370375b9bf02a9b048f9791c5dfe582e5228de482010f"), looks := true }, kinds := [], alts := [], laidByText := true, laidKinds := [.data, .data, .data, .data, .pinned], laidTests := true, laidLooks := .later }
def ShortestDigitsUptoCardSaid : Prop := Claim7.holds Tryz.pinned (.plain (OpenSpec.upto shortestDigitsSpec)) shortestDigitsUptoCard

/-- THE SECOND FORM's CARD OF 'caliperlaw09.ShortestWrites'. -/
def shortestWritesUptoCard : Claim7 := { stood := { row := shortestWritesUptoRow, standIns := [], harness := (true, "daa3e84377c37ee9aa9370375b9bf02a9b048f9791c5dfe582e5228de482010f"), looks := true }, kinds := [], alts := [], laidByText := true, laidKinds := [.data, .data, .data, .data, .pinned], laidTests := true, laidLooks := .later }
def ShortestWritesUptoCardSaid : Prop := Claim7.holds Tryz.pinned (.plain (OpenSpec.upto shortestWritesSpec)) shortestWritesUptoCard

/-- THE SECOND FORM's CARD OF 'caliperlaw09.ShortestSign'. -/
def shortestSignUptoCard : Claim7 := { stood := { row := shortestSignUptoRow, standIns := [], harness := (true, "daa3e84377c37ee9aa9370375b9bf02a9b048f9791c5dfe582e5228de482010f"), looks := true }, kinds := [], alts := [], laidByText := true, laidKinds := [.data, .data, .data, .data, .pinned], laidTests := true, laidLooks := .later }
def ShortestSignUptoCardSaid : Prop := Claim7.holds Tryz.pinned (.plain (OpenSpec.upto shortestSignSpec)) shortestSignUptoCard

/-- THE SECOND FORM's CARD OF 'caliperlaw08.ReadbinReads'. -/
def readbinReadsUptoCard : Claim7 := { stood := { row := readbinReadsUptoRow, standIns := [], harness := (true, "daa3e84377c37ee9aa9370375b9bf02a9b048f9791c5dfe582e5228de482010f"), looks := true }, kinds := [], alts := [], laidByText := true, laidKinds := [.data, .data, .data, .data, .sentinel, .sentinel, .pinned], laidTests := true, laidLooks := .later }
def ReadbinReadsUptoCardSaid : Prop := Claim7.holds Tryz.pinned (.plain (OpenSpec.upto readbinReadsSpec)) readbinReadsUptoCard

/-- THE SECOND FORM's CARD OF 'caliperlaw08.ReadbinMakes'. -/
def readbinMakesUptoCard : Claim7 := { stood := { row := readbinMakesUptoRow, standIns := [], harness := (true, "daa3e84377c37ee9aa9370375b9bf02a9b048f9791c5dfe582e5228de482010f"), looks := true }, kinds := [], alts := [], laidByText := true, laidKinds := [.data, .data, .data, .data, .sentinel, .sentinel, .pinned], laidTests := true, laidLooks := .later }
def ReadbinMakesUptoCardSaid : Prop := Claim7.holds Tryz.pinned (.plain (OpenSpec.upto readbinMakesSpec)) readbinMakesUptoCard

/-- THE SECOND FORM's CARD OF 'caliperlaw08.ReadbinExact'. -/
def readbinExactUptoCard : Claim7 := { stood := { row := readbinExactUptoRow, standIns := [], harness := (true, "daa3e84377c37ee9aa9370375b9bf02a9b048f9791c5dfe582e5228de482010f"), looks := true }, kinds := [], alts := [], laidByText := true, laidKinds := [.data, .data, .data, .data, .sentinel, .sentinel, .pinned], laidTests := true, laidLooks := .later }
def ReadbinExactUptoCardSaid : Prop := Claim7.holds Tryz.pinned (.plain (OpenSpec.upto readbinExactSpec)) readbinExactUptoCard

/-- THE SECOND FORM's CARD OF 'caliperlaw08.ReadbinSpelt'. -/
def readbinSpeltUptoCard : Claim7 := { stood := { row := readbinSpeltUptoRow, standIns := [], harness := (true, "daa3e84377c37ee9aa9370375b9bf02a9b048f9791c5dfe582e5228de482010f"), looks := true }, kinds := [], alts := [], laidByText := true, laidKinds := [.data, .data, .data, .data, .sentinel, .sentinel, .pinned], laidTests := true, laidLooks := .later }
def ReadbinSpeltUptoCardSaid : Prop := Claim7.holds Tryz.pinned (.plain (OpenSpec.upto readbinSpeltSpec)) readbinSpeltUptoCard

/-- THE SECOND FORM's CARD OF 'caliperlaw08.ReadbinNaNs'. -/
def readbinNaNsUptoCard : Claim7 := { stood := { row := readbinNaNsUptoRow, standIns := [], harness := (true, "daa3e84377c37ee9aa9370375b9bf02a9b048f9791c5dfe582e5228de482010f"), looks := true }, kinds := [], alts := [], laidByText := true, laidKinds := [.data, .data, .data, .data, .sentinel, .sentinel, .pinned], laidTests := true, laidLooks := .later }
def ReadbinNaNsUptoCardSaid : Prop := Claim7.holds Tryz.pinned (.plain (OpenSpec.upto readbinNaNsSpec)) readbinNaNsUptoCard

/-- THE SECOND FORM's CARD OF 'caliperlaw08.ReadbinTurns'. -/
def readbinTurnsUptoCard : Claim7 := { stood := { row := readbinTurnsUptoRow, standIns := [], harness := (true, "daa3e84377c37ee9aa9370375b9bf02a9b048f9791c5dfe582e5228de482010f"), looks := true }, kinds := [], alts := [], laidByText := true, laidKinds := [.data, .data, .data, .data, .sentinel, .sentinel, .pinned], laidTests := true, laidLooks := .later }
def ReadbinTurnsUptoCardSaid : Prop := Claim7.holds Tryz.pinned (.plain (OpenSpec.upto readbinTurnsSpec)) readbinTurnsUptoCard

/-- THE SECOND FORM's CARD OF 'caliperlaw21.NativeOwn'. -/
def nativeOwnUptoCard : Claim7 := { stood := { row := nativeOwnUptoRow, standIns := [], harness := (true, "daa3e84377c37ee9aa9370375b9bf02a9b048f9791c5dfe582e5228de482010f"), looks := true }, kinds := [], alts := [], laidByText := true, laidKinds := [.data, .data, .data, .data, .sentinel, .sentinel, .pinned], laidTests := true, laidLooks := .later }
def NativeOwnUptoCardSaid : Prop := Claim7.holds Tryz.pinned (.plain (OpenSpec.upto nativeOwnSpec)) nativeOwnUptoCard

/-- THE SECOND FORM's CARD OF 'caliperlaw11.HexformReads'. -/
def hexformReadsUptoCard : Claim7 := { stood := { row := hexformReadsUptoRow, standIns := [], harness := (true, "daa3e84377c37ee9aa9370375b9bf02a9b048f9791c5dfe582e5228de482010f"), looks := true }, kinds := [], alts := [], laidByText := true, laidKinds := [.data, .data, .data, .data, .sentinel, .sentinel, .pinned], laidTests := true, laidLooks := .later }
def HexformReadsUptoCardSaid : Prop := Claim7.holds Tryz.pinned (.plain (OpenSpec.upto hexformReadsSpec)) hexformReadsUptoCard

/-- THE SECOND FORM's CARD OF 'caliperlaw11.HexformBack'. -/
def hexformBackUptoCard : Claim7 := { stood := { row := hexformBackUptoRow, standIns := [], harness := (true, "daa3e84377c37ee9aa9370375b9bf02a9b048f9791c5dfe582e5228de482010f"), looks := true }, kinds := [], alts := [], laidByText := true, laidKinds := [.data, .data, .data, .data, .sentinel, .sentinel, .pinned], laidTests := true, laidLooks := .later }
def HexformBackUptoCardSaid : Prop := Claim7.holds Tryz.pinned (.plain (OpenSpec.upto hexformBackSpec)) hexformBackUptoCard

/-- THE SECOND FORM's CARD OF 'caliperlaw11.HexformMoves'. -/
def hexformMovesUptoCard : Claim7 := { stood := { row := hexformMovesUptoRow, standIns := [], harness := (true, "daa3e84377c37ee9aa9370375b9bf02a9b048f9791c5dfe582e5228de482010f"), looks := true }, kinds := [], alts := [], laidByText := true, laidKinds := [.data, .data, .data, .data, .sentinel, .sentinel, .pinned], laidTests := true, laidLooks := .later }
def HexformMovesUptoCardSaid : Prop := Claim7.holds Tryz.pinned (.plain (OpenSpec.upto hexformMovesSpec)) hexformMovesUptoCard

/-- THE SECOND FORM's CARD OF 'caliperlaw11.HexformAgrees'. -/
def hexformAgreesUptoCard : Claim7 := { stood := { row := hexformAgreesUptoRow, standIns := [], harness := (true, "daa3e84377c37ee9aa9370375b9bf02a9b048f9791c5dfe582e5228de482010f"), looks := true }, kinds := [], alts := [], laidByText := true, laidKinds := [.data, .data, .data, .data, .sentinel, .sentinel, .pinned], laidTests := true, laidLooks := .later }
def HexformAgreesUptoCardSaid : Prop := Claim7.holds Tryz.pinned (.plain (OpenSpec.upto hexformAgreesSpec)) hexformAgreesUptoCard

/-- THE SECOND FORM's CARD OF 'caliperlaw09.ShortestBack'. -/
def shortestBackUptoCard : Claim7 := { stood := { row := shortestBackUptoRow, standIns := [], harness := (true, "daa3e84377c37ee9aa9370375b9bf02a9b048f9791c5dfe582e5228de482010f"), looks := true }, kinds := [], alts := [], laidByText := true, laidKinds := [.data, .data, .data, .data, .sentinel, .sentinel, .pinned], laidTests := true, laidLooks := .later }
def ShortestBackUptoCardSaid : Prop := Claim7.holds Tryz.pinned (.plain (OpenSpec.upto shortestBackSpec)) shortestBackUptoCard

/-- THE SECOND FORM's CARD OF 'caliperlaw09.ShortestLeast'. -/
def shortestLeastUptoCard : Claim7 := { stood := { row := shortestLeastUptoRow, standIns := [], harness := (true, "daa3e84377c37ee9aa9370375b9bf02a9b048f9791c5dfe582e5228de482010f"), looks := true }, kinds := [], alts := [], laidByText := true, laidKinds := [.data, .data, .data, .data, .sentinel, .sentinel, .pinned], laidTests := true, laidLooks := .later }
def ShortestLeastUptoCardSaid : Prop := Claim7.holds Tryz.pinned (.plain (OpenSpec.upto shortestLeastSpec)) shortestLeastUptoCard

/-- THE SECOND FORM's CARD OF 'caliperlaw09.ShortestWhole'. -/
def shortestWholeUptoCard : Claim7 := { stood := { row := shortestWholeUptoRow, standIns := [], harness := (true, "daa3e84377c37ee9aa9370375b9bf02a9b048f9791c5dfe582e5228de482010f"), looks := true }, kinds := [], alts := [], laidByText := true, laidKinds := [.data, .data, .data, .data, .sentinel, .sentinel, .pinned], laidTests := true, laidLooks := .later }
def ShortestWholeUptoCardSaid : Prop := Claim7.holds Tryz.pinned (.plain (OpenSpec.upto shortestWholeSpec)) shortestWholeUptoCard
end Rows
end Go.Proofs.YthdbkmpkebdliaaGreatDoor
