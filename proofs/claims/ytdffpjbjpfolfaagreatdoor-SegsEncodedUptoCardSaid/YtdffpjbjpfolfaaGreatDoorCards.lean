/-
  DERIVED. GIVEN WITH THE SEED: THE CARDS: each row of YtdffpjbjpfolfaaGreatDoorRows.lean that lists a variable, with what it lists TIED to the program's text (the seventh form; the later family's looks); each row that meets fmt, with fmt's text TOLD by the authors' own Lean function (tested against real Go, not proved from fmt's source: count such statements apart). THE CARD IS WHAT COUNTS. Prove the row's statement (the work); the ties are given (YtdffpjbjpfolfaaGreatDoorTie.lean); close each card by the builder's one call (the guide's Derived/Test/ToyasCard.lean, 'card_holds'). Laid BY PROGRAM, IN A SANDBOX (cutbox-door.mjs). By AI agents, Wed Nov 11 2026. No macro, syntax, notation, axiom, sorry.
-/
import Derived.Test.YtdffpjbjpfolfaaGreatDoorRows
import GoSem.ClaimSeven
namespace Go.Proofs.YtdffpjbjpfolfaaGreatDoor
namespace Rows

/-- THE TIED CARD OF 'doorkeeperlaw16.SegsParses'. -/
def segsParsesCard : Claim7 := { stood := { row := segsParsesRow, standIns := [], harness := (true, "ecd3885366b20ee93421940d730b4c6232161caf179f367eadfe531829851863"), looks := true }, kinds := [], alts := [], laidByText := true, laidKinds := [.data, .handle, .pinned], laidTests := true, laidLooks := .later }
def SegsParsesCardSaid : Prop := Claim7.holds Tryz.pinned (.plain (OpenSpec.ofChange segsParsesSpec)) segsParsesCard

/-- THE TIED CARD OF 'doorkeeperlaw16.SegsInverse'. -/
def segsInverseCard : Claim7 := { stood := { row := segsInverseRow, standIns := [], harness := (true, "ecd3885366b20ee93421940d730b4c6232161caf179f367eadfe531829851863"), looks := true }, kinds := [], alts := [], laidByText := true, laidKinds := [.data, .handle, .pinned], laidTests := true, laidLooks := .later }
def SegsInverseCardSaid : Prop := Claim7.holds Tryz.pinned (.plain (OpenSpec.ofChange segsInverseSpec)) segsInverseCard

/-- THE TIED CARD OF 'doorkeeperlaw16.SegsEncoded'. -/
def segsEncodedCard : Claim7 := { stood := { row := segsEncodedRow, standIns := [], harness := (true, "ecd3885366b20ee93421940d730b4c6232161caf179f367eadfe531829851863"), looks := true }, kinds := [], alts := [], laidByText := true, laidKinds := [.data, .handle, .pinned], laidTests := true, laidLooks := .later }
def SegsEncodedCardSaid : Prop := Claim7.holds Tryz.pinned (.plain (OpenSpec.ofChange segsEncodedSpec)) segsEncodedCard

/-- THE SECOND FORM's CARD OF 'doorkeeperlaw16.SegsParses'. -/
def segsParsesUptoCard : Claim7 := { stood := { row := segsParsesUptoRow, standIns := [], harness := (true, "ecd3885366b20ee93421940d730b4c6232161caf179f367eadfe531829851863"), looks := true }, kinds := [], alts := [], laidByText := true, laidKinds := [.data, .handle, .pinned], laidTests := true, laidLooks := .later }
def SegsParsesUptoCardSaid : Prop := Claim7.holds Tryz.pinned (.plain (OpenSpec.upto segsParsesSpec)) segsParsesUptoCard

/-- THE SECOND FORM's CARD OF 'doorkeeperlaw16.SegsInverse'. -/
def segsInverseUptoCard : Claim7 := { stood := { row := segsInverseUptoRow, standIns := [], harness := (true, "ecd3885366b20ee93421940d730b4c6232161caf179f367eadfe531829851863"), looks := true }, kinds := [], alts := [], laidByText := true, laidKinds := [.data, .handle, .pinned], laidTests := true, laidLooks := .later }
def SegsInverseUptoCardSaid : Prop := Claim7.holds Tryz.pinned (.plain (OpenSpec.upto segsInverseSpec)) segsInverseUptoCard

/-- THE SECOND FORM's CARD OF 'doorkeeperlaw16.SegsEncoded'. -/
def segsEncodedUptoCard : Claim7 := { stood := { row := segsEncodedUptoRow, standIns := [], harness := (true, "ecd3885366b20ee93421940d730b4c6232161caf179f367eadfe531829851863"), looks := true }, kinds := [], alts := [], laidByText := true, laidKinds := [.data, .handle, .pinned], laidTests := true, laidLooks := .later }
def SegsEncodedUptoCardSaid : Prop := Claim7.holds Tryz.pinned (.plain (OpenSpec.upto segsEncodedSpec)) segsEncodedUptoCard
end Rows
end Go.Proofs.YtdffpjbjpfolfaaGreatDoor
