/-
  DERIVED. GIVEN WITH THE SEED: THE CARDS: each row of YtgjgcjhmaibblaaGreatDoorRows.lean that lists a variable, with what it lists TIED to the program's text (the seventh form; the later family's looks); each row that meets fmt, with fmt's text TOLD by the authors' own Lean function (tested against real Go, not proved from fmt's source: count such statements apart). THE CARD IS WHAT COUNTS. Prove the row's statement (the work); the ties are given (YtgjgcjhmaibblaaGreatDoorTie.lean); close each card by the builder's one call (the guide's Derived/Test/ToyasCard.lean, 'card_holds'). Laid BY PROGRAM, IN A SANDBOX (cutbox-door.mjs). By AI agents, Wed Nov 11 2026. No macro, syntax, notation, axiom, sorry.
-/
import Derived.Test.YtgjgcjhmaibblaaGreatDoorRows
import GoSem.ClaimSeven
namespace Go.Proofs.YtgjgcjhmaibblaaGreatDoor
namespace Rows

/-- THE TIED CARD OF 'doorkeeperlaw26.SerialBytes'. -/
def serialBytesCard : Claim7 := { stood := { row := serialBytesRow, standIns := [], harness := (true, "5df545c6631969087cc2c7044331923cfce5f8fac06e33f82906e8e1dc0a4c03"), looks := true }, kinds := [], alts := [], laidByText := true, laidKinds := [.data, .data, .data], laidTests := true, laidLooks := .later }
def SerialBytesCardSaid : Prop := Claim7.holds Tryz.pinned (.plain (OpenSpec.ofChange serialBytesSpec)) serialBytesCard

/-- THE TIED CARD OF 'doorkeeperlaw26.SerialInverse'. -/
def serialInverseCard : Claim7 := { stood := { row := serialInverseRow, standIns := [], harness := (true, "5df545c6631969087cc2c7044331923cfce5f8fac06e33f82906e8e1dc0a4c03"), looks := true }, kinds := [], alts := [], laidByText := true, laidKinds := [.data, .data, .data], laidTests := true, laidLooks := .later }
def SerialInverseCardSaid : Prop := Claim7.holds Tryz.pinned (.plain (OpenSpec.ofChange serialInverseSpec)) serialInverseCard

/-- THE TIED CARD OF 'doorkeeperlaw26.SerialSplits'. -/
def serialSplitsCard : Claim7 := { stood := { row := serialSplitsRow, standIns := [], harness := (true, "5df545c6631969087cc2c7044331923cfce5f8fac06e33f82906e8e1dc0a4c03"), looks := true }, kinds := [], alts := [], laidByText := true, laidKinds := [.data, .data, .data], laidTests := true, laidLooks := .later }
def SerialSplitsCardSaid : Prop := Claim7.holds Tryz.pinned (.plain (OpenSpec.ofChange serialSplitsSpec)) serialSplitsCard

/-- THE TIED CARD OF 'doorkeeperlaw26.SerialCuts'. -/
def serialCutsCard : Claim7 := { stood := { row := serialCutsRow, standIns := [], harness := (true, "5df545c6631969087cc2c7044331923cfce5f8fac06e33f82906e8e1dc0a4c03"), looks := true }, kinds := [], alts := [], laidByText := true, laidKinds := [.data, .data, .data], laidTests := true, laidLooks := .later }
def SerialCutsCardSaid : Prop := Claim7.holds Tryz.pinned (.plain (OpenSpec.ofChange serialCutsSpec)) serialCutsCard

/-- THE SECOND FORM's CARD OF 'doorkeeperlaw26.SerialBytes'. -/
def serialBytesUptoCard : Claim7 := { stood := { row := serialBytesUptoRow, standIns := [], harness := (true, "5df545c6631969087cc2c7044331923cfce5f8fac06e33f82906e8e1dc0a4c03"), looks := true }, kinds := [], alts := [], laidByText := true, laidKinds := [.data, .data, .data], laidTests := true, laidLooks := .later }
def SerialBytesUptoCardSaid : Prop := Claim7.holds Tryz.pinned (.plain (OpenSpec.upto serialBytesSpec)) serialBytesUptoCard

/-- THE SECOND FORM's CARD OF 'doorkeeperlaw26.SerialInverse'. -/
def serialInverseUptoCard : Claim7 := { stood := { row := serialInverseUptoRow, standIns := [], harness := (true, "5df545c6631969087cc2c7044331923cfce5f8fac06e33f82906e8e1dc0a4c03"), looks := true }, kinds := [], alts := [], laidByText := true, laidKinds := [.data, .data, .data], laidTests := true, laidLooks := .later }
def SerialInverseUptoCardSaid : Prop := Claim7.holds Tryz.pinned (.plain (OpenSpec.upto serialInverseSpec)) serialInverseUptoCard

/-- THE SECOND FORM's CARD OF 'doorkeeperlaw26.SerialSplits'. -/
def serialSplitsUptoCard : Claim7 := { stood := { row := serialSplitsUptoRow, standIns := [], harness := (true, "5df545c6631969087cc2c7044331923cfce5f8fac06e33f82906e8e1dc0a4c03"), looks := true }, kinds := [], alts := [], laidByText := true, laidKinds := [.data, .data, .data], laidTests := true, laidLooks := .later }
def SerialSplitsUptoCardSaid : Prop := Claim7.holds Tryz.pinned (.plain (OpenSpec.upto serialSplitsSpec)) serialSplitsUptoCard

/-- THE SECOND FORM's CARD OF 'doorkeeperlaw26.SerialCuts'. -/
def serialCutsUptoCard : Claim7 := { stood := { row := serialCutsUptoRow, standIns := [], harness := (true, "5df545c6631969087cc2c7044331923cfce5f8fac06e33f82906e8e1dc0a4c03"), looks := true }, kinds := [], alts := [], laidByText := true, laidKinds := [.data, .data, .data], laidTests := true, laidLooks := .later }
def SerialCutsUptoCardSaid : Prop := Claim7.holds Tryz.pinned (.plain (OpenSpec.upto serialCutsSpec)) serialCutsUptoCard
end Rows
end Go.Proofs.YtgjgcjhmaibblaaGreatDoor
