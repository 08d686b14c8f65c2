/-
  DERIVED. GIVEN WITH THE SEED: THE CARDS: each row of YtaocejbbmdeinaaDoorRows.lean that lists a variable, with what it lists TIED to the program's text (the seventh form; the later family's looks); each row that meets fmt, with fmt's text TOLD by the authors' own Lean function (tested against real Go, not proved from fmt's source: count such statements apart). THE CARD IS WHAT COUNTS. Prove the row's statement (the work); the ties are given (YtaocejbbmdeinaaDoorTie.lean); close each card by the builder's one call (the guide's Derived/Test/ToyasCard.lean, 'card_holds'). Laid BY PROGRAM, IN A SANDBOX (cutbox-door.mjs). By AI agents, Wed Nov 11 2026. No macro, syntax, notation, axiom, sorry.
-/
import Derived.Test.YtaocejbbmdeinaaDoorRows
import GoSem.ClaimSeven
namespace Go.Proofs.YtaocejbbmdeinaaDoor
namespace Rows

/-- THE TIED CARD OF 'doorkeeperlaw01.FaultFinds'. -/
def faultFindsCard : Claim7 := { stood := { row := faultFindsRow, standIns := [], harness := (true, "cba84d9b7147c002820ecb6223e6a18d663b3f5bb881424f6d071dcff1bf9b39"), looks := true }, kinds := [], alts := [], laidByText := true, laidKinds := [.handle], laidTests := true, laidLooks := .later }
def FaultFindsCardSaid : Prop := Claim7.holds Tryd.pinned (.plain (OpenSpec.ofChange faultFindsSpec)) faultFindsCard

/-- THE TIED CARD OF 'doorkeeperlaw01.FaultMoves'. -/
def faultMovesCard : Claim7 := { stood := { row := faultMovesRow, standIns := [], harness := (true, "cba84d9b7147c002820ecb6223e6a18d663b3f5bb881424f6d071dcff1bf9b39"), looks := true }, kinds := [], alts := [], laidByText := true, laidKinds := [.data, .data, .data, .handle], laidTests := true, laidLooks := .later }
def FaultMovesCardSaid : Prop := Claim7.holds Tryd.pinned (.plain (OpenSpec.ofChange faultMovesSpec)) faultMovesCard

/-- THE TIED CARD OF 'doorkeeperlaw01.FaultReasons'. -/
def faultReasonsCard : Claim7 := { stood := { row := faultReasonsRow, standIns := [], harness := (true, "cba84d9b7147c002820ecb6223e6a18d663b3f5bb881424f6d071dcff1bf9b39"), looks := true }, kinds := [], alts := [], laidByText := true, laidKinds := [.handle], laidTests := true, laidLooks := .later }
def FaultReasonsCardSaid : Prop := Claim7.holds Tryd.pinned (.plain (OpenSpec.ofChange faultReasonsSpec)) faultReasonsCard

/-- THE TIED CARD OF 'doorkeeperlaw01.FaultOthers'. -/
def faultOthersCard : Claim7 := { stood := { row := faultOthersRow, standIns := [], harness := (true, "cba84d9b7147c002820ecb6223e6a18d663b3f5bb881424f6d071dcff1bf9b39"), looks := true }, kinds := [], alts := [], laidByText := true, laidKinds := [.handle], laidTests := true, laidLooks := .later }
def FaultOthersCardSaid : Prop := Claim7.holds Tryd.pinned (.plain (OpenSpec.ofChange faultOthersSpec)) faultOthersCard

/-- THE TIED CARD OF 'doorkeeperlaw01.FaultWraps'. -/
def faultWrapsCard : Claim7 := { stood := { row := faultWrapsRow, standIns := [], harness := (true, "cba84d9b7147c002820ecb6223e6a18d663b3f5bb881424f6d071dcff1bf9b39"), looks := true }, kinds := [], alts := [], laidByText := true, laidKinds := [.handle], laidTests := true, laidLooks := .later }
def FaultWrapsCardSaid : Prop := Claim7.holds Tryd.pinned (.plain (OpenSpec.ofChange faultWrapsSpec)) faultWrapsCard

/-- THE SECOND FORM's CARD OF 'doorkeeperlaw01.FaultFinds'. -/
def faultFindsUptoCard : Claim7 := { stood := { row := faultFindsUptoRow, standIns := [], harness := (true, "cba84d9b7147c002820ecb6223e6a18d663b3f5bb881424f6d071dcff1bf9b39"), looks := true }, kinds := [], alts := [], laidByText := true, laidKinds := [.handle], laidTests := true, laidLooks := .later }
def FaultFindsUptoCardSaid : Prop := Claim7.holds Tryd.pinned (.plain (OpenSpec.upto faultFindsSpec)) faultFindsUptoCard

/-- THE SECOND FORM's CARD OF 'doorkeeperlaw01.FaultMoves'. -/
def faultMovesUptoCard : Claim7 := { stood := { row := faultMovesUptoRow, standIns := [], harness := (true, "cba84d9b7147c002820ecb6223e6a18d663b3f5bb881424f6d071dcff1bf9b39"), looks := true }, kinds := [], alts := [], laidByText := true, laidKinds := [.data, .data, .data, .handle], laidTests := true, laidLooks := .later }
def FaultMovesUptoCardSaid : Prop := Claim7.holds Tryd.pinned (.plain (OpenSpec.upto faultMovesSpec)) faultMovesUptoCard

/-- THE SECOND FORM's CARD OF 'doorkeeperlaw01.FaultReasons'. -/
def faultReasonsUptoCard : Claim7 := { stood := { row := faultReasonsUptoRow, standIns := [], harness := (true, "cba84d9b7147c002820ecb6223e6a18d663b3f5bb881424f6d071dcff1bf9b39"), looks := true }, kinds := [], alts := [], laidByText := true, laidKinds := [.handle], laidTests := true, laidLooks := .later }
def FaultReasonsUptoCardSaid : Prop := Claim7.holds Tryd.pinned (.plain (OpenSpec.upto faultReasonsSpec)) faultReasonsUptoCard

/-- THE SECOND FORM's CARD OF 'doorkeeperlaw01.FaultOthers'. -/
def faultOthersUptoCard : Claim7 := { stood := { row := faultOthersUptoRow, standIns := [], harness := (true, "cba84d9b7147c002820ecb6223e6a18d663b3f5bb881424f6d071dcff1bf9b39"), looks := true }, kinds := [], alts := [], laidByText := true, laidKinds := [.handle], laidTests := true, laidLooks := .later }
def FaultOthersUptoCardSaid : Prop := Claim7.holds Tryd.pinned (.plain (OpenSpec.upto faultOthersSpec)) faultOthersUptoCard

/-- THE SECOND FORM's CARD OF 'doorkeeperlaw01.FaultWraps'. -/
def faultWrapsUptoCard : Claim7 := { stood := { row := faultWrapsUptoRow, standIns := [], harness := (true, "cba84d9b7147c002820ecb6223e6a18d663b3f5bb881424f6d071dcff1bf9b39"), looks := true }, kinds := [], alts := [], laidByText := true, laidKinds := [.handle], laidTests := true, laidLooks := .later }
def FaultWrapsUptoCardSaid : Prop := Claim7.holds Tryd.pinned (.plain (OpenSpec.upto faultWrapsSpec)) faultWrapsUptoCard
end Rows
end Go.Proofs.YtaocejbbmdeinaaDoor
