/-
  DERIVED. GIVEN WITH THE SEED: THE CARDS: each row of YtpdkdkdcmnipfaaGreatDoorRows.lean that lists a variable, with what it lists TIED to the program's text (the seventh form; the later family's looks); each row that meets fmt, with fmt's text TOLD by the authors' own Lean function (tested against real Go, not proved from fmt's source: count such statements apart). THE CARD IS WHAT COUNTS. Prove the row's statement (the work); the ties are given (YtpdkdkdcmnipfaaGreatDoorTie.lean); close each card by the builder's one call (the guide's Derived/Test/ToyasCard.lean, 'card_holds'). Laid BY PROGRAM, IN A SANDBOX (cutbox-door.mjs). By AI agents, Wed Nov 11 2026. No macro, syntax, notation, axiom, sorry.
-/
import Derived.Test.YtpdkdkdcmnipfaaGreatDoorRows
import GoSem.ClaimSeven
namespace Go.Proofs.YtpdkdkdcmnipfaaGreatDoor
namespace Rows

/-- THE TIED CARD OF 'doorkeeperlaw14.ChunkedDecodes'. -/
def chunkedDecodesCard : Claim7 := { stood := { row := chunkedDecodesRow, standIns := [], harness := (true, "9ba4f254dd3ce4e3bbb90537a525ba3a89ec3ee9610a10436bddb7e80221eaba"), looks := true }, kinds := [], alts := [], laidByText := true, laidKinds := [.data, .data, .data, .data, .handle, .pinned], laidTests := true, laidLooks := .later }
def ChunkedDecodesCardSaid : Prop := Claim7.holds Tryz.pinned (.plain (OpenSpec.ofChange chunkedDecodesSpec)) chunkedDecodesCard

/-- THE TIED CARD OF 'doorkeeperlaw14.ChunkedSteps'. -/
def chunkedStepsCard : Claim7 := { stood := { row := chunkedStepsRow, standIns := [], harness := (true, "9ba4f254dd3ce4e3bbb90537a525ba3a89ec3ee9610a10436bddb7e80221eaba"), looks := true }, kinds := [], alts := [], laidByText := true, laidKinds := [.data, .data, .data, .data, .handle, .pinned], laidTests := true, laidLooks := .later }
def ChunkedStepsCardSaid : Prop := Claim7.holds Tryz.pinned (.plain (OpenSpec.ofChange chunkedStepsSpec)) chunkedStepsCard

/-- THE TIED CARD OF 'doorkeeperlaw14.ChunkedInverse'. -/
def chunkedInverseCard : Claim7 := { stood := { row := chunkedInverseRow, standIns := [], harness := (true, "9ba4f254dd3ce4e3bbb90537a525ba3a89ec3ee9610a10436bddb7e80221eaba"), looks := true }, kinds := [], alts := [], laidByText := true, laidKinds := [.data, .data, .data, .data, .handle, .pinned], laidTests := true, laidLooks := .later }
def ChunkedInverseCardSaid : Prop := Claim7.holds Tryz.pinned (.plain (OpenSpec.ofChange chunkedInverseSpec)) chunkedInverseCard

/-- THE TIED CARD OF 'doorkeeperlaw14.ChunkedLimits'. -/
def chunkedLimitsCard : Claim7 := { stood := { row := chunkedLimitsRow, standIns := [], harness := (true, "9ba4f254dd3ce4e3bbb90537a525ba3a89ec3ee9610a10436bddb7e80221eaba"), looks := true }, kinds := [], alts := [], laidByText := true, laidKinds := [.data, .data, .data, .data, .handle, .pinned], laidTests := true, laidLooks := .later }
def ChunkedLimitsCardSaid : Prop := Claim7.holds Tryz.pinned (.plain (OpenSpec.ofChange chunkedLimitsSpec)) chunkedLimitsCard

/-- THE TIED CARD OF 'doorkeeperlaw14.ChunkedTrailers'. -/
def chunkedTrailersCard : Claim7 := { stood := { row := chunkedTrailersRow, standIns := [], harness := (true, "9ba4f254dd3ce4e3bbb90537a525ba3a89ec3ee9610a10436bddb7e80221eaba"), looks := true }, kinds := [], alts := [], laidByText := true, laidKinds := [.data, .data, .data, .data, .handle, .pinned], laidTests := true, laidLooks := .later }
def ChunkedTrailersCardSaid : Prop := Claim7.holds Tryz.pinned (.plain (OpenSpec.ofChange chunkedTrailersSpec)) chunkedTrailersCard

/-- THE SECOND FORM's CARD OF 'doorkeeperlaw14.ChunkedDecodes'. -/
def chunkedDecodesUptoCard : Claim7 := { stood := { row := chunkedDecodesUptoRow, standIns := [], harness := (true, "9ba4f254dd3ce4e3bbb90537a525ba3a89ec3ee9610a10436bddb7e80221eaba"), looks := true }, kinds := [], alts := [], laidByText := true, laidKinds := [.data, .data, .data, .data, .handle, .pinned], laidTests := true, laidLooks := .later }
def ChunkedDecodesUptoCardSaid : Prop := Claim7.holds Tryz.pinned (.plain (OpenSpec.upto chunkedDecodesSpec)) chunkedDecodesUptoCard

/-- THE SECOND FORM's CARD OF 'doorkeeperlaw14.ChunkedSteps'. -/
def chunkedStepsUptoCard : Claim7 := { stood := { row := chunkedStepsUptoRow, standIns := [], harness := (true, "9ba4f254dd3ce4e3bbb90537a525ba3a89ec3ee9610a10436bddb7e80221eaba"), looks := true }, kinds := [], alts := [], laidByText := true, laidKinds := [.data, .data, .data, .data, .handle, .pinned], laidTests := true, laidLooks := .later }
def ChunkedStepsUptoCardSaid : Prop := Claim7.holds Tryz.pinned (.plain (OpenSpec.upto chunkedStepsSpec)) chunkedStepsUptoCard

/-- THE SECOND FORM's CARD OF 'doorkeeperlaw14.ChunkedInverse'. -/
def chunkedInverseUptoCard : Claim7 := { stood := { row := chunkedInverseUptoRow, standIns := [], harness := (true, "9ba4f254dd3ce4e3bbb90537a525ba3a89ec3ee9610a10436bddb7e80221eaba"), looks := true }, kinds := [], alts := [], laidByText := true, laidKinds := [.data, .data, .data, .data, .handle, .pinned], laidTests := true, laidLooks := .later }
def ChunkedInverseUptoCardSaid : Prop := Claim7.holds Tryz.pinned (.plain (OpenSpec.upto chunkedInverseSpec)) chunkedInverseUptoCard

/-- THE SECOND FORM's CARD OF 'doorkeeperlaw14.ChunkedLimits'. -/
def chunkedLimitsUptoCard : Claim7 := { stood := { row := chunkedLimitsUptoRow, standIns := [], harness := (true, "9ba4f254dd3ce4e3bbb90537a525ba3a89ec3ee9610a10436bddb7e80221eaba"), looks := true }, kinds := [], alts := [], laidByText := true, laidKinds := [.data, .data, .data, .data, .handle, .pinned], laidTests := true, laidLooks := .later }
def ChunkedLimitsUptoCardSaid : Prop := Claim7.holds Tryz.pinned (.plain (OpenSpec.upto chunkedLimitsSpec)) chunkedLimitsUptoCard

/-- THE SECOND FORM's CARD OF 'doorkeeperlaw14.ChunkedTrailers'. -/
def chunkedTrailersUptoCard : Claim7 := { stood := { row := chunkedTrailersUptoRow, standIns := [], harness := (true, "9ba4f254dd3ce4e3bbb90537a525ba3a89ec3ee9610a10436bddb7e80221eaba"), looks := true }, kinds := [], alts := [], laidByText := true, laidKinds := [.data, .data, .data, .data, .handle, .pinned], laidTests := true, laidLooks := .later }
def ChunkedTrailersUptoCardSaid : Prop := Claim7.holds Tryz.pinned (.plain (OpenSpec.upto chunkedTrailersSpec)) chunkedTrailersUptoCard
end Rows
end Go.Proofs.YtpdkdkdcmnipfaaGreatDoor
