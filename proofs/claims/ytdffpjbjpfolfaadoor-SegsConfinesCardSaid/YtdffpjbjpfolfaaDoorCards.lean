/-
  DERIVED. GIVEN WITH THE SEED: THE CARDS: each row of YtdffpjbjpfolfaaDoorRows.lean that lists a variable, with what it lists TIED to the program's text (the seventh form; the later family's looks); each row that meets fmt, with fmt's text TOLD by the authors' own Lean function (tested against real Go, not proved from fmt's source: count such statements apart). THE CARD IS WHAT COUNTS. Prove the row's statement (the work); the ties are given (YtdffpjbjpfolfaaDoorTie.lean); close each card by the builder's one call (the guide's Derived/Test/ToyasCard.lean, 'card_holds'). Laid BY PROGRAM, IN A SANDBOX (cutbox-door.mjs). By AI agents, Wed Nov 11 2026. No macro, syntax, notation, axiom, sorry.
-/
import Derived.Test.YtdffpjbjpfolfaaDoorRows
import GoSem.ClaimSeven
namespace Go.Proofs.YtdffpjbjpfolfaaDoor
namespace Rows

/-- THE TIED CARD OF 'doorkeeperlaw16.SegsConfines'. -/
def segsConfinesCard : Claim7 := { stood := { row := segsConfinesRow, standIns := [], harness := (true, "23a6ad74718b9ea1e3bf130f0e21d66562b42806430d91a970c2db4443c69086"), looks := true }, kinds := [], alts := [], laidByText := true, laidKinds := [.data, .handle, .pinned], laidTests := true, laidLooks := .later }
def SegsConfinesCardSaid : Prop := Claim7.holds Tryd.pinned (.plain (OpenSpec.ofChange segsConfinesSpec)) segsConfinesCard

/-- THE TIED CARD OF 'doorkeeperlaw16.SegsCleans'. -/
def segsCleansCard : Claim7 := { stood := { row := segsCleansRow, standIns := [], harness := (true, "23a6ad74718b9ea1e3bf130f0e21d66562b42806430d91a970c2db4443c69086"), looks := true }, kinds := [], alts := [], laidByText := true, laidKinds := [.data, .handle, .pinned], laidTests := true, laidLooks := .later }
def SegsCleansCardSaid : Prop := Claim7.holds Tryd.pinned (.plain (OpenSpec.ofChange segsCleansSpec)) segsCleansCard

/-- THE SECOND FORM's CARD OF 'doorkeeperlaw16.SegsConfines'. -/
def segsConfinesUptoCard : Claim7 := { stood := { row := segsConfinesUptoRow, standIns := [], harness := (true, "23a6ad74718b9ea1e3bf130f0e21d66562b42806430d91a970c2db4443c69086"), looks := true }, kinds := [], alts := [], laidByText := true, laidKinds := [.data, .handle, .pinned], laidTests := true, laidLooks := .later }
def SegsConfinesUptoCardSaid : Prop := Claim7.holds Tryd.pinned (.plain (OpenSpec.upto segsConfinesSpec)) segsConfinesUptoCard

/-- THE SECOND FORM's CARD OF 'doorkeeperlaw16.SegsCleans'. -/
def segsCleansUptoCard : Claim7 := { stood := { row := segsCleansUptoRow, standIns := [], harness := (true, "23a6ad74718b9ea1e3bf130f0e21d66562b42806430d91a970c2db4443c69086"), looks := true }, kinds := [], alts := [], laidByText := true, laidKinds := [.data, .handle, .pinned], laidTests := true, laidLooks := .later }
def SegsCleansUptoCardSaid : Prop := Claim7.holds Tryd.pinned (.plain (OpenSpec.upto segsCleansSpec)) segsCleansUptoCard
end Rows
end Go.Proofs.YtdffpjbjpfolfaaDoor
