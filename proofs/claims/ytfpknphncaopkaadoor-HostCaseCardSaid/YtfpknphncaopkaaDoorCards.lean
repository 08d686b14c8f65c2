/-
  DERIVED. GIVEN WITH THE SEED: THE CARDS: each row of YtfpknphncaopkaaDoorRows.lean that lists a variable, with what it lists TIED to the program's text (the seventh form; the later family's looks); each row that meets fmt, with fmt's text TOLD by the authors' own Lean function (tested against real Go, not proved from fmt's source: count such statements apart). THE CARD IS WHAT COUNTS. Prove the row's statement (the work); the ties are given (YtfpknphncaopkaaDoorTie.lean); close each card by the builder's one call (the guide's Derived/Test/ToyasCard.lean, 'card_holds'). Laid BY PROGRAM, IN A SANDBOX (cutbox-door.mjs). By AI agents, Wed Nov 11 2026. No macro, syntax, notation, axiom, sorry.
-/
import Derived.Test.YtfpknphncaopkaaDoorRows
import GoSem.ClaimSeven
namespace Go.Proofs.YtfpknphncaopkaaDoor
namespace Rows

/-- THE TIED CARD OF 'doorkeeperlaw18.HostParses'. -/
def hostParsesCard : Claim7 := { stood := { row := hostParsesRow, standIns := [], harness := (true, "06e661751ff5bff5e6d3ede9f2ff952564086d65b452475e4d7fdc5e31361f18"), looks := true }, kinds := [], alts := [], laidByText := true, laidKinds := [.handle, .funcs], laidTests := true, laidLooks := .later }
def HostParsesCardSaid : Prop := Claim7.holds Tryd.pinned (.plain (OpenSpec.ofChange hostParsesSpec)) hostParsesCard

/-- THE TIED CARD OF 'doorkeeperlaw18.HostInverse'. -/
def hostInverseCard : Claim7 := { stood := { row := hostInverseRow, standIns := [], harness := (true, "06e661751ff5bff5e6d3ede9f2ff952564086d65b452475e4d7fdc5e31361f18"), looks := true }, kinds := [], alts := [], laidByText := true, laidKinds := [.handle, .funcs], laidTests := true, laidLooks := .later }
def HostInverseCardSaid : Prop := Claim7.holds Tryd.pinned (.plain (OpenSpec.ofChange hostInverseSpec)) hostInverseCard

/-- THE TIED CARD OF 'doorkeeperlaw18.HostFinds'. -/
def hostFindsCard : Claim7 := { stood := { row := hostFindsRow, standIns := [], harness := (true, "06e661751ff5bff5e6d3ede9f2ff952564086d65b452475e4d7fdc5e31361f18"), looks := true }, kinds := [], alts := [], laidByText := true, laidKinds := [.handle, .funcs], laidTests := true, laidLooks := .later }
def HostFindsCardSaid : Prop := Claim7.holds Tryd.pinned (.plain (OpenSpec.ofChange hostFindsSpec)) hostFindsCard

/-- THE TIED CARD OF 'doorkeeperlaw18.HostCase'. -/
def hostCaseCard : Claim7 := { stood := { row := hostCaseRow, standIns := [], harness := (true, "06e661751ff5bff5e6d3ede9f2ff952564086d65b452475e4d7fdc5e31361f18"), looks := true }, kinds := [], alts := [], laidByText := true, laidKinds := [.handle, .funcs], laidTests := true, laidLooks := .later }
def HostCaseCardSaid : Prop := Claim7.holds Tryd.pinned (.plain (OpenSpec.ofChange hostCaseSpec)) hostCaseCard

/-- THE TIED CARD OF 'doorkeeperlaw18.HostChooses'. -/
def hostChoosesCard : Claim7 := { stood := { row := hostChoosesRow, standIns := [], harness := (true, "06e661751ff5bff5e6d3ede9f2ff952564086d65b452475e4d7fdc5e31361f18"), looks := true }, kinds := [], alts := [], laidByText := true, laidKinds := [.handle, .funcs], laidTests := true, laidLooks := .later }
def HostChoosesCardSaid : Prop := Claim7.holds Tryd.pinned (.plain (OpenSpec.ofChange hostChoosesSpec)) hostChoosesCard

/-- THE SECOND FORM's CARD OF 'doorkeeperlaw18.HostParses'. -/
def hostParsesUptoCard : Claim7 := { stood := { row := hostParsesUptoRow, standIns := [], harness := (true, "06e661751ff5bff5e6d3ede9f2ff952564086d65b452475e4d7fdc5e31361f18"), looks := true }, kinds := [], alts := [], laidByText := true, laidKinds := [.handle, .funcs], laidTests := true, laidLooks := .later }
def HostParsesUptoCardSaid : Prop := Claim7.holds Tryd.pinned (.plain (OpenSpec.upto hostParsesSpec)) hostParsesUptoCard

/-- THE SECOND FORM's CARD OF 'doorkeeperlaw18.HostInverse'. -/
def hostInverseUptoCard : Claim7 := { stood := { row := hostInverseUptoRow, standIns := [], harness := (true, "06e661751ff5bff5e6d3ede9f2ff952564086d65b452475e4d7fdc5e31361f18"), looks := true }, kinds := [], alts := [], laidByText := true, laidKinds := [.handle, .funcs], laidTests := true, laidLooks := .later }
def HostInverseUptoCardSaid : Prop := Claim7.holds Tryd.pinned (.plain (OpenSpec.upto hostInverseSpec)) hostInverseUptoCard

/-- THE SECOND FORM's CARD OF 'doorkeeperlaw18.HostFinds'. -/
def hostFindsUptoCard : Claim7 := { stood := { row := hostFindsUptoRow, standIns := [], harness := (true, "06e661751ff5bff5e6d3ede9f2ff952564086d65b452475e4d7fdc5e31361f18"), looks := true }, kinds := [], alts := [], laidByText := true, laidKinds := [.handle, .funcs], laidTests := true, laidLooks := .later }
def HostFindsUptoCardSaid : Prop := Claim7.holds Tryd.pinned (.plain (OpenSpec.upto hostFindsSpec)) hostFindsUptoCard

/-- THE SECOND FORM's CARD OF 'doorkeeperlaw18.HostCase'. -/
def hostCaseUptoCard : Claim7 := { stood := { row := hostCaseUptoRow, standIns := [], harness := (true, "06e661751ff5bff5e6d3ede9f2ff952564086d65b452475e4d7fdc5e31361f18"), looks := true }, kinds := [], alts := [], laidByText := true, laidKinds := [.handle, .funcs], laidTests := true, laidLooks := .later }
def HostCaseUptoCardSaid : Prop := Claim7.holds Tryd.pinned (.plain (OpenSpec.upto hostCaseSpec)) hostCaseUptoCard

/-- THE SECOND FORM's CARD OF 'doorkeeperlaw18.HostChooses'. -/
def hostChoosesUptoCard : Claim7 := { stood := { row := hostChoosesUptoRow, standIns := [], harness := (true, "06e661751ff5bff5e6d3ede9f2ff952564086d65b452475e4d7fdc5e31361f18"), looks := true }, kinds := [], alts := [], laidByText := true, laidKinds := [.handle, .funcs], laidTests := true, laidLooks := .later }
def HostChoosesUptoCardSaid : Prop := Claim7.holds Tryd.pinned (.plain (OpenSpec.upto hostChoosesSpec)) hostChoosesUptoCard
end Rows
end Go.Proofs.YtfpknphncaopkaaDoor
