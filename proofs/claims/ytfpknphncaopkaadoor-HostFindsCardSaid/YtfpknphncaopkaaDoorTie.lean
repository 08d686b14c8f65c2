/-
  DERIVED. GIVEN WITH THE SEED: THE PROGRAM's TIES (one call each: nine closed facts by the kernel) AND EACH ROW's TIE, after the 31st guide's Derived/Test/Toyas{Tie, Card}.lean. No idea stands in it: it is a product of the set-up. Laid BY PROGRAM, IN A SANDBOX (cutbox-door.mjs). By AI agents, Wed Nov 11 2026. No macro, syntax, notation, axiom, sorry.
-/
import Derived.Test.YtfpknphncaopkaaDoorRows
import Derived.LaidByTextLater
import Derived.SevenTiedAt
import Derived.LaidSub
import Derived.LaidOnce
namespace Go.Proofs.YtfpknphncaopkaaDoor
open Go
set_option maxRecDepth 100000
theorem seatTie1 : Tryd.prog.laidByTextLater [("errors.errorType", Rows.laid_errors_errorType), ("doorkeeper/host.classes", Rows.laid_doorkeeper_host_classes)] [.handle, .funcs] true :=
  Program.laidByTextLater_by_one 38 8 65 (by kernel_rfl) (by kernel_rfl) (by kernel_rfl) (by kernel_rfl) (by kernel_rfl) (by kernel_rfl) (fun _ _ => by kernel_rfl)
theorem noOwnUnsafe : Tryd.pinned.checked.prog.headLifts.contains "ownunsafe" = false := by kernel_rfl
theorem tie : Tryd.prog.laidByTextLater [("errors.errorType", Rows.laid_errors_errorType), ("doorkeeper/host.classes", Rows.laid_doorkeeper_host_classes)] [.handle, .funcs] true :=
  Program.laidByTextLater.sub seatTie1 ["errors.errorType", "doorkeeper/host.classes"] (by kernel_rfl) (by kernel_rfl)
theorem hostParses_row_tie : Rows.hostParsesRow.laidByTextAt .later Tryd.pinned [.handle, .funcs] true :=
  OpenClaim.laidByTextAt_later rfl rfl tie noOwnUnsafe
theorem hostInverse_row_tie : Rows.hostInverseRow.laidByTextAt .later Tryd.pinned [.handle, .funcs] true :=
  OpenClaim.laidByTextAt_later rfl rfl tie noOwnUnsafe
theorem hostFinds_row_tie : Rows.hostFindsRow.laidByTextAt .later Tryd.pinned [.handle, .funcs] true :=
  OpenClaim.laidByTextAt_later rfl rfl tie noOwnUnsafe
theorem hostCase_row_tie : Rows.hostCaseRow.laidByTextAt .later Tryd.pinned [.handle, .funcs] true :=
  OpenClaim.laidByTextAt_later rfl rfl tie noOwnUnsafe
theorem hostChooses_row_tie : Rows.hostChoosesRow.laidByTextAt .later Tryd.pinned [.handle, .funcs] true :=
  OpenClaim.laidByTextAt_later rfl rfl tie noOwnUnsafe
theorem hostParsesUpto_row_tie : Rows.hostParsesUptoRow.laidByTextAt .later Tryd.pinned [.handle, .funcs] true :=
  OpenClaim.laidByTextAt_later rfl rfl tie noOwnUnsafe
theorem hostInverseUpto_row_tie : Rows.hostInverseUptoRow.laidByTextAt .later Tryd.pinned [.handle, .funcs] true :=
  OpenClaim.laidByTextAt_later rfl rfl tie noOwnUnsafe
theorem hostFindsUpto_row_tie : Rows.hostFindsUptoRow.laidByTextAt .later Tryd.pinned [.handle, .funcs] true :=
  OpenClaim.laidByTextAt_later rfl rfl tie noOwnUnsafe
theorem hostCaseUpto_row_tie : Rows.hostCaseUptoRow.laidByTextAt .later Tryd.pinned [.handle, .funcs] true :=
  OpenClaim.laidByTextAt_later rfl rfl tie noOwnUnsafe
theorem hostChoosesUpto_row_tie : Rows.hostChoosesUptoRow.laidByTextAt .later Tryd.pinned [.handle, .funcs] true :=
  OpenClaim.laidByTextAt_later rfl rfl tie noOwnUnsafe
end Go.Proofs.YtfpknphncaopkaaDoor
