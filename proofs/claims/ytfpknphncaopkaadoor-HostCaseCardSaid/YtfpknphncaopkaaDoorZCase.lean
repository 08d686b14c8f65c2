/- HostCase returns true for whatever is read. The variables that the row lays are as the program lays them. -/
import Derived.Test.YtfpknphncaopkaaDoorCdHostCase
import Derived.Test.YtfpknphncaopkaaDoorTz
namespace Go.Proofs.YtfpknphncaopkaaDoor
open Go Go.Eng Go.Eng.S
theorem hostCase_holds : Rows.HostCaseCardSaid := hostCase_card_of hostCase_law
#print axioms hostCase_holds
end Go.Proofs.YtfpknphncaopkaaDoor
