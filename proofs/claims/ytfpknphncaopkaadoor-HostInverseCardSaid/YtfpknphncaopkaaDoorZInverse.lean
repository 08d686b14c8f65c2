/- HostInverse returns true for whatever is read. The variables that the row lays are as the program lays them. -/
import Derived.Test.YtfpknphncaopkaaDoorCdHostInverse
import Derived.Test.YtfpknphncaopkaaDoorTz
namespace Go.Proofs.YtfpknphncaopkaaDoor
open Go Go.Eng Go.Eng.S
theorem hostInverse_holds : Rows.HostInverseCardSaid := hostInverse_card_of hostInverse_law
#print axioms hostInverse_holds
end Go.Proofs.YtfpknphncaopkaaDoor
