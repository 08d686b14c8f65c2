/- HostFinds returns true for whatever is read. The variables that the row lays are as the program lays them. -/
import Derived.Test.YtfpknphncaopkaaDoorCdHostFinds
import Derived.Test.YtfpknphncaopkaaDoorTz
namespace Go.Proofs.YtfpknphncaopkaaDoor
open Go Go.Eng Go.Eng.S
theorem hostFinds_holds : Rows.HostFindsCardSaid := hostFinds_card_of hostFinds_law
#print axioms hostFinds_holds
end Go.Proofs.YtfpknphncaopkaaDoor
