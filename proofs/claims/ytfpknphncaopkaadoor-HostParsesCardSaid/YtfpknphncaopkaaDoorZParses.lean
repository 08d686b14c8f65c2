/- Every string has the host of the reference implementation, or its error: HostParses returns true. The variables that the row lays are as the program lays them. -/
import Derived.Test.YtfpknphncaopkaaDoorTe
import Derived.Test.YtfpknphncaopkaaDoorHf
namespace Go.Proofs.YtfpknphncaopkaaDoor
open Go Go.Eng Go.Eng.S
theorem hostParses_holds : Rows.HostParsesCardSaid := hostParses_card_of hostParses
#print axioms hostParses_holds
end Go.Proofs.YtfpknphncaopkaaDoor
