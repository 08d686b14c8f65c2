/- FaultMoves returns true for whatever is read. The variables that the row lays are as the program lays them. -/
import Derived.Test.YtaocejbbmdeinaaDoorCdFaultMoves
import Derived.Test.YtaocejbbmdeinaaDoorTz
namespace Go.Proofs.YtaocejbbmdeinaaDoor
open Go Go.Eng Go.Eng.S
theorem faultMoves_holds : Rows.FaultMovesCardSaid := faultMoves_card_of faultMoves_law
#print axioms faultMoves_holds
end Go.Proofs.YtaocejbbmdeinaaDoor
