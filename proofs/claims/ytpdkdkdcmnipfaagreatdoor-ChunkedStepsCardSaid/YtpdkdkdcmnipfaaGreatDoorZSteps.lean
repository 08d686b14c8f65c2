/- ChunkedSteps returns true for whatever is read. The variables that the row lays are as the program lays them. -/
import Derived.Test.YtpdkdkdcmnipfaaGreatDoorCdChunkedSteps
import Derived.Test.YtpdkdkdcmnipfaaGreatDoorTz
namespace Go.Proofs.YtpdkdkdcmnipfaaGreatDoor
open Go Go.Eng Go.Eng.S
theorem chunkedSteps_holds : Rows.ChunkedStepsCardSaid := chunkedSteps_card_of chunkedSteps_law
#print axioms chunkedSteps_holds
end Go.Proofs.YtpdkdkdcmnipfaaGreatDoor
