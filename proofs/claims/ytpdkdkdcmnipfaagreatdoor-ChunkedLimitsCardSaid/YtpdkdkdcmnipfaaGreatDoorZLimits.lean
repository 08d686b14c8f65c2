/- ChunkedLimits returns true for whatever is read. The variables that the row lays are as the program lays them. -/
import Derived.Test.YtpdkdkdcmnipfaaGreatDoorCdChunkedLimits
import Derived.Test.YtpdkdkdcmnipfaaGreatDoorTz
namespace Go.Proofs.YtpdkdkdcmnipfaaGreatDoor
open Go Go.Eng Go.Eng.S
theorem chunkedLimits_holds : Rows.ChunkedLimitsCardSaid := chunkedLimits_card_of chunkedLimits_law
#print axioms chunkedLimits_holds
end Go.Proofs.YtpdkdkdcmnipfaaGreatDoor
