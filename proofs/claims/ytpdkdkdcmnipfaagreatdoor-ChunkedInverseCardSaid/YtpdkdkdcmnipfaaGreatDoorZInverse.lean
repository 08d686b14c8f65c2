/- ChunkedInverse returns true for whatever is read. The variables that the row lays are as the program lays them. -/
import Derived.Test.YtpdkdkdcmnipfaaGreatDoorCdChunkedInverse
import Derived.Test.YtpdkdkdcmnipfaaGreatDoorTz
namespace Go.Proofs.YtpdkdkdcmnipfaaGreatDoor
open Go Go.Eng Go.Eng.S
theorem chunkedInverse_holds : Rows.ChunkedInverseCardSaid := chunkedInverse_card_of chunkedInverse_law
#print axioms chunkedInverse_holds
end Go.Proofs.YtpdkdkdcmnipfaaGreatDoor
