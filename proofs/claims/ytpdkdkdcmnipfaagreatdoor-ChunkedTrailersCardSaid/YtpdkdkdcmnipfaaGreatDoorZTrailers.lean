/- ChunkedTrailers returns true for whatever is read. The variables that the row lays are as the program lays them. -/
import Derived.Test.YtpdkdkdcmnipfaaGreatDoorCdChunkedTrailers
import Derived.Test.YtpdkdkdcmnipfaaGreatDoorTz
namespace Go.Proofs.YtpdkdkdcmnipfaaGreatDoor
open Go Go.Eng Go.Eng.S
theorem chunkedTrailers_holds : Rows.ChunkedTrailersCardSaid := chunkedTrailers_card_of chunkedTrailers_law
#print axioms chunkedTrailers_holds
end Go.Proofs.YtpdkdkdcmnipfaaGreatDoor
