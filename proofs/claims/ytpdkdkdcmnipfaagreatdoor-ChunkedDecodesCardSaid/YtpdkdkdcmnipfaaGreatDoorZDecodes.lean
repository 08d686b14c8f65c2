/- ChunkedDecodes returns true for whatever is read. The variables that the row lays are as the program lays them. -/
import Derived.Test.YtpdkdkdcmnipfaaGreatDoorCdChunkedDecodes
import Derived.Test.YtpdkdkdcmnipfaaGreatDoorTz
namespace Go.Proofs.YtpdkdkdcmnipfaaGreatDoor
open Go Go.Eng Go.Eng.S
theorem chunkedDecodes_holds : Rows.ChunkedDecodesCardSaid := chunkedDecodes_card_of chunkedDecodes_law
#print axioms chunkedDecodes_holds
end Go.Proofs.YtpdkdkdcmnipfaaGreatDoor
