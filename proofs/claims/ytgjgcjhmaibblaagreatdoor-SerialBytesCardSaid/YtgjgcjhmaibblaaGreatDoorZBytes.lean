/- SerialBytes returns true for whatever is read. The variables that the row lays are as the program lays them. -/
import Derived.Test.YtgjgcjhmaibblaaGreatDoorCdSerialBytes
import Derived.Test.YtgjgcjhmaibblaaGreatDoorTz
namespace Go.Proofs.YtgjgcjhmaibblaaGreatDoor
open Go Go.Eng Go.Eng.S
theorem serialBytes_holds : Rows.SerialBytesCardSaid := serialBytes_card_of serialBytes_law
#print axioms serialBytes_holds
end Go.Proofs.YtgjgcjhmaibblaaGreatDoor
