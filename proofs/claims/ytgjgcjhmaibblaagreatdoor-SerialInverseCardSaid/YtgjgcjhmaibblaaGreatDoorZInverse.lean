/- SerialInverse returns true for whatever is read. The variables that the row lays are as the program lays them. -/
import Derived.Test.YtgjgcjhmaibblaaGreatDoorCdSerialInverse
import Derived.Test.YtgjgcjhmaibblaaGreatDoorTz
namespace Go.Proofs.YtgjgcjhmaibblaaGreatDoor
open Go Go.Eng Go.Eng.S
theorem serialInverse_holds : Rows.SerialInverseCardSaid := serialInverse_card_of serialInverse_law
#print axioms serialInverse_holds
end Go.Proofs.YtgjgcjhmaibblaaGreatDoor
