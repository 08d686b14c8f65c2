/- SerialCuts returns true for whatever is read. The variables that the row lays are as the program lays them. -/
import Derived.Test.YtgjgcjhmaibblaaGreatDoorCdSerialCuts
import Derived.Test.YtgjgcjhmaibblaaGreatDoorTz
namespace Go.Proofs.YtgjgcjhmaibblaaGreatDoor
open Go Go.Eng Go.Eng.S
theorem serialCuts_holds : Rows.SerialCutsCardSaid := serialCuts_card_of serialCuts_law
#print axioms serialCuts_holds
end Go.Proofs.YtgjgcjhmaibblaaGreatDoor
