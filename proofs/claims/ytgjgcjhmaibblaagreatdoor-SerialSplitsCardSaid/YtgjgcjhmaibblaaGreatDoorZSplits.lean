/- SerialSplits returns true for whatever is read. The variables that the row lays are as the program lays them. -/
import Derived.Test.YtgjgcjhmaibblaaGreatDoorCdSerialSplits
import Derived.Test.YtgjgcjhmaibblaaGreatDoorTz
namespace Go.Proofs.YtgjgcjhmaibblaaGreatDoor
open Go Go.Eng Go.Eng.S
theorem serialSplits_holds : Rows.SerialSplitsCardSaid := serialSplits_card_of serialSplits_law
#print axioms serialSplits_holds
end Go.Proofs.YtgjgcjhmaibblaaGreatDoor
