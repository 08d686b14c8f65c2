/- SegsInverse returns true for whatever is read. The variables that the row lays are as the program lays them. -/
import Derived.Test.YtdffpjbjpfolfaaGreatDoorCdSegsInverse
import Derived.Test.YtdffpjbjpfolfaaGreatDoorTzi
namespace Go.Proofs.YtdffpjbjpfolfaaGreatDoor
open Go Go.Eng Go.Eng.S
theorem segsInverse_holds : Rows.SegsInverseCardSaid := segsInverse_card_of segsInverse_law
#print axioms segsInverse_holds
end Go.Proofs.YtdffpjbjpfolfaaGreatDoor
