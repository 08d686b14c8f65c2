/- SegsParses returns true for whatever is read. The variables that the row lays are as the program lays them. -/
import Derived.Test.YtdffpjbjpfolfaaGreatDoorCdSegsParses
import Derived.Test.YtdffpjbjpfolfaaGreatDoorTzp
namespace Go.Proofs.YtdffpjbjpfolfaaGreatDoor
open Go Go.Eng Go.Eng.S
theorem segsParses_holds : Rows.SegsParsesCardSaid := segsParses_card_of segsParses_law
#print axioms segsParses_holds
end Go.Proofs.YtdffpjbjpfolfaaGreatDoor
