/- SegsConfines returns true for whatever is read. The variables that the row lays are as the program lays them. -/
import Derived.Test.YtdffpjbjpfolfaaDoorCdSegsConfines
import Derived.Test.YtdffpjbjpfolfaaDoorTzf
namespace Go.Proofs.YtdffpjbjpfolfaaDoor
open Go Go.Eng Go.Eng.S
theorem segsConfines_holds : Rows.SegsConfinesCardSaid := segsConfines_card_of segsConfines_law
#print axioms segsConfines_holds
end Go.Proofs.YtdffpjbjpfolfaaDoor
