/- SegsCleans returns true for whatever is read. The variables that the row lays are as the program lays them. -/
import Derived.Test.YtdffpjbjpfolfaaDoorCdSegsCleans
import Derived.Test.YtdffpjbjpfolfaaDoorTzc
namespace Go.Proofs.YtdffpjbjpfolfaaDoor
open Go Go.Eng Go.Eng.S
theorem segsCleans_holds : Rows.SegsCleansCardSaid := segsCleans_card_of segsCleans_law
#print axioms segsCleans_holds
end Go.Proofs.YtdffpjbjpfolfaaDoor
