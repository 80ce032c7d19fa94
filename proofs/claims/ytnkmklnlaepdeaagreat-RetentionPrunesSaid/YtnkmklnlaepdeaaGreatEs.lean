/-
  slices.Equal over sectors.
-/
import Derived.Test.YtnkmklnlaepdeaaGreatCb
import Derived.BigQuiet
set_option linter.unusedVariables false
set_option linter.unusedSimpArgs false
set_option linter.unusedSectionVars false
set_option linter.unnecessarySimpa false
namespace Go.Proofs.YtnkmklnlaepdeaaGreat
open Go.RowKit

end Go.Proofs.YtnkmklnlaepdeaaGreat
