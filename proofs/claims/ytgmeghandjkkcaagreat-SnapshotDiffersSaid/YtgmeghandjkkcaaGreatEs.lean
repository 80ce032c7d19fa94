/-
  slices.Equal over sectors.
-/
import Derived.Test.YtgmeghandjkkcaaGreatCb
import Derived.BigQuiet
set_option linter.unusedVariables false
set_option linter.unusedSimpArgs false
set_option linter.unusedSectionVars false
set_option linter.unnecessarySimpa false
namespace Go.Proofs.YtgmeghandjkkcaaGreat
open Go.RowKit

end Go.Proofs.YtgmeghandjkkcaaGreat
