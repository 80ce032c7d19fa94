/-
  slices.Equal over sectors.
-/
import Derived.Test.YtgmeghandjkkcaaCb
import Derived.BigQuiet
set_option linter.unusedVariables false
set_option linter.unusedSimpArgs false
set_option linter.unusedSectionVars false
set_option linter.unnecessarySimpa false
namespace Go.Proofs.Ytgmeghandjkkcaa
open Go.RowKit

end Go.Proofs.Ytgmeghandjkkcaa
