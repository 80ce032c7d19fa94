/-
  A row's steps as a reading.
-/
import Derived.Test.YtgmeghandjkkcaaRowS
import Derived.Test.YtgmeghandjkkcaaDb
set_option linter.unusedVariables false
set_option linter.unusedSimpArgs false
set_option linter.unusedSectionVars false
set_option linter.unnecessarySimpa false
namespace Go.Proofs.Ytgmeghandjkkcaa
open Go.ChangeShapes Go.WideShapes Go.ChangeAt Go.RowKit

theorem op_stp : Opens Try.prog 50 encStp := opens_struct Try.underlying50 (opensF_cons rfl op_u8 (opensF_cons rfl op_u8 (opensF_cons rfl op_u8 (opensF_cons rfl op_u8 (opensF_one rfl op_u8 (by kernel_rfl))))))
theorem op_stps : Opens Try.prog 37 (encSl encStp) := opens_slice Try.underlying37 (by kernel_rfl) op_stp (by decide)
end Go.Proofs.Ytgmeghandjkkcaa
