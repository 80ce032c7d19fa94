/-
  How the types of this program read; the closed facts on it.; How walks and messages read; closed facts.
-/
import Derived.Test.YtjehedfdikdfpaaRows
import Derived.Test.YtjehedfdikdfpaaZL02
import Derived.Test.YtjehedfdikdfpaaZL05
import Derived.Test.YtjehedfdikdfpaaZL06
set_option linter.unusedVariables false
set_option linter.unusedSimpArgs false
set_option linter.unusedSectionVars false
set_option linter.unnecessarySimpa false
namespace Go.Proofs.Ytjehedfdikdfpaa
open Go.RowKit Go.ChangeShapes Go.WideShapes Go.ChangeAt

theorem own : ownKnob Try.prog.godebug = none := by kernel_rfl
theorem laidOut : laidOutB Try.prog = true := by kernel_rfl
theorem op_u8 : Opens Try.prog 5 encU8 := opens_u8 Try.underlying5 (by kernel_rfl)
theorem op_sec : Opens Try.prog 80 encSec := opens_sec Try.underlying80 (by kernel_rfl) Try.underlying5 (by kernel_rfl)
theorem op_secs : Opens Try.prog 69 (encSl encSec) := opens_slice Try.underlying69 (by kernel_rfl) op_sec (by decide)
end Go.Proofs.Ytjehedfdikdfpaa
namespace Go.Proofs.Ytjehedfdikdfpaa
open Go.RowKit Go.ChangeShapes Go.WideShapes Go.ChangeAt

theorem op_u8sM : Opens Try.prog 43 (encSl encU8) := opens_slice Try.underlying43 (by kernel_rfl) op_u8 (by decide)
end Go.Proofs.Ytjehedfdikdfpaa
