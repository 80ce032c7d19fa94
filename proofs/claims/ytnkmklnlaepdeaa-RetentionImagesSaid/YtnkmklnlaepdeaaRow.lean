/-
  How the types of this program read; the closed facts on it.
-/
import Derived.Test.YtnkmklnlaepdeaaOpen
import Derived.Test.YtnkmklnlaepdeaaRows
set_option linter.unusedVariables false
set_option linter.unusedSimpArgs false
set_option linter.unusedSectionVars false
set_option linter.unnecessarySimpa false
namespace Go.Proofs.Ytnkmklnlaepdeaa
open Go.RowKit Go.ChangeShapes Go.WideShapes Go.ChangeAt

theorem own : ownKnob Try.prog.godebug = none := by kernel_rfl
theorem laidOut : laidOutB Try.prog = true := by kernel_rfl
theorem op_int : Opens Try.prog 3 encInt := opens_int Try.underlying3 (by kernel_rfl)
theorem op_ints : Opens Try.prog 30 (encSl encInt) := opens_slice Try.underlying30 (by kernel_rfl) op_int (by decide)
theorem op_u8 : Opens Try.prog 5 encU8 := opens_u8 Try.underlying5 (by kernel_rfl)
theorem op_sec : Opens Try.prog 72 encSec := opens_sec Try.underlying72 (by kernel_rfl) Try.underlying5 (by kernel_rfl)
theorem op_secs : Opens Try.prog 73 (encSl encSec) := opens_slice Try.underlying73 (by kernel_rfl) op_sec (by decide)
theorem op_wr : Opens Try.prog 102 encWr := opens_struct Try.underlying102 (opensF_cons rfl op_int (opensF_cons rfl op_int (opensF_one rfl op_secs (by kernel_rfl))))
theorem op_wrs : Opens Try.prog 61 (encSl encWr) := opens_slice Try.underlying61 (by kernel_rfl) op_wr (by decide)
theorem op_img : Opens Try.prog 51 (encSl (encSl encSec)) := opens_slice Try.underlying51 (by kernel_rfl) op_secs (by decide)
end Go.Proofs.Ytnkmklnlaepdeaa
