/-
  How the types of this program read; the closed facts on it.
-/
import Derived.Test.YthneomehfmjbkaaOpen
import Derived.Test.YthneomehfmjbkaaRows
set_option linter.unusedVariables false
set_option linter.unusedSimpArgs false
set_option linter.unusedSectionVars false
set_option linter.unnecessarySimpa false
namespace Go.Proofs.Ythneomehfmjbkaa
open Go.RowKit Go.ChangeShapes Go.WideShapes Go.ChangeAt

theorem own : ownKnob Try.prog.godebug = none := by kernel_rfl
theorem laidOut : laidOutB Try.prog = true := by kernel_rfl
theorem op_int : Opens Try.prog 3 encInt := opens_int Try.underlying3 (by kernel_rfl)
theorem op_ints : Opens Try.prog 86 (encSl encInt) := opens_slice Try.underlying86 (by kernel_rfl) op_int (by decide)
theorem op_ext : Opens Try.prog 35 encExt := opens_struct Try.underlying35 (opensF_cons rfl op_int (opensF_one rfl op_int (by kernel_rfl)))
theorem op_exts : Opens Try.prog 40 (encSl encExt) := opens_slice Try.underlying40 (by kernel_rfl) op_ext (by decide)
theorem op_u8 : Opens Try.prog 5 encU8 := opens_u8 Try.underlying5 (by kernel_rfl)
theorem op_sec : Opens Try.prog 50 encSec := opens_sec Try.underlying50 (by kernel_rfl) Try.underlying5 (by kernel_rfl)
theorem op_secs : Opens Try.prog 22 (encSl encSec) := opens_slice Try.underlying22 (by kernel_rfl) op_sec (by decide)
theorem op_wr : Opens Try.prog 47 encWr := opens_struct Try.underlying47 (opensF_cons rfl op_int (opensF_cons rfl op_int (opensF_one rfl op_secs (by kernel_rfl))))
end Go.Proofs.Ythneomehfmjbkaa
