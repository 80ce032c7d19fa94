/-
  How the types of this program read; the closed facts on it.
-/
import Derived.Test.YtgmeghandjkkcaaGreatOpen
import Derived.Test.YtgmeghandjkkcaaGreatRows
set_option linter.unusedVariables false
set_option linter.unusedSimpArgs false
set_option linter.unusedSectionVars false
set_option linter.unnecessarySimpa false
namespace Go.Proofs.YtgmeghandjkkcaaGreat
open Go.RowKit Go.ChangeShapes Go.WideShapes Go.ChangeAt

theorem own : ownKnob Tryz.prog.godebug = none := by kernel_rfl
theorem laidOut : laidOutB Tryz.prog = true := by kernel_rfl
theorem op_int : Opens Tryz.prog 3 encInt := opens_int Tryz.underlying3 (by kernel_rfl)
theorem op_ints : Opens Tryz.prog 62 (encSl encInt) := opens_slice Tryz.underlying62 (by kernel_rfl) op_int (by decide)
theorem op_ext : Opens Tryz.prog 104 encExt := opens_struct Tryz.underlying104 (opensF_cons rfl op_int (opensF_one rfl op_int (by kernel_rfl)))
theorem op_exts : Opens Tryz.prog 68 (encSl encExt) := opens_slice Tryz.underlying68 (by kernel_rfl) op_ext (by decide)
theorem op_u8 : Opens Tryz.prog 5 encU8 := opens_u8 Tryz.underlying5 (by kernel_rfl)
theorem op_sec : Opens Tryz.prog 65 encSec := opens_sec Tryz.underlying65 (by kernel_rfl) Tryz.underlying5 (by kernel_rfl)
theorem op_secs : Opens Tryz.prog 66 (encSl encSec) := opens_slice Tryz.underlying66 (by kernel_rfl) op_sec (by decide)
theorem op_wr : Opens Tryz.prog 70 encWr := opens_struct Tryz.underlying70 (opensF_cons rfl op_int (opensF_cons rfl op_int (opensF_one rfl op_secs (by kernel_rfl))))
theorem op_wrs : Opens Tryz.prog 27 (encSl encWr) := opens_slice Tryz.underlying27 (by kernel_rfl) op_wr (by decide)
theorem op_img : Opens Tryz.prog 23 (encSl (encSl encSec)) := opens_slice Tryz.underlying23 (by kernel_rfl) op_secs (by decide)
end Go.Proofs.YtgmeghandjkkcaaGreat
