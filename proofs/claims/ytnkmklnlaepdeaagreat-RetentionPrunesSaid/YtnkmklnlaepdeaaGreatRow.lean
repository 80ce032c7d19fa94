/-
  How the types of this program read; the closed facts on it.
-/
import Derived.Test.YtnkmklnlaepdeaaGreatOpen
import Derived.Test.YtnkmklnlaepdeaaGreatRows
set_option linter.unusedVariables false
set_option linter.unusedSimpArgs false
set_option linter.unusedSectionVars false
set_option linter.unnecessarySimpa false
namespace Go.Proofs.YtnkmklnlaepdeaaGreat
open Go.RowKit Go.ChangeShapes Go.WideShapes Go.ChangeAt

theorem own : ownKnob Tryz.prog.godebug = none := by kernel_rfl
theorem laidOut : laidOutB Tryz.prog = true := by kernel_rfl
theorem op_int : Opens Tryz.prog 3 encInt := opens_int Tryz.underlying3 (by kernel_rfl)
theorem op_ints : Opens Tryz.prog 30 (encSl encInt) := opens_slice Tryz.underlying30 (by kernel_rfl) op_int (by decide)
theorem op_ext : Opens Tryz.prog 144 encExt := opens_struct Tryz.underlying144 (opensF_cons rfl op_int (opensF_one rfl op_int (by kernel_rfl)))
theorem op_exts : Opens Tryz.prog 134 (encSl encExt) := opens_slice Tryz.underlying134 (by kernel_rfl) op_ext (by decide)
theorem op_u8 : Opens Tryz.prog 5 encU8 := opens_u8 Tryz.underlying5 (by kernel_rfl)
theorem op_sec : Opens Tryz.prog 54 encSec := opens_sec Tryz.underlying54 (by kernel_rfl) Tryz.underlying5 (by kernel_rfl)
theorem op_secs : Opens Tryz.prog 55 (encSl encSec) := opens_slice Tryz.underlying55 (by kernel_rfl) op_sec (by decide)
theorem op_wr : Opens Tryz.prog 74 encWr := opens_struct Tryz.underlying74 (opensF_cons rfl op_int (opensF_cons rfl op_int (opensF_one rfl op_secs (by kernel_rfl))))
theorem op_wrs : Opens Tryz.prog 43 (encSl encWr) := opens_slice Tryz.underlying43 (by kernel_rfl) op_wr (by decide)
theorem op_img : Opens Tryz.prog 26 (encSl (encSl encSec)) := opens_slice Tryz.underlying26 (by kernel_rfl) op_secs (by decide)
end Go.Proofs.YtnkmklnlaepdeaaGreat
