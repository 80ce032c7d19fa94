/-
  How policies read.
-/
import Derived.Test.YtnkmklnlaepdeaaGreatRow
import Derived.Test.YtnkmklnlaepdeaaGreatY4
set_option linter.unusedVariables false
set_option linter.unusedSimpArgs false
set_option linter.unusedSectionVars false
set_option linter.unnecessarySimpa false
namespace Go.Proofs.YtnkmklnlaepdeaaGreat
open Go.RowKit Go.ChangeShapes Go.WideShapes Go.ChangeAt

abbrev encPol : Enc Pol := encPair encInt (encSl encExt)
theorem op_rule : Opens Tryz.prog 48 encExt := opens_struct Tryz.underlying48 (opensF_cons rfl op_int (opensF_one rfl op_int (by kernel_rfl)))
theorem op_rules : Opens Tryz.prog 22 (encSl encExt) := opens_slice Tryz.underlying22 (by kernel_rfl) op_rule (by decide)
theorem op_pol : Opens Tryz.prog 24 encPol := opens_struct Tryz.underlying24 (opensF_cons rfl op_int (opensF_one rfl op_rules (by kernel_rfl)))
set_option maxRecDepth 100000 in
theorem arg_pol {H : Type} {enc : TypeId × Value → H} {W : World} {base b0 : Nat} {spare : Nat → Bool} {held : Bool} {r : Reach} {v : Value} {d : DataW H} {p : List MemPlace} (hv : Value.okWide Tryz.prog W r b0 24 v) (h : DataW.Trod enc Tryz.prog W base spare held 24 v d p) :
    ∃ nw A c l, v = .agg #[.int .i64 nw, .slice A (l : List Rule).length c] ∧ l.length ≤ c ∧ c ≤ maxLen ∧ SlAt encExt W (Bl W.heap.size) A l ∧ I64 nw := by
  obtain ⟨cs, ⟨nw, l⟩, rfl, hr⟩ := arg_struct Tryz.underlying24 op_pol hv h
  obtain ⟨c1, c2, he, ⟨rfl, hi1, hi2⟩, ⟨A, c, rfl, h3, h4, h5⟩⟩ := hr
  refine ⟨nw, A, c, l, ?_, h3, h4, h5, hi1, hi2⟩
  congr 1
  exact Array.toList_inj.1 (by simpa using he)
end Go.Proofs.YtnkmklnlaepdeaaGreat
