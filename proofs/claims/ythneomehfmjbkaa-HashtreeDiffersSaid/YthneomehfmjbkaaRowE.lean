/-
  How an extent reads.
-/
import Derived.Test.YthneomehfmjbkaaRowT
set_option linter.unusedVariables false
set_option linter.unusedSimpArgs false
set_option linter.unusedSectionVars false
set_option linter.unnecessarySimpa false
namespace Go.Proofs.Ythneomehfmjbkaa
open Go.RowKit Go.ChangeShapes Go.WideShapes Go.ChangeAt
set_option maxRecDepth 100000 in
theorem arg_ext {H : Type} {enc : TypeId × Value → H} {W : World} {base b0 : Nat} {spare : Nat → Bool} {held : Bool} {r : Reach} {v : Value} {d : DataW H} {p : List MemPlace} (hv : Value.okWide Try.prog W r b0 35 v) (h : DataW.Trod enc Try.prog W base spare held 35 v d p) :
    ∃ a b, v = .agg #[.int .i64 a, .int .i64 b] ∧ I64 a ∧ I64 b := by
  obtain ⟨cs, x, rfl, hr⟩ := arg_struct Try.underlying35 op_ext hv h
  obtain ⟨he, h1, h2⟩ := ext_cs hr
  refine ⟨x.1, x.2, ?_, h1, h2⟩
  congr 1
  exact Array.toList_inj.1 (by simpa using he)
end Go.Proofs.Ythneomehfmjbkaa
