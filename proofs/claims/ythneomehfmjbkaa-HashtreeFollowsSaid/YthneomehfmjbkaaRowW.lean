/-
  How a write reads.
-/
import Derived.Test.YthneomehfmjbkaaRowT
set_option linter.unusedVariables false
set_option linter.unusedSimpArgs false
set_option linter.unusedSectionVars false
set_option linter.unnecessarySimpa false
namespace Go.Proofs.Ythneomehfmjbkaa
open Go.RowKit Go.ChangeShapes Go.WideShapes Go.ChangeAt
set_option maxRecDepth 100000 in
theorem arg_wr {H : Type} {enc : TypeId × Value → H} {W : World} {base b0 : Nat} {spare : Nat → Bool} {held : Bool} {r : Reach} {v : Value} {d : DataW H} {p : List MemPlace} (hv : Value.okWide Try.prog W r b0 47 v) (h : DataW.Trod enc Try.prog W base spare held 47 v d p) :
    ∃ vol st A c data, v = .agg #[.int .i64 vol, .int .i64 st, .slice A (data : List Sec).length c] ∧ I64 vol ∧ I64 st ∧ data.length ≤ c ∧ c ≤ maxLen ∧ SlAt encSec W (Bl W.heap.size) A data := by
  obtain ⟨cs, x, rfl, hr⟩ := arg_struct Try.underlying47 op_wr hv h
  obtain ⟨D, c, he, h1, h2, h3, h4, h5⟩ := wr_cs hr
  refine ⟨x.1, x.2.1, D, c, x.2.2, ?_, h1, h2, h3, h4, h5⟩
  congr 1
  exact Array.toList_inj.1 (by simpa using he)
end Go.Proofs.Ythneomehfmjbkaa
