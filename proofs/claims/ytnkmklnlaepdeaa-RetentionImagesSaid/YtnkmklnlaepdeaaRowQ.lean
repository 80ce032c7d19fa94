/-
  How snapshots read; closed facts.
-/
import Derived.Test.YtnkmklnlaepdeaaRow
import Derived.Test.YtnkmklnlaepdeaaSn1
set_option linter.unusedVariables false
set_option linter.unusedSimpArgs false
set_option linter.unusedSectionVars false
set_option linter.unnecessarySimpa false
namespace Go.Proofs.Ytnkmklnlaepdeaa
open Go.RowKit Go.ChangeShapes Go.WideShapes Go.ChangeAt

abbrev encSns : Enc Sns := encPair (encSl (encSl encSec)) (encSl encSnp)
theorem op_snap : Opens Try.prog 63 encSnp := opens_struct Try.underlying63 (opensF_cons rfl op_int (opensF_cons rfl op_int (opensF_one rfl op_wrs (by kernel_rfl))))
theorem op_snaps : Opens Try.prog 52 (encSl encSnp) := opens_slice Try.underlying52 (by kernel_rfl) op_snap (by decide)
theorem op_sns : Opens Try.prog 54 encSns := opens_struct Try.underlying54 (opensF_cons rfl op_img (opensF_one rfl op_snaps (by kernel_rfl)))
set_option maxRecDepth 100000 in
theorem arg_sns {H : Type} {enc : TypeId × Value → H} {W : World} {base b0 : Nat} {spare : Nat → Bool} {held : Bool} {r : Reach} {v : Value} {d : DataW H} {p : List MemPlace} (hv : Value.okWide Try.prog W r b0 54 v) (h : DataW.Trod enc Try.prog W base spare held 54 v d p) :
    ∃ A c im A2 c2 l, v = .agg #[.slice A (im : Img).length c, .slice A2 (l : List Snp).length c2] ∧ (im.length ≤ c ∧ c ≤ maxLen ∧ SlAt (encSl encSec) W (Bl W.heap.size) A im) ∧ l.length ≤ c2 ∧ c2 ≤ maxLen ∧ SlAt encSnp W (Bl W.heap.size) A2 l := by
  obtain ⟨cs, ⟨im, l⟩, rfl, hr⟩ := arg_struct Try.underlying54 op_sns hv h
  obtain ⟨c1, c2, he, ⟨A, c, rfl, h3, h4, h5⟩, ⟨A2, c2', rfl, h6, h7, h8⟩⟩ := hr
  refine ⟨A, c, im, A2, c2', l, ?_, ⟨h3, h4, h5⟩, h6, h7, h8⟩
  congr 1
  exact Array.toList_inj.1 (by simpa using he)
end Go.Proofs.Ytnkmklnlaepdeaa
