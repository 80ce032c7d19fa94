/-
  How snapshots read; closed facts.
-/
import Derived.Test.YtnkmklnlaepdeaaGreatRow
import Derived.Test.YtnkmklnlaepdeaaGreatSn1
set_option linter.unusedVariables false
set_option linter.unusedSimpArgs false
set_option linter.unusedSectionVars false
set_option linter.unnecessarySimpa false
namespace Go.Proofs.YtnkmklnlaepdeaaGreat
open Go.RowKit Go.ChangeShapes Go.WideShapes Go.ChangeAt

abbrev encSns : Enc Sns := encPair (encSl (encSl encSec)) (encSl encSnp)
theorem op_snap : Opens Tryz.prog 45 encSnp := opens_struct Tryz.underlying45 (opensF_cons rfl op_int (opensF_cons rfl op_int (opensF_one rfl op_wrs (by kernel_rfl))))
theorem op_snaps : Opens Tryz.prog 27 (encSl encSnp) := opens_slice Tryz.underlying27 (by kernel_rfl) op_snap (by decide)
theorem op_sns : Opens Tryz.prog 29 encSns := opens_struct Tryz.underlying29 (opensF_cons rfl op_img (opensF_one rfl op_snaps (by kernel_rfl)))
set_option maxRecDepth 100000 in
theorem arg_sns {H : Type} {enc : TypeId × Value → H} {W : World} {base b0 : Nat} {spare : Nat → Bool} {held : Bool} {r : Reach} {v : Value} {d : DataW H} {p : List MemPlace} (hv : Value.okWide Tryz.prog W r b0 29 v) (h : DataW.Trod enc Tryz.prog W base spare held 29 v d p) :
    ∃ A c im A2 c2 l, v = .agg #[.slice A (im : Img).length c, .slice A2 (l : List Snp).length c2] ∧ (im.length ≤ c ∧ c ≤ maxLen ∧ SlAt (encSl encSec) W (Bl W.heap.size) A im) ∧ l.length ≤ c2 ∧ c2 ≤ maxLen ∧ SlAt encSnp W (Bl W.heap.size) A2 l := by
  obtain ⟨cs, ⟨im, l⟩, rfl, hr⟩ := arg_struct Tryz.underlying29 op_sns hv h
  obtain ⟨c1, c2, he, ⟨A, c, rfl, h3, h4, h5⟩, ⟨A2, c2', rfl, h6, h7, h8⟩⟩ := hr
  refine ⟨A, c, im, A2, c2', l, ?_, ⟨h3, h4, h5⟩, h6, h7, h8⟩
  congr 1
  exact Array.toList_inj.1 (by simpa using he)
end Go.Proofs.YtnkmklnlaepdeaaGreat
