/-
  How snapshots read; closed facts.
  A row's steps as a reading.
-/
import Derived.Test.YtgmeghandjkkcaaGreatRow
import Derived.Test.YtgmeghandjkkcaaGreatSn1
import Derived.Test.YtgmeghandjkkcaaGreatDb
set_option linter.unusedVariables false
set_option linter.unusedSimpArgs false
set_option linter.unusedSectionVars false
set_option linter.unnecessarySimpa false
namespace Go.Proofs.YtgmeghandjkkcaaGreat
open Go.RowKit Go.ChangeShapes Go.WideShapes Go.ChangeAt

abbrev encSns : Enc Sns := encPair (encSl (encSl encSec)) (encSl encSnp)
theorem op_snap : Opens Tryz.prog 76 encSnp := opens_struct Tryz.underlying76 (opensF_cons rfl op_int (opensF_cons rfl op_int (opensF_one rfl op_wrs (by kernel_rfl))))
theorem op_snaps : Opens Tryz.prog 24 (encSl encSnp) := opens_slice Tryz.underlying24 (by kernel_rfl) op_snap (by decide)
theorem op_sns : Opens Tryz.prog 26 encSns := opens_struct Tryz.underlying26 (opensF_cons rfl op_img (opensF_one rfl op_snaps (by kernel_rfl)))
set_option maxRecDepth 100000 in
theorem arg_sns {H : Type} {enc : TypeId × Value → H} {W : World} {base b0 : Nat} {spare : Nat → Bool} {held : Bool} {r : Reach} {v : Value} {d : DataW H} {p : List MemPlace} (hv : Value.okWide Tryz.prog W r b0 26 v) (h : DataW.Trod enc Tryz.prog W base spare held 26 v d p) :
    ∃ A c im A2 c2 l, v = .agg #[.slice A (im : Img).length c, .slice A2 (l : List Snp).length c2] ∧ (im.length ≤ c ∧ c ≤ maxLen ∧ SlAt (encSl encSec) W (Bl W.heap.size) A im) ∧ l.length ≤ c2 ∧ c2 ≤ maxLen ∧ SlAt encSnp W (Bl W.heap.size) A2 l := by
  obtain ⟨cs, ⟨im, l⟩, rfl, hr⟩ := arg_struct Tryz.underlying26 op_sns hv h
  obtain ⟨c1, c2, he, ⟨A, c, rfl, h3, h4, h5⟩, ⟨A2, c2', rfl, h6, h7, h8⟩⟩ := hr
  refine ⟨A, c, im, A2, c2', l, ?_, ⟨h3, h4, h5⟩, h6, h7, h8⟩
  congr 1
  exact Array.toList_inj.1 (by simpa using he)
end Go.Proofs.YtgmeghandjkkcaaGreat

namespace Go.Proofs.YtgmeghandjkkcaaGreat
open Go.ChangeShapes Go.WideShapes Go.ChangeAt Go.RowKit

theorem op_stp : Opens Tryz.prog 73 encStp := opens_struct Tryz.underlying73 (opensF_cons rfl op_u8 (opensF_cons rfl op_u8 (opensF_cons rfl op_u8 (opensF_cons rfl op_u8 (opensF_one rfl op_u8 (by kernel_rfl))))))
theorem op_stps : Opens Tryz.prog 56 (encSl encStp) := opens_slice Tryz.underlying56 (by kernel_rfl) op_stp (by decide)
end Go.Proofs.YtgmeghandjkkcaaGreat
