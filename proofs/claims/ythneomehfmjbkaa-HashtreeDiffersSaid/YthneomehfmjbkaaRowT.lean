/-
  How a tree reads; closed facts.
-/
import Derived.Test.YthneomehfmjbkaaRow
import Derived.Test.YthneomehfmjbkaaHg
set_option linter.unusedVariables false
set_option linter.unusedSimpArgs false
set_option linter.unusedSectionVars false
set_option linter.unnecessarySimpa false
namespace Go.Proofs.Ythneomehfmjbkaa
open Go.RowKit Go.ChangeShapes Go.WideShapes Go.ChangeAt

abbrev encTree : Enc Tr := encPair encInt (encPair encInt (encSl (encSl encU64)))
theorem op_u64 : Opens Try.prog 58 encU64 := opens_u64 Try.underlying58 (by kernel_rfl)
theorem op_u64s : Opens Try.prog 60 (encSl encU64) := opens_slice Try.underlying60 (by kernel_rfl) op_u64 (by decide)
theorem op_lvls : Opens Try.prog 24 (encSl (encSl encU64)) := opens_slice Try.underlying24 (by kernel_rfl) op_u64s (by decide)
theorem op_tree : Opens Try.prog 26 encTree := opens_struct Try.underlying26 (opensF_cons rfl op_int (opensF_cons rfl op_int (opensF_one rfl op_lvls (by kernel_rfl))))
set_option maxRecDepth 100000 in
theorem arg_tree {H : Type} {enc : TypeId × Value → H} {W : World} {base b0 : Nat} {spare : Nat → Bool} {held : Bool} {r : Reach} {v : Value} {d : DataW H} {p : List MemPlace} (hv : Value.okWide Try.prog W r b0 26 v) (h : DataW.Trod enc Try.prog W base spare held 26 v d p) :
    ∃ s lf A c l, v = .agg #[.int .i64 s, .int .i64 lf, .slice A (l : List (List Int)).length c] ∧ l.length ≤ c ∧ c ≤ maxLen ∧ SlAt (encSl encU64) W (Bl W.heap.size) A l ∧ I64 s ∧ I64 lf := by
  obtain ⟨cs, ⟨s, lf, l⟩, rfl, hr⟩ := arg_struct Try.underlying26 op_tree hv h
  obtain ⟨c1, c2, he, ⟨rfl, h1⟩, c3, c4, rfl, ⟨rfl, h2⟩, A, c, rfl, h3, h4, h5⟩ := hr
  refine ⟨s, lf, A, c, l, ?_, h3, h4, h5, h1, h2⟩
  congr 1
  exact Array.toList_inj.1 (by simpa using he)
set_option maxRecDepth 100000 in
theorem arg_i64 {H : Type} {enc : TypeId × Value → H} {W : World} {base b0 : Nat} {spare : Nat → Bool} {held : Bool} {r : Reach} {v : Value} {d : DataW H} {p : List MemPlace} (hv : Value.okWide Try.prog W r b0 3 v) (h : DataW.Trod enc Try.prog W base spare held 3 v d p) : ∃ n, v = .int .i64 n ∧ I64 n := by
  obtain ⟨n, rfl, hw⟩ := arg_int Try.underlying3 hv h
  refine ⟨n, rfl, ?_⟩
  simp [Lit.wf, IntKind.min, IntKind.max, IntKind.signed, IntKind.bits] at hw
  unfold I64; omega
end Go.Proofs.Ythneomehfmjbkaa
