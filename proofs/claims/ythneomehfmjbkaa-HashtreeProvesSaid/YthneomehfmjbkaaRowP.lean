/-
  How a place reads.
-/
import Derived.Test.YthneomehfmjbkaaRowT
set_option linter.unusedVariables false
set_option linter.unusedSimpArgs false
set_option linter.unusedSectionVars false
set_option linter.unnecessarySimpa false
namespace Go.Proofs.Ythneomehfmjbkaa
open Go.RowKit Go.ChangeShapes Go.WideShapes Go.ChangeAt
abbrev Plc := Int × Int × Int × Int × List Sec × List Int
abbrev encPlc : Enc Plc := encPair encU64 (encPair encInt (encPair encInt (encPair encInt (encPair (encSl encSec) (encSl encU64)))))
theorem op_plc : Opens Try.prog 63 encPlc := opens_struct Try.underlying63 (opensF_cons rfl op_u64 (opensF_cons rfl op_int (opensF_cons rfl op_int (opensF_cons rfl op_int (opensF_cons rfl op_secs (opensF_one rfl op_u64s (by kernel_rfl)))))))
set_option maxRecDepth 100000 in
theorem arg_plc {H : Type} {enc : TypeId × Value → H} {W : World} {base b0 : Nat} {spare : Nat → Bool} {held : Bool} {r : Reach} {v : Value} {d : DataW H} {p : List MemPlace} (hv : Value.okWide Try.prog W r b0 63 v) (h : DataW.Trod enc Try.prog W base spare held 63 v d p) :
    ∃ root s lf ix A2 c2 data A3 c3 pf, v = .agg #[.int .u64 root, .int .i64 s, .int .i64 lf, .int .i64 ix, .slice A2 (data : List Sec).length c2, .slice A3 (pf : List Int).length c3] ∧ (I64 s ∧ I64 lf ∧ I64 ix) ∧ data.length ≤ c2 ∧ c2 ≤ maxLen ∧ SlAt encSec W (Bl W.heap.size) A2 data ∧ pf.length ≤ c3 ∧ c3 ≤ maxLen ∧ SlAt encU64 W (Bl W.heap.size) A3 pf := by
  obtain ⟨cs, ⟨root, s, lf, ix, data, pf⟩, rfl, hr⟩ := arg_struct Try.underlying63 op_plc hv h
  obtain ⟨_, _, he, ⟨rfl, _⟩, _, _, rfl, ⟨rfl, h1⟩, _, _, rfl, ⟨rfl, h2⟩, _, _, rfl, ⟨rfl, h3⟩, _, _, rfl, ⟨A2, c2, rfl, k1, k2, k3⟩, A3, c3, rfl, m1, m2, m3⟩ := hr
  refine ⟨root, s, lf, ix, A2, c2, data, A3, c3, pf, ?_, ⟨h1, h2, h3⟩, k1, k2, k3, m1, m2, m3⟩
  congr 1
  exact Array.toList_inj.1 (by simpa using he)
end Go.Proofs.Ythneomehfmjbkaa
