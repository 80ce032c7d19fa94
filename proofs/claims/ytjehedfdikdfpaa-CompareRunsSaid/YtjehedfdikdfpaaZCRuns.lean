/-
  For every two trees and numbers the law CompareRuns returns true: Run and Bound return the results and errors of the reference. No condition.
-/
import Derived.Test.YtjehedfdikdfpaaZ16
import Derived.Test.YtjehedfdikdfpaaZ20
set_option linter.unusedVariables false
set_option linter.unusedSimpArgs false
set_option linter.unusedSectionVars false
set_option linter.unnecessarySimpa false
namespace Go.Proofs.Ytjehedfdikdfpaa.compareRuns
open Go.ChangeShapes Go.WideShapes Go.ChangeAt Go.RowKit Go.Proofs.Ytjehedfdikdfpaa

theorem op_arr3 : Opens Try.prog 56 (encArr 3 encInt) := opens_array Try.underlying56 (by kernel_rfl) op_int
set_option maxRecDepth 100000 in
theorem lifted (os : Os) (started : os.Started) (H : Type) (enc : TypeId × Value → H) :
    ReturnsInHanded {} Try.checked os 6 .any (Rows.compareRunsSpec.pre6 enc Try.prog Try.f6 Rows.compareRunsRow.domain false) (Rows.compareRunsSpec.post enc Try.prog Try.f6 false true false false) := by
  refine law_lifted (C := Try.checked) (tb := 4) own started (by kernel_rfl) Try.func6 laidOut rfl (fun ds h => ?_) ?_ (by kernel_rfl) Try.underlying4 (ChangeSpec.witness6 (enc := enc) (C := Try.checked) false ⟨#[], #[.agg #[.int .i64 0, .int .i64 0, .slice none 0 0], .agg #[.int .i64 0, .int .i64 0, .slice none 0 0], .agg #[.int .i64 0, .int .i64 0, .int .i64 0]], []⟩ 8 (by kernel_rfl) (by kernel_rfl) (by kernel_rfl) (by kernel_rfl)) ?_
  · have h' : ds.length = 3 := h.trans (by kernel_rfl)
    match ds, h' with
    | [_, _, _], _ => rfl
  · intro t ht
    have ht' : t ∈ Try.f6.params.toList := ht
    rw [Try.params6] at ht'
    simp at ht'
    rcases ht' with rfl | rfl | rfl <;> exact ⟨by kernel_rfl, of_decide_eq_true (by kernel_rfl)⟩
  intro W args ds p base hval0 hA0
  have hA : DataW.TrodAll enc Try.prog W 0 (fun _ => true) true Try.f6.params.toList args.toList ds p := hA0
  have hval : ∀ (j : Nat) t v, Try.f6.params[j]? = some t → args[j]? = some v → Value.okWide Try.prog W .any base t v := hval0
  rw [Try.params6] at hA hval
  obtain ⟨v0, vs0, d0, ds0, p0, q0, hargs, rfl, rfl, h0, r0⟩ := trodAll_cons hA
  obtain ⟨v1, vs1, d1, ds1, p1, q1, rfl, rfl, rfl, h1, r1⟩ := trodAll_cons r0
  obtain ⟨v2, vs2, d2, ds2, p2, q2, rfl, rfl, rfl, h2, r2⟩ := trodAll_cons r1
  obtain ⟨rfl, rfl, rfl⟩ := trodAll_nil r2
  obtain rfl : args = #[v0, v1, v2] := by cases args; simp_all
  clear hA0 hval0
  obtain ⟨s, lf, A, c, l, rfl, k1, k2, k3, k4, k5⟩ := arg_tree (hval 0 _ _ rfl rfl) h0
  obtain ⟨s2, lf2, A2, c2, l2, rfl, m1, m2, m3, m4, m5⟩ := arg_tree (hval 1 _ _ rfl rfl) h1
  obtain ⟨cs, ks, rfl, hr⟩ := arg_array Try.underlying56 op_arr3 (hval 2 _ _ rfl rfl) h2
  obtain ⟨x, y, z, d1, d2, d3, rfl, rfl, ⟨rfl, _⟩, ⟨rfl, _⟩, rfl, _⟩ := arr3 hr
  exact runs44_any s lf s2 lf2 x y z A A2 c c2 l l2 W k3 m3 ⟨k1, k2⟩ ⟨m1, m2⟩ ⟨k4, k5⟩ ⟨m4, m5⟩
theorem over : Rows.compareRunsRow.holds Try.pinned (OpenSpec.ofChange Rows.compareRunsSpec) :=
  OpenClaim.holds_of_wide 6 Try.f6 rfl rfl rfl rfl rfl rfl rfl ⟨rfl, rfl, rfl, rfl, rfl⟩ rfl rfl rfl rfl rfl (by kernel_rfl) Try.func6 (by kernel_rfl)
    (of_decide_eq_true (by kernel_rfl)) (by unfold Func.isWrapper; first | (rw [if_pos (by decide +kernel)]; kernel_rfl) | (rw [if_neg (by decide +kernel)]; exact ⟨rfl, rfl⟩))
    (fun os started H enc _ => lifted os started H enc)
theorem proved : Rows.CompareRunsSaid := over
#print axioms proved
end Go.Proofs.Ytjehedfdikdfpaa.compareRuns
