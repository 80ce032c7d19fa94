/-
  For every walk and message the law CompareLearns returns true: Learn returns the walk, the request and the error of the reference. No condition.
-/
import Derived.Test.YtjehedfdikdfpaaZ16
import Derived.Test.YtjehedfdikdfpaaZ19
set_option linter.unusedVariables false
set_option linter.unusedSimpArgs false
set_option linter.unusedSectionVars false
set_option linter.unnecessarySimpa false
namespace Go.Proofs.Ytjehedfdikdfpaa.compareLearns
open Go.ChangeShapes Go.WideShapes Go.ChangeAt Go.RowKit Go.Proofs.Ytjehedfdikdfpaa

set_option maxRecDepth 100000 in
theorem lifted (os : Os) (started : os.Started) (H : Type) (enc : TypeId × Value → H) :
    ReturnsInHanded {} Try.checked os 5 .any (Rows.compareLearnsSpec.pre6 enc Try.prog Try.f5 Rows.compareLearnsRow.domain false) (Rows.compareLearnsSpec.post enc Try.prog Try.f5 false true false false) := by
  refine law_lifted (C := Try.checked) (tb := 4) own started (by kernel_rfl) Try.func5 laidOut rfl (fun ds h => ?_) ?_ (by kernel_rfl) Try.underlying4 (ChangeSpec.witness6 (enc := enc) (C := Try.checked) false ⟨#[], #[.agg #[.int .i64 0, .int .i64 0, .slice none 0 0, .slice none 0 0, .int .i64 0, .slice none 0 0, .int .i64 0, .bool false], .agg #[.int .i64 0, .int .i64 0, .int .i64 0, .int .i64 0, .int .i64 0, .int .i64 0, .slice none 0 0, .slice none 0 0]], []⟩ 8 (by kernel_rfl) (by kernel_rfl) (by kernel_rfl) (by kernel_rfl)) ?_
  · have h' : ds.length = 2 := h.trans (by kernel_rfl)
    match ds, h' with
    | [_, _], _ => rfl
  · intro t ht
    have ht' : t ∈ Try.f5.params.toList := ht
    rw [Try.params5] at ht'
    simp at ht'
    rcases ht' with rfl | rfl <;> exact ⟨by kernel_rfl, of_decide_eq_true (by kernel_rfl)⟩
  intro W args ds p base hval0 hA0
  have hA : DataW.TrodAll enc Try.prog W 0 (fun _ => true) true Try.f5.params.toList args.toList ds p := hA0
  have hval : ∀ (j : Nat) t v, Try.f5.params[j]? = some t → args[j]? = some v → Value.okWide Try.prog W .any base t v := hval0
  rw [Try.params5] at hA hval
  obtain ⟨v0, vs0, d0, ds0, p0, q0, hargs, rfl, rfl, h0, r0⟩ := trodAll_cons hA
  obtain ⟨v1, vs1, d1, ds1, p1, q1, rfl, rfl, rfl, h1, r1⟩ := trodAll_cons r0
  obtain ⟨rfl, rfl, rfl⟩ := trodAll_nil r1
  obtain rfl : args = #[v0, v1] := by cases args; simp_all
  clear hA0 hval0
  obtain ⟨x, hx⟩ := arg_walk (hval 0 _ _ rfl rfl) h0
  obtain ⟨m, hm⟩ := arg_mess (hval 1 _ _ rfl rfl) h1
  exact learns44_any x m _ _ W hx hm
theorem over : Rows.compareLearnsRow.holds Try.pinned (OpenSpec.ofChange Rows.compareLearnsSpec) :=
  OpenClaim.holds_of_wide 5 Try.f5 rfl rfl rfl rfl rfl rfl rfl ⟨rfl, rfl, rfl, rfl, rfl⟩ rfl rfl rfl rfl rfl (by kernel_rfl) Try.func5 (by kernel_rfl)
    (of_decide_eq_true (by kernel_rfl)) (by unfold Func.isWrapper; first | (rw [if_pos (by decide +kernel)]; kernel_rfl) | (rw [if_neg (by decide +kernel)]; exact ⟨rfl, rfl⟩))
    (fun os started H enc _ => lifted os started H enc)
theorem proved : Rows.CompareLearnsSaid := over
#print axioms proved
end Go.Proofs.Ytjehedfdikdfpaa.compareLearns
