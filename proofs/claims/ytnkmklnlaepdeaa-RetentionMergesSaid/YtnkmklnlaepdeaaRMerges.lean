/-
  For every two policies the law RetentionMerges returns true: Merge returns the policy, or the error, of the reference. No condition.
-/
import Derived.Test.YtnkmklnlaepdeaaYx
import Derived.Test.YtnkmklnlaepdeaaRowG
set_option linter.unusedVariables false
set_option linter.unusedSimpArgs false
set_option linter.unusedSectionVars false
set_option linter.unnecessarySimpa false
namespace Go.Proofs.Ytnkmklnlaepdeaa.retentionMerges
open Go.ChangeShapes Go.WideShapes Go.ChangeAt Go.RowKit Go.Proofs.Ytnkmklnlaepdeaa

set_option maxRecDepth 100000 in
theorem lifted (os : Os) (started : os.Started) (H : Type) (enc : TypeId × Value → H) :
    ReturnsInHanded {} Try.checked os 5 .any (Rows.retentionMergesSpec.pre6 enc Try.prog Try.f5 Rows.retentionMergesRow.domain false) (Rows.retentionMergesSpec.post enc Try.prog Try.f5 false true false false) := by
  refine law_lifted (C := Try.checked) (tb := 4) own started (by kernel_rfl) Try.func5 laidOut rfl (fun ds h => ?_) ?_ (by kernel_rfl) Try.underlying4 (ChangeSpec.witness6 (enc := enc) (C := Try.checked) false ⟨#[], #[.agg #[.int .i64 0, .slice none 0 0], .agg #[.int .i64 0, .slice none 0 0]], []⟩ 8 (by kernel_rfl) (by kernel_rfl) (by kernel_rfl) (by kernel_rfl)) ?_
  · have h' : ds.length = 2 := h.trans (by kernel_rfl)
    match ds, h' with
    | [_, _], _ => rfl
  · intro t ht
    have ht' : t ∈ Try.f5.params.toList := ht
    rw [Try.params5] at ht'
    simp at ht'
    rcases ht' with rfl | rfl <;> exact ⟨by kernel_rfl, of_decide_eq_true (by kernel_rfl)⟩
  intro W args ds p base hval0 hA0
  have hA : DataW.TrodAll enc Try.prog W 0 (fun _ => true) true Try.f5.params.toList args.toList ds p := hA0
  have hval : ∀ (j : Nat) t v, Try.f5.params[j]? = some t → args[j]? = some v → Value.okWide Try.prog W .any base t v := hval0
  rw [Try.params5] at hA hval
  obtain ⟨v0, vs0, d0, ds0, p0, q0, hargs, rfl, rfl, h0, r0⟩ := trodAll_cons hA
  obtain ⟨v1, vs1, d1, ds1, p1, q1, rfl, rfl, rfl, h1, r1⟩ := trodAll_cons r0
  obtain ⟨rfl, rfl, rfl⟩ := trodAll_nil r1
  obtain rfl : args = #[v0, v1] := by cases args; simp_all
  clear hA0 hval0
  obtain ⟨wa, A, ca, la, rfl, k1, k2, k3, _⟩ := arg_pol (hval 0 _ _ rfl rfl) h0
  obtain ⟨wb, B, cb, lb, rfl, m1, m2, m3, _⟩ := arg_pol (hval 1 _ _ rfl rfl) h1
  exact rmerges_any A B ca cb la.length lb.length wa wb la lb W rfl rfl k3 m3 ⟨k1, k2⟩ ⟨m1, m2⟩
theorem over : Rows.retentionMergesRow.holds Try.pinned (OpenSpec.ofChange Rows.retentionMergesSpec) :=
  OpenClaim.holds_of_wide 5 Try.f5 rfl rfl rfl rfl rfl rfl rfl ⟨rfl, rfl, rfl, rfl, rfl⟩ rfl rfl rfl rfl rfl (by kernel_rfl) Try.func5 (by kernel_rfl)
    (of_decide_eq_true (by kernel_rfl)) (by unfold Func.isWrapper; first | (rw [if_pos (by decide +kernel)]; kernel_rfl) | (rw [if_neg (by decide +kernel)]; exact ⟨rfl, rfl⟩))
    (fun os started H enc _ => lifted os started H enc)
theorem proved : Rows.RetentionMergesSaid := over
#print axioms proved
end Go.Proofs.Ytnkmklnlaepdeaa.retentionMerges
