/-
  For every two lists of sectors and every order of arrivals the law CompareLate returns true: answers that are not expected change nothing, and the same is found. No condition.
-/
import Derived.Test.YtjehedfdikdfpaaZL14
import Derived.Test.YtjehedfdikdfpaaZL15
set_option linter.unusedVariables false
set_option linter.unusedSimpArgs false
set_option linter.unusedSectionVars false
set_option linter.unnecessarySimpa false
namespace Go.Proofs.Ytjehedfdikdfpaa.compareLate
open Go.ChangeShapes Go.WideShapes Go.ChangeAt Go.RowKit Go.Proofs.Ytjehedfdikdfpaa

set_option maxRecDepth 100000 in
theorem lifted (os : Os) (started : os.Started) (H : Type) (enc : TypeId × Value → H) :
    ReturnsInHanded {} Try.checked os 8 .any (Rows.compareLateSpec.pre6 enc Try.prog Try.f8 Rows.compareLateRow.domain false) (Rows.compareLateSpec.post enc Try.prog Try.f8 false true false false) := by
  refine law_lifted (C := Try.checked) (tb := 4) own started (by kernel_rfl) Try.func8 laidOut rfl (fun ds h => ?_) ?_ (by kernel_rfl) Try.underlying4 (ChangeSpec.witness6 (enc := enc) (C := Try.checked) false ⟨#[], #[.slice none 0 0, .slice none 0 0, .slice none 0 0], []⟩ 8 (by kernel_rfl) (by kernel_rfl) (by kernel_rfl) (by kernel_rfl)) ?_
  · have h' : ds.length = 3 := h.trans (by kernel_rfl)
    match ds, h' with
    | [_, _, _], _ => rfl
  · intro t ht
    have ht' : t ∈ Try.f8.params.toList := ht
    rw [Try.params8] at ht'
    simp at ht'
    rcases ht' with rfl | rfl | rfl <;> exact ⟨by kernel_rfl, of_decide_eq_true (by kernel_rfl)⟩
  intro W args ds p base hval0 hA0
  have hA : DataW.TrodAll enc Try.prog W 0 (fun _ => true) true Try.f8.params.toList args.toList ds p := hA0
  have hval : ∀ (j : Nat) t v, Try.f8.params[j]? = some t → args[j]? = some v → Value.okWide Try.prog W .any base t v := hval0
  rw [Try.params8] at hA hval
  obtain ⟨v0, vs0, d0, ds0, p0, q0, hargs, rfl, rfl, h0, r0⟩ := trodAll_cons hA
  obtain ⟨v1, vs1, d1, ds1, p1, q1, rfl, rfl, rfl, h1, r1⟩ := trodAll_cons r0
  obtain ⟨v2, vs2, d2, ds2, p2, q2, rfl, rfl, rfl, h2, r2⟩ := trodAll_cons r1
  obtain ⟨rfl, rfl, rfl⟩ := trodAll_nil r2
  obtain rfl : args = #[v0, v1, v2] := by cases args; simp_all
  clear hA0 hval0
  obtain ⟨A, c, l, rfl, k1, k2, k3⟩ := arg_slice Try.underlying69 op_secs (hval 0 _ _ rfl rfl) h0
  obtain ⟨A2, c2, m, rfl, m1, m2, m3⟩ := arg_slice Try.underlying69 op_secs (hval 1 _ _ rfl rfl) h1
  obtain ⟨A3, c3, os, rfl, o1, o2, o3⟩ := arg_slice Try.underlying43 op_u8sM (hval 2 _ _ rfl rfl) h2
  exact late44_any A A2 A3 c c2 c3 l m os W k3 m3 o3 ⟨k1, k2⟩ ⟨m1, m2⟩ ⟨o1, o2⟩
theorem over : Rows.compareLateRow.holds Try.pinned (OpenSpec.ofChange Rows.compareLateSpec) :=
  OpenClaim.holds_of_wide 8 Try.f8 rfl rfl rfl rfl rfl rfl rfl ⟨rfl, rfl, rfl, rfl, rfl⟩ rfl rfl rfl rfl rfl (by kernel_rfl) Try.func8 (by kernel_rfl)
    (of_decide_eq_true (by kernel_rfl)) (by unfold Func.isWrapper; first | (rw [if_pos (by decide +kernel)]; kernel_rfl) | (rw [if_neg (by decide +kernel)]; exact ⟨rfl, rfl⟩))
    (fun os started H enc _ => lifted os started H enc)
theorem proved : Rows.CompareLateSaid := over
#print axioms proved
end Go.Proofs.Ytjehedfdikdfpaa.compareLate
