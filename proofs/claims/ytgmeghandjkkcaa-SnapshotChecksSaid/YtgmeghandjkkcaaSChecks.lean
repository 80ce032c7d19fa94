/-
  For every image and snapshots the law SnapshotChecks returns true: New, Check and Cost return the specified results. No condition.
-/
import Derived.Test.YtgmeghandjkkcaaLv
import Derived.Test.YtgmeghandjkkcaaRowS
set_option linter.unusedVariables false
set_option linter.unusedSimpArgs false
set_option linter.unusedSectionVars false
set_option linter.unnecessarySimpa false
namespace Go.Proofs.Ytgmeghandjkkcaa.snapshotChecks
open Go.ChangeShapes Go.WideShapes Go.ChangeAt Go.RowKit Go.Proofs.Ytgmeghandjkkcaa

set_option maxRecDepth 100000 in
theorem lifted (os : Os) (started : os.Started) (H : Type) (enc : TypeId × Value → H) :
    ReturnsInHanded {} Try.checked os 3 .any (Rows.snapshotChecksSpec.pre6 enc Try.prog Try.f3 Rows.snapshotChecksRow.domain false) (Rows.snapshotChecksSpec.post enc Try.prog Try.f3 false true false false) := by
  refine law_lifted (C := Try.checked) (tb := 4) own started (by kernel_rfl) Try.func3 laidOut rfl (fun ds h => ?_) ?_ (by kernel_rfl) Try.underlying4 (ChangeSpec.witness6 (enc := enc) (C := Try.checked) false ⟨#[], #[.agg #[.slice none 0 0, .slice none 0 0]], []⟩ 8 (by kernel_rfl) (by kernel_rfl) (by kernel_rfl) (by kernel_rfl)) ?_
  · have h' : ds.length = 1 := h.trans (by kernel_rfl)
    match ds, h' with
    | [_], _ => rfl
  · intro t ht
    have ht' : t ∈ Try.f3.params.toList := ht
    rw [Try.params3] at ht'
    simp at ht'
    rcases ht' with rfl <;> exact ⟨by kernel_rfl, of_decide_eq_true (by kernel_rfl)⟩
  intro W args ds p base hval0 hA0
  have hA : DataW.TrodAll enc Try.prog W 0 (fun _ => true) true Try.f3.params.toList args.toList ds p := hA0
  have hval : ∀ (j : Nat) t v, Try.f3.params[j]? = some t → args[j]? = some v → Value.okWide Try.prog W .any base t v := hval0
  rw [Try.params3] at hA hval
  obtain ⟨v0, vs0, d0, ds0, p0, q0, hargs, rfl, rfl, h0, r0⟩ := trodAll_cons hA
  obtain ⟨rfl, rfl, rfl⟩ := trodAll_nil r0
  obtain rfl : args = #[v0] := by cases args; simp_all
  clear hA0 hval0
  obtain ⟨A, c, im, A2, c2, l, rfl, ⟨k1, k2, k3⟩, m1, m2, m3⟩ := arg_sns (hval 0 _ _ rfl rfl) h0
  exact checks36_any A A2 c c2 im.length l.length im l W rfl rfl k3 m3 (by unfold maxLen at k2; omega) (by unfold maxLen at m2; omega)
theorem over : Rows.snapshotChecksRow.holds Try.pinned (OpenSpec.ofChange Rows.snapshotChecksSpec) :=
  OpenClaim.holds_of_wide 3 Try.f3 rfl rfl rfl rfl rfl rfl rfl ⟨rfl, rfl, rfl, rfl, rfl⟩ rfl rfl rfl rfl rfl (by kernel_rfl) Try.func3 (by kernel_rfl)
    (of_decide_eq_true (by kernel_rfl)) (by unfold Func.isWrapper; first | (rw [if_pos (by decide +kernel)]; kernel_rfl) | (rw [if_neg (by decide +kernel)]; exact ⟨rfl, rfl⟩))
    (fun os started H enc _ => lifted os started H enc)
theorem proved : Rows.SnapshotChecksSaid := over
#print axioms proved
end Go.Proofs.Ytgmeghandjkkcaa.snapshotChecks
