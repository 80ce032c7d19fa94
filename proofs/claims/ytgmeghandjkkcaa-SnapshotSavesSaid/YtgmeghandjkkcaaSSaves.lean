/-
  For every list of steps the law SnapshotSaves returns true: without deleting and reverting, Cost is the number of sectors that were written behind each item and before the next one, each counted once. No condition.
-/
import Derived.Test.YtgmeghandjkkcaaDv
import Derived.Test.YtgmeghandjkkcaaRowD
set_option linter.unusedVariables false
set_option linter.unusedSimpArgs false
set_option linter.unusedSectionVars false
set_option linter.unnecessarySimpa false
namespace Go.Proofs.Ytgmeghandjkkcaa.snapshotSaves
open Go.ChangeShapes Go.WideShapes Go.ChangeAt Go.RowKit Go.Proofs.Ytgmeghandjkkcaa

set_option maxRecDepth 100000 in
theorem lifted (os : Os) (started : os.Started) (H : Type) (enc : TypeId × Value → H) :
    ReturnsInHanded {} Try.checked os 6 .any (Rows.snapshotSavesSpec.pre6 enc Try.prog Try.f6 Rows.snapshotSavesRow.domain false) (Rows.snapshotSavesSpec.post enc Try.prog Try.f6 false true false false) := by
  refine law_lifted (C := Try.checked) (tb := 4) own started (by kernel_rfl) Try.func6 laidOut rfl (fun ds h => ?_) ?_ (by kernel_rfl) Try.underlying4 (ChangeSpec.witness6 (enc := enc) (C := Try.checked) false ⟨#[], #[.slice none 0 0], []⟩ 8 (by kernel_rfl) (by kernel_rfl) (by kernel_rfl) (by kernel_rfl)) ?_
  · have h' : ds.length = 1 := h.trans (by kernel_rfl)
    match ds, h' with
    | [_], _ => rfl
  · intro t ht
    have ht' : t ∈ Try.f6.params.toList := ht
    rw [Try.params6] at ht'
    simp at ht'
    rcases ht' with rfl <;> exact ⟨by kernel_rfl, of_decide_eq_true (by kernel_rfl)⟩
  intro W args ds p base hval0 hA0
  have hA : DataW.TrodAll enc Try.prog W 0 (fun _ => true) true Try.f6.params.toList args.toList ds p := hA0
  have hval : ∀ (j : Nat) t v, Try.f6.params[j]? = some t → args[j]? = some v → Value.okWide Try.prog W .any base t v := hval0
  rw [Try.params6] at hA hval
  obtain ⟨v0, vs0, d0, ds0, p0, q0, hargs, rfl, rfl, h0, r0⟩ := trodAll_cons hA
  obtain ⟨rfl, rfl, rfl⟩ := trodAll_nil r0
  obtain rfl : args = #[v0] := by cases args; simp_all
  clear hA0 hval0
  obtain ⟨A, c, l, rfl, k1, k2, k3⟩ := arg_slice Try.underlying37 op_stps (hval 0 _ _ rfl rfl) h0
  exact saves36_any A c l.length l W rfl k3 (by unfold maxLen at k2; omega)
theorem over : Rows.snapshotSavesRow.holds Try.pinned (OpenSpec.ofChange Rows.snapshotSavesSpec) :=
  OpenClaim.holds_of_wide 6 Try.f6 rfl rfl rfl rfl rfl rfl rfl ⟨rfl, rfl, rfl, rfl, rfl⟩ rfl rfl rfl rfl rfl (by kernel_rfl) Try.func6 (by kernel_rfl)
    (of_decide_eq_true (by kernel_rfl)) (by unfold Func.isWrapper; first | (rw [if_pos (by decide +kernel)]; kernel_rfl) | (rw [if_neg (by decide +kernel)]; exact ⟨rfl, rfl⟩))
    (fun os started H enc _ => lifted os started H enc)
theorem proved : Rows.SnapshotSavesSaid := over
#print axioms proved
end Go.Proofs.Ytgmeghandjkkcaa.snapshotSaves
