/-
  For every image and snapshots and every number the law SnapshotDeletes returns true: Delete and Revert return the specified snapshots, or the specified errors. No condition.
-/
import Derived.Test.YtgmeghandjkkcaaGreatMb
import Derived.Test.YtgmeghandjkkcaaGreatRowS
set_option linter.unusedVariables false
set_option linter.unusedSimpArgs false
set_option linter.unusedSectionVars false
set_option linter.unnecessarySimpa false
namespace Go.Proofs.YtgmeghandjkkcaaGreat.snapshotDeletes
open Go.ChangeShapes Go.WideShapes Go.ChangeAt Go.RowKit Go.Proofs.YtgmeghandjkkcaaGreat

set_option maxRecDepth 100000 in
theorem lifted (os : Os) (started : os.Started) (H : Type) (enc : TypeId × Value → H) :
    ReturnsInHanded {} Tryz.checked os 4 .any (Rows.snapshotDeletesSpec.pre6 enc Tryz.prog Tryz.f4 Rows.snapshotDeletesRow.domain false) (Rows.snapshotDeletesSpec.post enc Tryz.prog Tryz.f4 false true false false) := by
  refine law_lifted (C := Tryz.checked) (tb := 4) own started (by kernel_rfl) Tryz.func4 laidOut rfl (fun ds h => ?_) ?_ (by kernel_rfl) Tryz.underlying4 (ChangeSpec.witness6 (enc := enc) (C := Tryz.checked) false ⟨#[], #[.agg #[.slice none 0 0, .slice none 0 0], .int .i64 0], []⟩ 8 (by kernel_rfl) (by kernel_rfl) (by kernel_rfl) (by kernel_rfl)) ?_
  · have h' : ds.length = 2 := h.trans (by kernel_rfl)
    match ds, h' with
    | [_, _], _ => rfl
  · intro t ht
    have ht' : t ∈ Tryz.f4.params.toList := ht
    rw [Tryz.params4] at ht'
    simp at ht'
    rcases ht' with rfl | rfl <;> exact ⟨by kernel_rfl, of_decide_eq_true (by kernel_rfl)⟩
  intro W args ds p base hval0 hA0
  have hA : DataW.TrodAll enc Tryz.prog W 0 (fun _ => true) true Tryz.f4.params.toList args.toList ds p := hA0
  have hval : ∀ (j : Nat) t v, Tryz.f4.params[j]? = some t → args[j]? = some v → Value.okWide Tryz.prog W .any base t v := hval0
  rw [Tryz.params4] at hA hval
  obtain ⟨v0, vs0, d0, ds0, p0, q0, hargs, rfl, rfl, h0, r0⟩ := trodAll_cons hA
  obtain ⟨v1, vs1, d1, ds1, p1, q1, rfl, rfl, rfl, h1, r1⟩ := trodAll_cons r0
  obtain ⟨rfl, rfl, rfl⟩ := trodAll_nil r1
  obtain rfl : args = #[v0, v1] := by cases args; simp_all
  clear hA0 hval0
  obtain ⟨A, c, im, A2, c2, l, rfl, ⟨k1, k2, k3⟩, m1, m2, m3⟩ := arg_sns (hval 0 _ _ rfl rfl) h0
  obtain ⟨num, rfl, hnum⟩ := arg_int Tryz.underlying3 (hval 1 _ _ rfl rfl) h1
  exact deletes36_any A A2 c c2 im.length l.length im l num W rfl rfl k3 m3 (by unfold maxLen at k2; omega) (by unfold maxLen at m2; omega) m1
theorem over : Rows.snapshotDeletesRow.holds Tryz.pinned (OpenSpec.ofChange Rows.snapshotDeletesSpec) :=
  OpenClaim.holds_of_wide 4 Tryz.f4 rfl rfl rfl rfl rfl rfl rfl ⟨rfl, rfl, rfl, rfl, rfl⟩ rfl rfl rfl rfl rfl (by kernel_rfl) Tryz.func4 (by kernel_rfl)
    (of_decide_eq_true (by kernel_rfl)) (by unfold Func.isWrapper; first | (rw [if_pos (by decide +kernel)]; kernel_rfl) | (rw [if_neg (by decide +kernel)]; exact ⟨rfl, rfl⟩))
    (fun os started H enc _ => lifted os started H enc)
theorem proved : Rows.SnapshotDeletesSaid := over
#print axioms proved
end Go.Proofs.YtgmeghandjkkcaaGreat.snapshotDeletes
