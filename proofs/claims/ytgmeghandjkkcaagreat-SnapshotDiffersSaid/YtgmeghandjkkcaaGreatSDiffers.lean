/-
  For every list of steps and every choice of two items the law SnapshotDiffers returns true: where the images of two items differ, Between contains the sector, and it contains only sectors that were written between them. No condition.
-/
import Derived.Test.YtgmeghandjkkcaaGreatDh
import Derived.Test.YtgmeghandjkkcaaGreatRowD
set_option linter.unusedVariables false
set_option linter.unusedSimpArgs false
set_option linter.unusedSectionVars false
set_option linter.unnecessarySimpa false
namespace Go.Proofs.YtgmeghandjkkcaaGreat.snapshotDiffers
open Go.ChangeShapes Go.WideShapes Go.ChangeAt Go.RowKit Go.Proofs.YtgmeghandjkkcaaGreat

set_option maxRecDepth 100000 in
theorem lifted (os : Os) (started : os.Started) (H : Type) (enc : TypeId × Value → H) :
    ReturnsInHanded {} Tryz.checked os 6 .any (Rows.snapshotDiffersSpec.pre6 enc Tryz.prog Tryz.f6 Rows.snapshotDiffersRow.domain false) (Rows.snapshotDiffersSpec.post enc Tryz.prog Tryz.f6 false true false false) := by
  refine law_lifted (C := Tryz.checked) (tb := 4) own started (by kernel_rfl) Tryz.func6 laidOut rfl (fun ds h => ?_) ?_ (by kernel_rfl) Tryz.underlying4 (ChangeSpec.witness6 (enc := enc) (C := Tryz.checked) false ⟨#[], #[.slice none 0 0, .int .u8 0, .int .u8 0], []⟩ 8 (by kernel_rfl) (by kernel_rfl) (by kernel_rfl) (by kernel_rfl)) ?_
  · have h' : ds.length = 3 := h.trans (by kernel_rfl)
    match ds, h' with
    | [_, _, _], _ => rfl
  · intro t ht
    have ht' : t ∈ Tryz.f6.params.toList := ht
    rw [Tryz.params6] at ht'
    simp at ht'
    rcases ht' with rfl | rfl | rfl <;> exact ⟨by kernel_rfl, of_decide_eq_true (by kernel_rfl)⟩
  intro W args ds p base hval0 hA0
  have hA : DataW.TrodAll enc Tryz.prog W 0 (fun _ => true) true Tryz.f6.params.toList args.toList ds p := hA0
  have hval : ∀ (j : Nat) t v, Tryz.f6.params[j]? = some t → args[j]? = some v → Value.okWide Tryz.prog W .any base t v := hval0
  rw [Tryz.params6] at hA hval
  obtain ⟨v0, vs0, d0, ds0, p0, q0, hargs, rfl, rfl, h0, r0⟩ := trodAll_cons hA
  obtain ⟨v1, vs1, d1, ds1, p1, q1, rfl, rfl, rfl, h1, r1⟩ := trodAll_cons r0
  obtain ⟨v2, vs2, d2, ds2, p2, q2, rfl, rfl, rfl, h2, r2⟩ := trodAll_cons r1
  obtain ⟨rfl, rfl, rfl⟩ := trodAll_nil r2
  obtain rfl : args = #[v0, v1, v2] := by cases args; simp_all
  clear hA0 hval0
  obtain ⟨A, c, l, rfl, k1, k2, k3⟩ := arg_slice Tryz.underlying56 op_stps (hval 0 _ _ rfl rfl) h0
  obtain ⟨na, rfl, hna⟩ := arg_int Tryz.underlying5 (hval 1 _ _ rfl rfl) h1
  obtain ⟨nb, rfl, hnb⟩ := arg_int Tryz.underlying5 (hval 2 _ _ rfl rfl) h2
  have hqa : 0 ≤ na ∧ na < 256 := by simp [Lit.wf, IntKind.min, IntKind.max, IntKind.signed, IntKind.bits] at hna; omega
  have hqb : 0 ≤ nb ∧ nb < 256 := by simp [Lit.wf, IntKind.min, IntKind.max, IntKind.signed, IntKind.bits] at hnb; omega
  exact differs36_any A c l.length l na nb hqa hqb W rfl k3 (by unfold maxLen at k2; omega)
theorem over : Rows.snapshotDiffersRow.holds Tryz.pinned (OpenSpec.ofChange Rows.snapshotDiffersSpec) :=
  OpenClaim.holds_of_wide 6 Tryz.f6 rfl rfl rfl rfl rfl rfl rfl ⟨rfl, rfl, rfl, rfl, rfl⟩ rfl rfl rfl rfl rfl (by kernel_rfl) Tryz.func6 (by kernel_rfl)
    (of_decide_eq_true (by kernel_rfl)) (by unfold Func.isWrapper; first | (rw [if_pos (by decide +kernel)]; kernel_rfl) | (rw [if_neg (by decide +kernel)]; exact ⟨rfl, rfl⟩))
    (fun os started H enc _ => lifted os started H enc)
theorem proved : Rows.SnapshotDiffersSaid := over
#print axioms proved
end Go.Proofs.YtgmeghandjkkcaaGreat.snapshotDiffers
