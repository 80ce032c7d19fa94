/-
  For every tree, number and place the law HashtreeProves returns true: Proof and Verify return the results of the reference. No condition.
-/
import Derived.Test.YthneomehfmjbkaaJg
import Derived.Test.YthneomehfmjbkaaRowP
set_option linter.unusedVariables false
set_option linter.unusedSimpArgs false
set_option linter.unusedSectionVars false
set_option linter.unnecessarySimpa false
namespace Go.Proofs.Ythneomehfmjbkaa.hashtreeProves
open Go.ChangeShapes Go.WideShapes Go.ChangeAt Go.RowKit Go.Proofs.Ythneomehfmjbkaa

set_option maxRecDepth 100000 in
theorem lifted (os : Os) (started : os.Started) (H : Type) (enc : TypeId × Value → H) :
    ReturnsInHanded {} Try.checked os 10 .any (Rows.hashtreeProvesSpec.pre6 enc Try.prog Try.f10 Rows.hashtreeProvesRow.domain false) (Rows.hashtreeProvesSpec.post enc Try.prog Try.f10 false true false false) := by
  refine law_lifted (C := Try.checked) (tb := 4) own started (by kernel_rfl) Try.func10 laidOut rfl (fun ds h => ?_) ?_ (by kernel_rfl) Try.underlying4 (ChangeSpec.witness6 (enc := enc) (C := Try.checked) false ⟨#[], #[.agg #[.int .i64 0, .int .i64 0, .slice none 0 0], .int .i64 0, .agg #[.int .u64 0, .int .i64 0, .int .i64 0, .int .i64 0, .slice none 0 0, .slice none 0 0]], []⟩ 8 (by kernel_rfl) (by kernel_rfl) (by kernel_rfl) (by kernel_rfl)) ?_
  · have h' : ds.length = 3 := h.trans (by kernel_rfl)
    match ds, h' with
    | [_, _, _], _ => rfl
  · intro t ht
    have ht' : t ∈ Try.f10.params.toList := ht
    rw [Try.params10] at ht'
    simp at ht'
    rcases ht' with rfl | rfl | rfl <;> exact ⟨by kernel_rfl, of_decide_eq_true (by kernel_rfl)⟩
  intro W args ds p base hval0 hA0
  have hA : DataW.TrodAll enc Try.prog W 0 (fun _ => true) true Try.f10.params.toList args.toList ds p := hA0
  have hval : ∀ (j : Nat) t v, Try.f10.params[j]? = some t → args[j]? = some v → Value.okWide Try.prog W .any base t v := hval0
  rw [Try.params10] at hA hval
  obtain ⟨v0, vs0, d0, ds0, p0, q0, hargs, rfl, rfl, h0, r0⟩ := trodAll_cons hA
  obtain ⟨v1, vs1, d1, ds1, p1, q1, rfl, rfl, rfl, h1, r1⟩ := trodAll_cons r0
  obtain ⟨v2, vs2, d2, ds2, p2, q2, rfl, rfl, rfl, h2, r2⟩ := trodAll_cons r1
  obtain ⟨rfl, rfl, rfl⟩ := trodAll_nil r2
  obtain rfl : args = #[v0, v1, v2] := by cases args; simp_all
  clear hA0 hval0
  obtain ⟨s, lf, A, c, l, rfl, k1, k2, k3, k4, k5⟩ := arg_tree (hval 0 _ _ rfl rfl) h0
  obtain ⟨ix, rfl, hix⟩ := arg_i64 (hval 1 _ _ rfl rfl) h1
  obtain ⟨root, s2, lf2, ix2, A2, c2, data, A3, c3, pf, rfl, hI2, m1, m2, m3, n1, n2, n3⟩ := arg_plc (hval 2 _ _ rfl rfl) h2
  exact proves_any s lf ix A c l root s2 lf2 ix2 A2 A3 c2 c3 data pf W k3 k1 k2 ⟨k4, k5⟩ hix m3 m1 m2 n3 n1 n2 hI2
theorem over : Rows.hashtreeProvesRow.holds Try.pinned (OpenSpec.ofChange Rows.hashtreeProvesSpec) :=
  OpenClaim.holds_of_wide 10 Try.f10 rfl rfl rfl rfl rfl rfl rfl ⟨rfl, rfl, rfl, rfl, rfl⟩ rfl rfl rfl rfl rfl (by kernel_rfl) Try.func10 (by kernel_rfl)
    (of_decide_eq_true (by kernel_rfl)) (by unfold Func.isWrapper; first | (rw [if_pos (by decide +kernel)]; kernel_rfl) | (rw [if_neg (by decide +kernel)]; exact ⟨rfl, rfl⟩))
    (fun os started H enc _ => lifted os started H enc)
theorem proved : Rows.HashtreeProvesSaid := over
#print axioms proved
end Go.Proofs.Ythneomehfmjbkaa.hashtreeProves
