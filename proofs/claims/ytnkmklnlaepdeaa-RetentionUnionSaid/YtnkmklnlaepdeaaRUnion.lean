/-
  For every two policies, times and present time the law RetentionUnion returns true: the merged policy keeps what one of both keeps, and nothing else. No condition.
-/
import Derived.Test.YtnkmklnlaepdeaaYxU
import Derived.Test.YtnkmklnlaepdeaaRowG
import Derived.Test.YtnkmklnlaepdeaaArr
set_option linter.unusedVariables false
set_option linter.unusedSimpArgs false
set_option linter.unusedSectionVars false
set_option linter.unnecessarySimpa false
namespace Go.Proofs.Ytnkmklnlaepdeaa.retentionUnion
open Go.ChangeShapes Go.WideShapes Go.ChangeAt Go.RowKit Go.Proofs.Ytnkmklnlaepdeaa

set_option maxRecDepth 100000 in
theorem arg_pols {H : Type} {enc : TypeId × Value → H} {W : World} {base b0 : Nat} {spare : Nat → Bool} {held : Bool} {r : Reach} {v : Value} {d : DataW H} {p : List MemPlace} (hv : Value.okWide Try.prog W r b0 39 v) (h : DataW.Trod enc Try.prog W base spare held 39 v d p) :
    ∃ wa A ca la wb B cb lb, v = .agg #[.int .i64 wa, .slice A (la : List Rule).length ca, .int .i64 wb, .slice B (lb : List Rule).length cb] ∧ (la.length ≤ ca ∧ ca ≤ maxLen) ∧ SlAt encExt W (Bl W.heap.size) A la ∧ (lb.length ≤ cb ∧ cb ≤ maxLen) ∧ SlAt encExt W (Bl W.heap.size) B lb := by
  obtain ⟨cs, y, rfl, hr⟩ := arg_array Try.underlying39 (opens_array Try.underlying39 (by kernel_rfl) op_pol) hv h
  obtain ⟨x, z, c1, c2, rfl, rfl, hx, hz⟩ := arr2 hr
  obtain ⟨wa, la⟩ := x
  obtain ⟨wb, lb⟩ := z
  obtain ⟨d1, d2, rfl, ⟨rfl, _⟩, ⟨A, ca, rfl, a1, a2, a3⟩⟩ := hx
  obtain ⟨d3, d4, rfl, ⟨rfl, _⟩, ⟨B, cb, rfl, b1, b2, b3⟩⟩ := hz
  exact ⟨wa, A, ca, la, wb, B, cb, lb, rfl, ⟨a1, a2⟩, a3, ⟨b1, b2⟩, b3⟩
set_option maxRecDepth 100000 in
theorem lifted (os : Os) (started : os.Started) (H : Type) (enc : TypeId × Value → H) :
    ReturnsInHanded {} Try.checked os 6 .any (Rows.retentionUnionSpec.pre6 enc Try.prog Try.f6 Rows.retentionUnionRow.domain false) (Rows.retentionUnionSpec.post enc Try.prog Try.f6 false true false false) := by
  refine law_lifted (C := Try.checked) (tb := 4) own started (by kernel_rfl) Try.func6 laidOut rfl (fun ds h => ?_) ?_ (by kernel_rfl) Try.underlying4 (ChangeSpec.witness6 (enc := enc) (C := Try.checked) false ⟨#[], #[.agg #[.int .i64 0, .slice none 0 0, .int .i64 0, .slice none 0 0], .slice none 0 0, .int .i64 0], []⟩ 8 (by kernel_rfl) (by kernel_rfl) (by kernel_rfl) (by kernel_rfl)) ?_
  · have h' : ds.length = 3 := h.trans (by kernel_rfl)
    match ds, h' with
    | [_, _, _], _ => rfl
  · intro t ht
    have ht' : t ∈ Try.f6.params.toList := ht
    rw [Try.params6] at ht'
    simp at ht'
    rcases ht' with rfl | rfl | rfl <;> exact ⟨by kernel_rfl, of_decide_eq_true (by kernel_rfl)⟩
  intro W args ds p base hval0 hA0
  have hA : DataW.TrodAll enc Try.prog W 0 (fun _ => true) true Try.f6.params.toList args.toList ds p := hA0
  have hval : ∀ (j : Nat) t v, Try.f6.params[j]? = some t → args[j]? = some v → Value.okWide Try.prog W .any base t v := hval0
  rw [Try.params6] at hA hval
  obtain ⟨v0, vs0, d0, ds0, p0, q0, hargs, rfl, rfl, h0, r0⟩ := trodAll_cons hA
  obtain ⟨v1, vs1, d1, ds1, p1, q1, rfl, rfl, rfl, h1, r1⟩ := trodAll_cons r0
  obtain ⟨v2, vs2, d2, ds2, p2, q2, rfl, rfl, rfl, h2, r2⟩ := trodAll_cons r1
  obtain ⟨rfl, rfl, rfl⟩ := trodAll_nil r2
  obtain rfl : args = #[v0, v1, v2] := by cases args; simp_all
  clear hA0 hval0
  obtain ⟨wa, A, ca, la, wb, B, cb, lb, rfl, a1, a2, b1, b2⟩ := arg_pols (hval 0 _ _ rfl rfl) h0
  obtain ⟨At, ct, ts, rfl, m1, m2, m3⟩ := arg_slice Try.underlying30 op_ints (hval 1 _ _ rfl rfl) h1
  obtain ⟨now, rfl, _⟩ := arg_int Try.underlying3 (hval 2 _ _ rfl rfl) h2
  exact runion_any A B At ca cb la.length lb.length ct ts.length wa wb now la lb ts W rfl rfl rfl a2 b2 m3 a1 b1 (by unfold maxLen at m2; omega)
theorem over : Rows.retentionUnionRow.holds Try.pinned (OpenSpec.ofChange Rows.retentionUnionSpec) :=
  OpenClaim.holds_of_wide 6 Try.f6 rfl rfl rfl rfl rfl rfl rfl ⟨rfl, rfl, rfl, rfl, rfl⟩ rfl rfl rfl rfl rfl (by kernel_rfl) Try.func6 (by kernel_rfl)
    (of_decide_eq_true (by kernel_rfl)) (by unfold Func.isWrapper; first | (rw [if_pos (by decide +kernel)]; kernel_rfl) | (rw [if_neg (by decide +kernel)]; exact ⟨rfl, rfl⟩))
    (fun os started H enc _ => lifted os started H enc)
theorem proved : Rows.RetentionUnionSaid := over
#print axioms proved
end Go.Proofs.Ytnkmklnlaepdeaa.retentionUnion
