/-
  For every policy, snapshots, pinned numbers and present time the law RetentionPrunes returns true: Prune returns the snapshots, numbers and errors of the reference. No condition.
-/
import Derived.Test.YtnkmklnlaepdeaaGreatZr
import Derived.Test.YtnkmklnlaepdeaaGreatRowG
import Derived.Test.YtnkmklnlaepdeaaGreatRowQ
import Derived.Test.YtnkmklnlaepdeaaGreatArr
set_option linter.unusedVariables false
set_option linter.unusedSimpArgs false
set_option linter.unusedSectionVars false
set_option linter.unnecessarySimpa false
namespace Go.Proofs.YtnkmklnlaepdeaaGreat.retentionPrunes
open Go.ChangeShapes Go.WideShapes Go.ChangeAt Go.RowKit Go.Proofs.YtnkmklnlaepdeaaGreat

set_option maxRecDepth 100000 in
theorem arg_two {H : Type} {enc : TypeId × Value → H} {W : World} {base b0 : Nat} {spare : Nat → Bool} {held : Bool} {r : Reach} {v : Value} {d : DataW H} {p : List MemPlace} (hv : Value.okWide Tryz.prog W r b0 31 v) (h : DataW.Trod enc Tryz.prog W base spare held 31 v d p) :
    ∃ A ca la B cb lb, v = .agg #[.slice A (la : List Int).length ca, .slice B (lb : List Int).length cb] ∧ (la.length ≤ ca ∧ ca ≤ maxLen) ∧ SlAt encInt W (Bl W.heap.size) A la ∧ (lb.length ≤ cb ∧ cb ≤ maxLen) ∧ SlAt encInt W (Bl W.heap.size) B lb := by
  obtain ⟨cs, y, rfl, hr⟩ := arg_array Tryz.underlying31 (opens_array Tryz.underlying31 (by kernel_rfl) op_ints) hv h
  obtain ⟨x, z, c1, c2, rfl, rfl, hx, hz⟩ := arr2 hr
  obtain ⟨A, ca, rfl, a1, a2, a3⟩ := hx
  obtain ⟨B, cb, rfl, b1, b2, b3⟩ := hz
  exact ⟨A, ca, x, B, cb, z, rfl, ⟨a1, a2⟩, a3, ⟨b1, b2⟩, b3⟩
set_option maxRecDepth 100000 in
theorem lifted (os : Os) (started : os.Started) (H : Type) (enc : TypeId × Value → H) :
    ReturnsInHanded {} Tryz.checked os 3 .any (Rows.retentionPrunesSpec.pre6 enc Tryz.prog Tryz.f3 Rows.retentionPrunesRow.domain false) (Rows.retentionPrunesSpec.post enc Tryz.prog Tryz.f3 false true false false) := by
  refine law_lifted (C := Tryz.checked) (tb := 4) own started (by kernel_rfl) Tryz.func3 laidOut rfl (fun ds h => ?_) ?_ (by kernel_rfl) Tryz.underlying4 (ChangeSpec.witness6 (enc := enc) (C := Tryz.checked) false ⟨#[], #[.agg #[.int .i64 0, .slice none 0 0], .agg #[.slice none 0 0, .slice none 0 0], .agg #[.slice none 0 0, .slice none 0 0]], []⟩ 8 (by kernel_rfl) (by kernel_rfl) (by kernel_rfl) (by kernel_rfl)) ?_
  · have h' : ds.length = 3 := h.trans (by kernel_rfl)
    match ds, h' with
    | [_, _, _], _ => rfl
  · intro t ht
    have ht' : t ∈ Tryz.f3.params.toList := ht
    rw [Tryz.params3] at ht'
    simp at ht'
    rcases ht' with rfl | rfl | rfl <;> exact ⟨by kernel_rfl, of_decide_eq_true (by kernel_rfl)⟩
  intro W args ds p base hval0 hA0
  have hA : DataW.TrodAll enc Tryz.prog W 0 (fun _ => true) true Tryz.f3.params.toList args.toList ds p := hA0
  have hval : ∀ (j : Nat) t v, Tryz.f3.params[j]? = some t → args[j]? = some v → Value.okWide Tryz.prog W .any base t v := hval0
  rw [Tryz.params3] at hA hval
  obtain ⟨v0, vs0, d0, ds0, p0, q0, hargs, rfl, rfl, h0, r0⟩ := trodAll_cons hA
  obtain ⟨v1, vs1, d1, ds1, p1, q1, rfl, rfl, rfl, h1, r1⟩ := trodAll_cons r0
  obtain ⟨v2, vs2, d2, ds2, p2, q2, rfl, rfl, rfl, h2, r2⟩ := trodAll_cons r1
  obtain ⟨rfl, rfl, rfl⟩ := trodAll_nil r2
  obtain rfl : args = #[v0, v1, v2] := by cases args; simp_all
  clear hA0 hval0
  obtain ⟨nw, A, c, l, rfl, k1, k2, k3, _⟩ := arg_pol (hval 0 _ _ rfl rfl) h0
  obtain ⟨B, cb, im, D, cd, sl, rfl, ⟨b1, b2, b3⟩, d1, d2, d3⟩ := arg_sns (hval 1 _ _ rfl rfl) h1
  obtain ⟨X0, c0, pin, X1, c1, xs, rfl, x1, x2, x3, x4⟩ := arg_two (hval 2 _ _ rfl rfl) h2
  exact rprunes_any A B D X0 X1 c cb cd c0 c1 l.length im.length sl.length pin.length xs.length nw l im sl pin xs W rfl rfl rfl rfl rfl k3 b3 d3 x2 x4 (by unfold maxLen at k2; omega) ⟨b1, b2⟩ ⟨d1, d2⟩ (by have := x1.2; have := x1.1; unfold maxLen at *; omega) (by have := x3.2; have := x3.1; unfold maxLen at *; omega)
theorem over : Rows.retentionPrunesRow.holds Tryz.pinned (OpenSpec.ofChange Rows.retentionPrunesSpec) :=
  OpenClaim.holds_of_wide 3 Tryz.f3 rfl rfl rfl rfl rfl rfl rfl ⟨rfl, rfl, rfl, rfl, rfl⟩ rfl rfl rfl rfl rfl (by kernel_rfl) Tryz.func3 (by kernel_rfl)
    (of_decide_eq_true (by kernel_rfl)) (by unfold Func.isWrapper; first | (rw [if_pos (by decide +kernel)]; kernel_rfl) | (rw [if_neg (by decide +kernel)]; exact ⟨rfl, rfl⟩))
    (fun os started H enc _ => lifted os started H enc)
theorem proved : Rows.RetentionPrunesSaid := over
#print axioms proved
end Go.Proofs.YtnkmklnlaepdeaaGreat.retentionPrunes
