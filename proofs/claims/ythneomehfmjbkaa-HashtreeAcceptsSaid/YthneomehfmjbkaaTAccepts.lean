/-
  For every list of sectors, choice of a leaf and other sectors the law HashtreeAccepts returns true: Verify accepts the proof of a leaf with its sectors, and other data exactly if the tree with this data has the same root. No condition.
-/
import Derived.Test.YthneomehfmjbkaaJt
import Derived.Test.YthneomehfmjbkaaArr
import Derived.Test.YthneomehfmjbkaaRow
set_option linter.unusedVariables false
set_option linter.unusedSimpArgs false
set_option linter.unusedSectionVars false
set_option linter.unnecessarySimpa false
namespace Go.Proofs.Ythneomehfmjbkaa.hashtreeAccepts
open Go.ChangeShapes Go.WideShapes Go.ChangeAt Go.RowKit Go.Proofs.Ythneomehfmjbkaa

theorem op_pick : Opens Try.prog 71 (encArr 2 encU8) := opens_array Try.underlying71 (by kernel_rfl) op_u8
set_option maxRecDepth 100000 in
theorem lifted (os : Os) (started : os.Started) (H : Type) (enc : TypeId × Value → H) :
    ReturnsInHanded {} Try.checked os 11 .any (Rows.hashtreeAcceptsSpec.pre6 enc Try.prog Try.f11 Rows.hashtreeAcceptsRow.domain false) (Rows.hashtreeAcceptsSpec.post enc Try.prog Try.f11 false true false false) := by
  refine law_lifted (C := Try.checked) (tb := 4) own started (by kernel_rfl) Try.func11 laidOut rfl (fun ds h => ?_) ?_ (by kernel_rfl) Try.underlying4 (ChangeSpec.witness6 (enc := enc) (C := Try.checked) false ⟨#[], #[.slice none 0 0, .agg #[.int .u8 0, .int .u8 0], .slice none 0 0], []⟩ 8 (by kernel_rfl) (by kernel_rfl) (by kernel_rfl) (by kernel_rfl)) ?_
  · have h' : ds.length = 3 := h.trans (by kernel_rfl)
    match ds, h' with
    | [_, _, _], _ => rfl
  · intro t ht
    have ht' : t ∈ Try.f11.params.toList := ht
    rw [Try.params11] at ht'
    simp at ht'
    rcases ht' with rfl | rfl | rfl <;> exact ⟨by kernel_rfl, of_decide_eq_true (by kernel_rfl)⟩
  intro W args ds p base hval0 hA0
  have hA : DataW.TrodAll enc Try.prog W 0 (fun _ => true) true Try.f11.params.toList args.toList ds p := hA0
  have hval : ∀ (j : Nat) t v, Try.f11.params[j]? = some t → args[j]? = some v → Value.okWide Try.prog W .any base t v := hval0
  rw [Try.params11] at hA hval
  obtain ⟨v0, vs0, d0, ds0, p0, q0, hargs, rfl, rfl, h0, r0⟩ := trodAll_cons hA
  obtain ⟨v1, vs1, d1, ds1, p1, q1, rfl, rfl, rfl, h1, r1⟩ := trodAll_cons r0
  obtain ⟨v2, vs2, d2, ds2, p2, q2, rfl, rfl, rfl, h2, r2⟩ := trodAll_cons r1
  obtain ⟨rfl, rfl, rfl⟩ := trodAll_nil r2
  obtain rfl : args = #[v0, v1, v2] := by cases args; simp_all
  clear hA0 hval0
  obtain ⟨A, c, l, rfl, k1, k2, k3⟩ := arg_slice Try.underlying22 op_secs (hval 0 _ _ rfl rfl) h0
  obtain ⟨cs, ps, rfl, hr⟩ := arg_array Try.underlying71 op_pick (hval 1 _ _ rfl rfl) h1
  obtain ⟨x, y, s1, s2, rfl, rfl, ⟨rfl, hx⟩, ⟨rfl, hy⟩⟩ := arr2 hr
  obtain ⟨A2, c2, data, rfl, m1, m2, m3⟩ := arg_slice Try.underlying22 op_secs (hval 2 _ _ rfl rfl) h2
  exact accepts_any A A2 c c2 l data x y W k3 k1 k2 hx hy m3 m1 m2
theorem over : Rows.hashtreeAcceptsRow.holds Try.pinned (OpenSpec.ofChange Rows.hashtreeAcceptsSpec) :=
  OpenClaim.holds_of_wide 11 Try.f11 rfl rfl rfl rfl rfl rfl rfl ⟨rfl, rfl, rfl, rfl, rfl⟩ rfl rfl rfl rfl rfl (by kernel_rfl) Try.func11 (by kernel_rfl)
    (of_decide_eq_true (by kernel_rfl)) (by unfold Func.isWrapper; first | (rw [if_pos (by decide +kernel)]; kernel_rfl) | (rw [if_neg (by decide +kernel)]; exact ⟨rfl, rfl⟩))
    (fun os started H enc _ => lifted os started H enc)
theorem proved : Rows.HashtreeAcceptsSaid := over
#print axioms proved
end Go.Proofs.Ythneomehfmjbkaa.hashtreeAccepts
