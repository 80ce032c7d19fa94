/-
  For all clones, every list of writes, number and time the law CloneReplicates returns true: Replicate and Take return the results or errors of the reference. No condition.
-/
import Derived.BigQuiet
import Derived.Test.YtgndgkjefgjamaaGreatZ01
import Derived.Test.YtgndgkjefgjamaaGreatZ02
import Derived.Test.YtgndgkjefgjamaaGreatZ03
import Derived.Test.YtgndgkjefgjamaaGreatZ04
import Derived.Test.YtgndgkjefgjamaaGreatZ05
import Derived.Test.YtgndgkjefgjamaaGreatZ06
import Derived.Test.YtgndgkjefgjamaaGreatZ07
import Derived.Test.YtgndgkjefgjamaaGreatZ08
import Derived.Test.YtgndgkjefgjamaaGreatZ09
import Derived.Test.YtgndgkjefgjamaaGreatZ10
import Derived.Test.YtgndgkjefgjamaaGreatZ11
import Derived.Test.YtgndgkjefgjamaaGreatZ12
import Derived.Test.YtgndgkjefgjamaaGreatZ13
import Derived.Test.YtgndgkjefgjamaaGreatZ14
import Derived.Test.YtgndgkjefgjamaaGreatZ15
import Derived.Test.YtgndgkjefgjamaaGreatZ16
import Derived.Test.YtgndgkjefgjamaaGreatZ17
import Derived.Test.YtgndgkjefgjamaaGreatZ18
import Derived.Test.YtgndgkjefgjamaaGreatZ21
import Derived.Test.YtgndgkjefgjamaaGreatZ22
import Derived.Test.YtgndgkjefgjamaaGreatZ24
import Derived.Test.YtgndgkjefgjamaaGreatZ25
set_option linter.unusedVariables false
set_option linter.unusedSimpArgs false
set_option linter.unusedSectionVars false
set_option linter.unnecessarySimpa false
namespace Go.Proofs.YtgndgkjefgjamaaGreat.cloneReplicates
open Go.ChangeShapes Go.WideShapes Go.ChangeAt Go.RowKit Go.Proofs.YtgndgkjefgjamaaGreat

set_option maxRecDepth 100000 in
theorem lifted (os : Os) (started : os.Started) (H : Type) (enc : TypeId × Value → H) :
    ReturnsInHanded {} Tryz.checked os 6 .any (Rows.cloneReplicatesSpec.pre6 enc Tryz.prog Tryz.f6 Rows.cloneReplicatesRow.domain false) (Rows.cloneReplicatesSpec.post enc Tryz.prog Tryz.f6 false true false false) := by
  refine law_lifted (C := Tryz.checked) (tb := 4) own started (by kernel_rfl) Tryz.func6 laidOut rfl (fun ds h => ?_) ?_ (by kernel_rfl) Tryz.underlying4 (ChangeSpec.witness6 (enc := enc) (C := Tryz.checked) false ⟨#[], #[.agg #[.slice none 0 0, .slice none 0 0, .slice none 0 0], .slice none 0 0, .agg #[.int .i64 0, .int .i64 0]], []⟩ 8 (by kernel_rfl) (by kernel_rfl) (by kernel_rfl) (by kernel_rfl)) ?_
  · have h' : ds.length = 3 := h.trans (by kernel_rfl)
    match ds, h' with
    | [_, _, _], _ => rfl
  · intro t ht
    have ht' : t ∈ Tryz.f6.params.toList := ht
    rw [Tryz.params6] at ht'
    simp at ht'
    rcases ht' with rfl | rfl | rfl <;> exact ⟨by kernel_rfl, of_decide_eq_true (by kernel_rfl)⟩
  intro W args ds p base hval0 hA0
  have hA : DataW.TrodAll enc Tryz.prog W 0 (fun _ => true) true Tryz.f6.params.toList args.toList ds p := hA0
  have hval : ∀ (j : Nat) t v, Tryz.f6.params[j]? = some t → args[j]? = some v → Value.okWide Tryz.prog W .any base t v := hval0
  rw [Tryz.params6] at hA hval
  obtain ⟨v0, vs0, d0, ds0, p0, q0, hargs, rfl, rfl, h0, r0⟩ := trodAll_cons hA
  obtain ⟨v1, vs1, d1, ds1, p1, q1, rfl, rfl, rfl, h1, r1⟩ := trodAll_cons r0
  obtain ⟨v2, vs2, d2, ds2, p2, q2, rfl, rfl, rfl, h2, r2⟩ := trodAll_cons r1
  obtain ⟨rfl, rfl, rfl⟩ := trodAll_nil r2
  obtain rfl : args = #[v0, v1, v2] := by cases args; simp_all
  clear hA0 hval0
  obtain ⟨x, A, c, D, d, G, g, rfl, hx⟩ := arg_cls (hval 0 _ _ rfl rfl) h0
  obtain ⟨L, lc, ws, rfl, j1, j2, j3⟩ := arg_slice Tryz.underlying64 op_wrs (hval 1 _ _ rfl rfl) h1
  obtain ⟨cs, y, rfl, hy⟩ := arg_struct Tryz.underlying66 op_num37 (hval 2 _ _ rfl rfl) h2
  obtain ⟨he, i1, i2⟩ := ext_cs hy
  obtain rfl : cs = #[.int .i64 y.1, .int .i64 y.2] := Array.toList_inj.1 (by simpa using he)
  exact replicates37_any x A D G L c d g lc ws.length ws y.1 y.2 W hx rfl j3 (by unfold maxLen at j2; omega) ⟨i1, i2⟩
theorem over : Rows.cloneReplicatesRow.holds Tryz.pinned (OpenSpec.ofChange Rows.cloneReplicatesSpec) :=
  OpenClaim.holds_of_wide 6 Tryz.f6 rfl rfl rfl rfl rfl rfl rfl ⟨rfl, rfl, rfl, rfl, rfl⟩ rfl rfl rfl rfl rfl (by kernel_rfl) Tryz.func6 (by kernel_rfl)
    (of_decide_eq_true (by kernel_rfl)) (by unfold Func.isWrapper; first | (rw [if_pos (by decide +kernel)]; kernel_rfl) | (rw [if_neg (by decide +kernel)]; exact ⟨rfl, rfl⟩))
    (fun os started H enc _ => lifted os started H enc)
theorem proved : Rows.CloneReplicatesSaid := over
#print axioms proved
end Go.Proofs.YtgndgkjefgjamaaGreat.cloneReplicates
