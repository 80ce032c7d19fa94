/-
  The walks of extent.within and extent.Contains.
-/
import Derived.Test.YtnkmklnlaepdeaaGreatCb
import Derived.Test.YtnkmklnlaepdeaaGreatUs
set_option linter.unusedVariables false
set_option linter.unusedSimpArgs false
set_option linter.unusedSectionVars false
set_option linter.unnecessarySimpa false
namespace Go.Proofs.YtnkmklnlaepdeaaGreat
open Go.RowKit

def withinN (e : Ext) : Prop := 0 < e.2 ∧ e.1 < 4096 ∧ 0 < e.1 + e.2
/-- what within returns: the part of an extent in 0 to 4096 -/
def WithinRet (e0 : Ext) (w : World) (e : Ending) (w' : World) : Prop :=
  ∃ f t q, e = .returned (.tuple #[.int .i64 f, .int .i64 t, .bool q]) ∧ (q = true ↔ f < t) ∧ 0 ≤ f ∧ t ≤ 4096 ∧ (q = true → ∀ x : Int, (f ≤ x ∧ x < t) ↔ (0 ≤ x ∧ x < 4096 ∧ e0.1 ≤ x ∧ x < e0.1 + e0.2)) ∧ (q = false → ∀ x : Int, ¬ (0 ≤ x ∧ x < 4096 ∧ e0.1 ≤ x ∧ x < e0.1 + e0.2)) ∧ Below w.heap.size w w'
theorem WithinRet.mk {s n f t : Int} {q : Bool} {w w' : World} (hq : q = decide (f < t)) (hf : 0 ≤ f) (ht : t ≤ 4096) (h : ∀ x : Int, (f ≤ x ∧ x < t) ↔ (0 ≤ x ∧ x < 4096 ∧ s ≤ x ∧ x < s + n)) (hb : Below w.heap.size w w') :
    WithinRet (s, n) w (.returned (.tuple #[.int .i64 f, .int .i64 t, .bool q])) w' := by
  subst hq
  refine ⟨f, t, _, rfl, by simp, hf, ht, fun _ => h, fun hq x hx => ?_, hb⟩
  have := (h x).2 hx
  have h2 : ¬ f < t := by simpa using hq
  omega
end Go.Proofs.YtnkmklnlaepdeaaGreat
