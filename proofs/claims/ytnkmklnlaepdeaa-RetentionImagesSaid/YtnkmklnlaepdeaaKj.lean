/-
  snapshot.Apply: the walk.
-/
import Derived.Test.YtnkmklnlaepdeaaSn2
set_option linter.unusedVariables false
set_option linter.unusedSimpArgs false
set_option linter.unusedSectionVars false
set_option linter.unnecessarySimpa false
namespace Go.Proofs.Ytnkmklnlaepdeaa
open Go.RowKit Go.Shelf
attribute [local go_sem] Oper.semAt_some

theorem errOf_conv36 {α : Type} {f : α → Int} {l : List α} (h : errOf f l = 0) : ∀ x ∈ l, f x = 0 := by
  intro x hx
  unfold errOf at h
  cases hq : l.find? (fun x => f x != 0) with
  | none =>
    have := List.find?_eq_none.1 hq x hx
    simpa using this
  | some y =>
    rw [hq] at h
    have := List.find?_some hq
    simp at this h
    exact absurd h this
theorem applyErr_ok {im : Img} {l : List Wr} (h : applyErr im l = 0) : sizesN (lens im) = 0 ∧ ∀ x ∈ l, fitsN (lens im) x = 0 := by
  unfold applyErr at h
  by_cases h1 : sizesN (lens im) = 0
  · rw [if_neg (by simp [h1])] at h
    exact ⟨h1, errOf_conv36 h⟩
  · rw [if_pos h1] at h; exact absurd h h1
end Go.Proofs.Ytnkmklnlaepdeaa
