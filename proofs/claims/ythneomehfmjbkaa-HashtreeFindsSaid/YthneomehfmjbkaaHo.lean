/-
  Plain words: the shape of a tree's levels, as the code and the reference test it.
-/
import Derived.Test.YthneomehfmjbkaaHs
set_option linter.unusedVariables false
set_option linter.unusedSimpArgs false
set_option linter.unusedSectionVars false
set_option linter.unnecessarySimpa false
namespace Go.Proofs.Ythneomehfmjbkaa

/-- the code's test: the number of nodes that the next level must have; 0 behind the last -/
def shC : Nat → List (List Int) → Bool
  | n, [] => n == 0
  | n, l :: r => l.length == n && (n != 1 || r.isEmpty) && shC (((if n = 1 then 0 else n) + 1) / 2) r
theorem shC_eq : ∀ (ls : List (List Int)) (n : Nat), 1 ≤ n → shC n ls = shapeB n ls
  | [], n, h => by
    have : ¬ n = 0 := by omega
    simp [shC, shapeB, this]
  | [l], n, h => by
    by_cases h1 : n = 1
    · subst h1; simp [shC, shapeB]
    · have h2 : (n + 1) / 2 ≠ 0 := by omega
      have h3 : ((n + 1) / 2 == 0) = false := by simpa using h2
      have h4 : (n == 1) = false := by simpa using h1
      rw [shapeB, shC, if_neg h1, shC, h3, h4]; simp
  | l :: m :: r, n, h => by
    by_cases h1 : n = 1
    · subst h1; simp [shC, shapeB]
    · have ih := shC_eq (m :: r) ((n + 1) / 2) (by omega)
      rw [shapeB, shC, if_neg h1, ih]
      simp
/-- the reference's test: whether the level before had one node -/
def shR : Nat → Bool → List (List Int) → Bool
  | _, p, [] => p
  | n, p, l :: r => l.length == n && !p && shR ((n + 1) / 2) (l.length == 1) r
theorem shR_eq : ∀ (ls : List (List Int)) (n : Nat), shR n false ls = shapeB n ls
  | [], n => rfl
  | [l], n => by
    by_cases h : l.length = n
    · subst h; simp [shR, shapeB]
    · have h3 : (l.length == n) = false := by simpa using h
      rw [shapeB, shR, h3]; rfl
  | l :: m :: r, n => by
    have ih := shR_eq (m :: r) ((n + 1) / 2)
    rw [shapeB, shR]
    by_cases h : l.length = n
    · subst h
      by_cases h1 : l.length = 1
      · rw [h1]; simp [shR]
      · have h2 : (l.length == 1) = false := by simp [h1]
        rw [h2, ih]; simp [h1]
    · have h3 : (l.length == n) = false := by simpa using h
      rw [h3]; rfl
end Go.Proofs.Ythneomehfmjbkaa
