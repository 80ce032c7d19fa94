/-
  The bounds of a step's write.
-/
import Derived.Test.YtgmeghandjkkcaaGreatDb
set_option linter.unusedVariables false
set_option linter.unusedSimpArgs false
set_option linter.unusedSectionVars false
set_option linter.unnecessarySimpa false
namespace Go.Proofs.YtgmeghandjkkcaaGreat

theorem data_bnd (x : Stp) (h : OkStp x) : 0 ≤ (dataW x).1 ∧ (dataW x).1 < 2 ∧ 0 ≤ (dataW x).2.1 ∧ (dataW x).2.1 < 5 ∧ (dataW x).2.2.length ≤ 5 := by
  obtain ⟨k, v, s, c, f⟩ := x
  obtain ⟨_, h1, h2, h3, h4⟩ := h
  simp only [U8] at h1 h2 h3 h4
  unfold dataW stK stN
  simp only [List.length_map, List.length_range]
  by_cases hv : v % 2 = 0
  · rw [if_pos hv]
    have hb : 0 ≤ c % (5 - s % 5) ∧ c % (5 - s % 5) < 5 - s % 5 := ⟨Int.emod_nonneg _ (by omega), Int.emod_lt_of_pos _ (by omega)⟩
    refine ⟨by omega, by omega, by omega, by omega, by omega⟩
  · rw [if_neg hv]
    have hb : 0 ≤ c % (3 - s % 3) ∧ c % (3 - s % 3) < 3 - s % 3 := ⟨Int.emod_nonneg _ (by omega), Int.emod_lt_of_pos _ (by omega)⟩
    refine ⟨by omega, by omega, by omega, by omega, by omega⟩
end Go.Proofs.YtgmeghandjkkcaaGreat
