/-
  The walks of the reference's Sizes, Check, Merge.
  The walk of the reference's Merge.
-/
import Derived.Test.YtnkmklnlaepdeaaPg
set_option linter.unusedVariables false
set_option linter.unusedSimpArgs false
set_option linter.unusedSectionVars false
set_option linter.unnecessarySimpa false
namespace Go.Proofs.Ytnkmklnlaepdeaa
open Go.RowKit

def badSz (n : Int) : Bool := decide (n < 1) || decide (4096 < n)
def sizesN (sz : List Int) : Int := if sz.length < 1 ∨ 8 < sz.length then 6 else if sz.any badSz = true then 2 else 0
theorem fits_ok {sz : List Int} {x : Wr} (hz : sizesN sz = 0) (h : fitsN sz x = 0) : 0 ≤ x.1 ∧ x.1 < 8 ∧ 0 < x.2.2.length ∧ 0 ≤ x.2.1 ∧ x.2.1 + x.2.2.length ≤ 4096 := by
  unfold sizesN at hz
  split at hz
  · cases hz
  · split at hz
    · cases hz
    · rename_i h1 h2
      unfold fitsN at h
      split at h
      · cases h
      · split at h
        · cases h
        · split at h
          · cases h
          · rename_i k1 k2 k3
            have hlt : x.1.toNat < sz.length := by omega
            have hm : sz.getD x.1.toNat 0 ∈ sz := by
              rw [List.getD_eq_getElem?_getD, List.getElem?_eq_getElem hlt]; exact List.getElem_mem hlt
            have hb : badSz (sz.getD x.1.toNat 0) = false := by
              have := h2
              rw [List.any_eq_true] at this
              cases hq : badSz (sz.getD x.1.toNat 0) with
              | false => rfl
              | true => exact absurd ⟨_, hm, hq⟩ this
            simp only [badSz, Bool.or_eq_false_iff, decide_eq_false_iff_not] at hb
            omega
/-- what Check returns -/
def chkS (l : List Wr) (sz : List Int) : Int := if sizesN sz ≠ 0 then sizesN sz else chkN (fitsN sz) l

end Go.Proofs.Ytnkmklnlaepdeaa

namespace Go.Proofs.Ytnkmklnlaepdeaa
open Go.RowKit

theorem fitsN_most : fitsN most = placedN := funext fits_placed
theorem sizes_most : sizesN most = 0 := by decide
theorem chkS_most (l : List Wr) : chkS l most = chkN placedN l := by rw [chkS, sizes_most, if_neg (by simp), fitsN_most]
theorem errOf_all {l : List Wr} (h : ∀ x ∈ l, placedN x = 0) : errOf placedN l = 0 := errOf_zero h

end Go.Proofs.Ytnkmklnlaepdeaa
