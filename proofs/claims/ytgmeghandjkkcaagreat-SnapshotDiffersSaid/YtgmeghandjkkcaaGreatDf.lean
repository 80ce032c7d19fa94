/-
  The laws of a run: each item keeps its image; a deletion never makes the cost greater: the walk.
-/
import Derived.Test.YtgmeghandjkkcaaGreatDc
import Derived.Test.YtgmeghandjkkcaaGreatLw
set_option linter.unusedVariables false
set_option linter.unusedSimpArgs false
set_option linter.unusedSectionVars false
set_option linter.unnecessarySimpa false
namespace Go.Proofs.YtgmeghandjkkcaaGreat
open Go.RowKit Go.Shelf
attribute [local go_sem] Oper.semAt_some

/-- the place of an item, its image -/
theorem RInv.at_ {k : Nat} {im : Img} {l : List Snp} {all : List Kpt} (h : RInv k im l all) {j : Nat} (hj : j < all.length) (hjl : j < l.length) :
    l[j].1 = all[j].1 ∧ l[j].2.1 = all[j].2.2 ∧ findE (im, l) all[j].1 = 0 ∧ findN (im, l) all[j].1 = j ∧ atL im (l.drop j) = all[j].2.1 := by
  have hk : l[j].1 = all[j].1 := by
    have := congrArg (fun m => (m[j]?).map (·.1)) h.key
    simpa [keyS, hj, hjl] using this
  have hk2 : l[j].2.1 = all[j].2.2 := by
    have := congrArg (fun m => (m[j]?).map (·.2)) h.key
    simpa [keyS, hj, hjl] using this
  obtain ⟨f1, f2⟩ := find_at h.ok hjl
  rw [hk] at f1 f2
  refine ⟨hk, hk2, f1, f2, ?_⟩
  have h1 := imgs_at (im := im) hjl
  rw [h.ims] at h1
  simpa [hj] using h1.symm
theorem RInv.image {k : Nat} {im : Img} {l : List Snp} {all : List Kpt} (h : RInv k im l all) {j : Nat} (hj : j < all.length) :
    findE (im, l) all[j].1 = 0 ∧ sImage (im, l) all[j].1 = all[j].2.1 := by
  have hjl : j < l.length := by rw [h.len2]; exact hj
  obtain ⟨_, _, h3, h4, h5⟩ := h.at_ hj hjl
  exact ⟨h3, by unfold sImage; rw [if_pos h3, h4]; exact h5⟩
theorem RInv.ilen {k : Nat} {im : Img} {l : List Snp} {all : List Kpt} (h : RInv k im l all) {j : Nat} (hj : j < all.length) : (all[j].2.1).length = im.length := by
  have hjl : j < l.length := by rw [h.len2]; exact hj
  obtain ⟨_, _, _, _, h5⟩ := h.at_ hj hjl
  have h2 := atL_lens' (im := im) (l := l.drop j) (fun x hx => h.fits x (List.mem_of_mem_drop hx))
  rw [h5] at h2
  have := congrArg List.length h2
  simpa [Proofs.YtgmeghandjkkcaaGreat.lens] using this
theorem RInv.check {k : Nat} {im : Img} {l : List Snp} {all : List Kpt} (h : RInv k im l all) : snE (im, l) = 0 := h.ok
end Go.Proofs.YtgmeghandjkkcaaGreat
