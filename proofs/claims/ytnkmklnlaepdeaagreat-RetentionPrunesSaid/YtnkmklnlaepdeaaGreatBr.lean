/-
  Rows of marks.
-/
import Derived.Test.YtnkmklnlaepdeaaGreatLaws
set_option linter.unusedVariables false
set_option linter.unusedSimpArgs false
set_option linter.unusedSectionVars false
set_option linter.unnecessarySimpa false
namespace Go.Proofs.YtnkmklnlaepdeaaGreat
open Go.RowKit

/-- a row of marks, whole -/
def BRow (w : World) (b : Nat) (m : List Bool) : Prop := w.heap[b]? = some (.cells (m.map Value.bool).toArray 4 (0, 0))
section
variable {w w' : World} {b k : Nat} {m : List Bool}
theorem BRow.lt (h : BRow w b m) : b < w.heap.size := (Array.getElem?_eq_some_iff.1 h).1
theorem BRow.cell (h : BRow w b m) (hk : k < m.length) : w.cell? ⟨b, k, none⟩ = some (.bool m[k]) := by
  rw [cell_of_row w b k _ _ _ h]
  simp [hk]
theorem BRow.frozen (h : BRow w b m) (k : Nat) : w.frozen? ⟨b, k, none⟩ = false := by
  unfold BRow at h; simp [World.frozen?, h]
theorem BRow.set (h : BRow w b m) (k : Nat) (q : Bool) : BRow (w.setCell ⟨b, k, none⟩ (.bool q)) b (m.set k q) := by
  unfold BRow at h ⊢
  simp [World.setCell, Array.getElem?_modify, h]
theorem BRow.blk (h : BRow w b m) (hk : w'.heap[b]? = w.heap[b]?) : BRow w' b m := by unfold BRow at h ⊢; rw [hk]; exact h
end
def addTo (m : List Bool) (lo k : Nat) : List Bool := m.mapIdx fun i x => x || decide (lo ≤ i ∧ i < k)
def addM (m : List Bool) (e : Ext) : List Bool := m.mapIdx fun i x => x || decide (e.1 ≤ i ∧ (i : Int) < e.1 + e.2)
theorem addTo_len (m : List Bool) (lo k : Nat) : (addTo m lo k).length = m.length := by simp [addTo]
theorem addM_len (m : List Bool) (e : Ext) : (addM m e).length = m.length := by simp [addM]
theorem addTo_lo (m : List Bool) (lo : Nat) : addTo m lo lo = m := by
  refine List.ext_getElem (by simp [addTo]) fun i h1 h2 => ?_
  have : ¬ (lo ≤ i ∧ i < lo) := by omega
  simp [addTo]; omega
theorem addTo_succ (m : List Bool) (lo k : Nat) (h : lo ≤ k) : (addTo m lo k).set k true = addTo m lo (k + 1) := by
  refine List.ext_getElem (by simp [addTo]) fun i h1 h2 => ?_
  rw [List.getElem_set]
  split
  · subst_vars; simp [addTo]; omega
  · simp only [addTo, List.getElem_mapIdx]
    congr 1
    rw [decide_eq_decide]; omega
theorem addTo_hi (m : List Bool) (e : Ext) (lo k : Nat) (h : ∀ i : Nat, i < m.length → ((lo ≤ i ∧ i < k) ↔ (e.1 ≤ i ∧ (i : Int) < e.1 + e.2))) : addTo m lo k = addM m e := by
  refine List.ext_getElem (by simp [addTo, addM]) fun i h1 h2 => ?_
  simp only [addTo, addM, List.getElem_mapIdx]
  congr 1
  rw [decide_eq_decide]
  exact h i (by simpa [addTo] using h1)
theorem addM_none (m : List Bool) (e : Ext) (h : ∀ i : Nat, i < m.length → ¬ (e.1 ≤ i ∧ (i : Int) < e.1 + e.2)) : addM m e = m := by
  refine List.ext_getElem (by simp [addM]) fun i h1 h2 => ?_
  have := h i h2
  simp [addM]; omega
end Go.Proofs.YtnkmklnlaepdeaaGreat
