/-
  snapshot.Revert; results read as data.
-/
import Derived.Test.YtnkmklnlaepdeaaGreatSn4
set_option linter.unusedVariables false
set_option linter.unusedSimpArgs false
set_option linter.unusedSectionVars false
set_option linter.unnecessarySimpa false
namespace Go.Proofs.YtnkmklnlaepdeaaGreat
open Go.RowKit Go.Shelf
attribute [local go_sem] Oper.semAt_some

/-- snapshots as a call returns them, read as data -/
def SnRdE (s : Sns) (n : Int) (w : World) (e : Ending) (w' : World) : Prop :=
  ∃ B vc D dc, e = .returned (.tuple #[.agg #[.slice B s.1.length vc, .slice D s.2.length dc], .int .i64 n]) ∧ (s.1.length ≤ vc ∧ vc ≤ maxLen ∧ SlAt (encSl encSec) w' (Nw w.heap.size w'.heap.size) B s.1) ∧ (s.2.length ≤ dc ∧ dc ≤ maxLen ∧ SlAt encSnp w' (Nw w.heap.size w'.heap.size) D s.2) ∧ Below w.heap.size w w'
theorem SnRetE.rd {s : Sns} {n : Int} {w : World} {e : Ending} {w' : World} (h : SnRetE s n w e w') : SnRdE s n w e w' := by
  obtain ⟨B, vc, D, dc, mid, he, hs, hb⟩ := h
  obtain ⟨h1, h2⟩ := hs.read
  exact ⟨B, vc, D, dc, he, h1, h2, hb⟩
theorem SlAt.set2 {α : Type} {E : Enc α} {w : World} {S : Nat → Prop} {A : Option Addr} {l : List α} (h : SlAt E w S A l) {b : Nat} (hne : ∀ g, S g → g ≠ b) (u v : Value) : SlAt E ((w.setCell ⟨b, 0, none⟩ u).setCell ⟨b, 1, none⟩ v) S A l :=
  h.blk (fun g hg => (heap_setCell_other _ _ _ _ (hne g hg)).trans (heap_setCell_other _ _ _ _ (hne g hg)))
theorem setLast_take {l : List Snp} {k : Nat} (hk : k < l.length) (f : List Wr → List Wr) : setLast (l.take (k + 1)) f = (l.set k (l[k].1, l[k].2.1, f l[k].2.2)).take (k + 1) := by
  have h1 : (l.take (k + 1)).length = k + 1 := by rw [List.length_take]; omega
  rw [setLast_set (by omega)]
  have e : (l.take (k + 1)).length - 1 = k := by omega
  simp only [e]
  rw [List.take_set]
  simp
end Go.Proofs.YtnkmklnlaepdeaaGreat
