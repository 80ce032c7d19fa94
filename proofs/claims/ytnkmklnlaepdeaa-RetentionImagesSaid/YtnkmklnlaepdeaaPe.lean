/-
  The walks of holds, Lookup (the reference).
  The walks of Add, List, Extents (the reference): marks of sectors, and their runs.
-/
import Derived.Test.YtnkmklnlaepdeaaMap
import Derived.Test.YtnkmklnlaepdeaaLaws
import Derived.Test.YtnkmklnlaepdeaaPa
import Derived.Test.YtnkmklnlaepdeaaBr
set_option linter.unusedVariables false
set_option linter.unusedSimpArgs false
set_option linter.unusedSectionVars false
set_option linter.unnecessarySimpa false
namespace Go.Proofs.Ytnkmklnlaepdeaa
open Go.RowKit

def HoldRet (x : Wr) (V S : Int) (w : World) (e : Ending) (w' : World) : Prop :=
  ∃ k q, e = .returned (.tuple #[.int .i64 k, .bool q]) ∧ ((q = true ∧ hits x V S ∧ k = S - x.2.1) ∨ (q = false ∧ ¬ hits x V S)) ∧ Below w.heap.size w w'
theorem HoldRet.yes {x : Wr} {V S k : Int} {w w' : World} (h : hits x V S) (hk : k = S - x.2.1) (hb : Below w.heap.size w w') : HoldRet x V S w (.returned (.tuple #[.int .i64 k, .bool true])) w' :=
  ⟨_, _, rfl, Or.inl ⟨rfl, h, hk⟩, hb⟩
theorem HoldRet.no {x : Wr} {V S k : Int} {w w' : World} (h : ¬ hits x V S) (hb : Below w.heap.size w w') : HoldRet x V S w (.returned (.tuple #[.int .i64 k, .bool false])) w' :=
  ⟨_, _, rfl, Or.inr ⟨rfl, h⟩, hb⟩

def LookRet (l : List Wr) (V S : Int) (w : World) (e : Ending) (w' : World) : Prop :=
  ∃ x0 x1 x2 x3 x4 x5 x6 x7 q, e = .returned (.tuple #[.agg #[.int .u8 x0, .int .u8 x1, .int .u8 x2, .int .u8 x3, .int .u8 x4, .int .u8 x5, .int .u8 x6, .int .u8 x7], .bool q]) ∧
    OkSec [x0, x1, x2, x3, x4, x5, x6, x7] ∧ q = (look l V S).isSome ∧ (look l V S).getD zsec = [x0, x1, x2, x3, x4, x5, x6, x7] ∧ Below w.heap.size w w'

/-- a whole sector stored -/
def set8 (w : World) (b : Nat) (x0 x1 x2 x3 x4 x5 x6 x7 : Value) : World :=
  ((((((((w.setCell ⟨b, 0, none⟩ x0).setCell ⟨b, 1, none⟩ x1).setCell ⟨b, 2, none⟩ x2).setCell ⟨b, 3, none⟩ x3).setCell ⟨b, 4, none⟩ x4).setCell ⟨b, 5, none⟩ x5).setCell ⟨b, 6, none⟩ x6).setCell ⟨b, 7, none⟩ x7)
theorem set8_row {w : World} {b : Nat} {T : TypeId} {c0 c1 c2 c3 c4 c5 c6 c7 : Value} (h : w.heap[b]? = some (.cells #[c0, c1, c2, c3, c4, c5, c6, c7] T (0, 0))) (x0 x1 x2 x3 x4 x5 x6 x7 : Value) :
    (set8 w b x0 x1 x2 x3 x4 x5 x6 x7).heap[b]? = some (.cells #[x0, x1, x2, x3, x4, x5, x6, x7] T (0, 0)) := by
  simp [set8, World.setCell, Array.getElem?_modify, h]
theorem set8_below {B b : Nat} {a w : World} (h : Below B a w) (hB : B ≤ b) (x0 x1 x2 x3 x4 x5 x6 x7 : Value) : Below B a (set8 w b x0 x1 x2 x3 x4 x5 x6 x7) :=
  (((((((h.setCell (p := ⟨b, 0, none⟩) hB _).setCell (p := ⟨b, 1, none⟩) hB _).setCell (p := ⟨b, 2, none⟩) hB _).setCell (p := ⟨b, 3, none⟩) hB _).setCell (p := ⟨b, 4, none⟩) hB _).setCell (p := ⟨b, 5, none⟩) hB _).setCell (p := ⟨b, 6, none⟩) hB _).setCell (p := ⟨b, 7, none⟩) hB _
def zrow : Array Value := #[.int .u8 0, .int .u8 0, .int .u8 0, .int .u8 0, .int .u8 0, .int .u8 0, .int .u8 0, .int .u8 0]
end Go.Proofs.Ytnkmklnlaepdeaa

namespace Go.Proofs.Ytnkmklnlaepdeaa
open Go.RowKit

def AddRet (m' : List Bool) (b : Nat) (w : World) (e : Ending) (w' : World) : Prop := (∃ v, e = .returned v) ∧ BRow w' b m' ∧ w.grownBy w' (some b)

theorem grown_set {w wr : World} {b k : Nat} {u : Value} (h : w.grownBy wr (some b)) : w.grownBy (wr.setCell ⟨b, k, none⟩ u) (some b) :=
  ⟨h.os, h.tape, h.output, by simpa [World.setCell] using h.size, fun i hi hne => (Below.heap_setCell wr _ u i (fun e => hne (by rw [e]))).trans (h.block i hi hne)⟩
theorem list_skip (m : List Bool) (k : Nat) (hk : k < m.length) (h : m[k] = false) : runsL (idxs (m.take (k + 1))) = runsL (idxs (m.take k)) := by
  rw [List.take_succ_eq_append_getElem hk, idxs_snoc, h]; simp
theorem list_step (m : List Bool) (k : Nat) (hk : k < m.length) (h : m[k] = true) : runsL (idxs (m.take (k + 1))) = runStep (runsL (idxs (m.take k))) k := by
  rw [List.take_succ_eq_append_getElem hk, idxs_snoc, h]
  simp only [if_true]
  rw [runsL_snoc, List.length_take, Nat.min_eq_left (by omega)]
theorem list_end (m : List Bool) (k : Nat) (hk : k < m.length) : (∃ s c, (runsL (idxs (m.take (k + 1)))).getLast? = some (s, c) ∧ s + c = ((k + 1 : Nat) : Int)) ↔ m[k] = true := by
  have := run_end (m.take (k + 1))
  rw [List.length_take, Nat.min_eq_left (by omega)] at this
  rw [this, List.take_succ_eq_append_getElem hk, List.getLast?_concat]
  simp
theorem list_bound (m : List Bool) (k : Nat) (hk : k ≤ m.length) : (∀ e ∈ runsL (idxs (m.take k)), 0 ≤ e.1 ∧ 0 < e.2 ∧ e.1 + e.2 ≤ k) ∧ (runsL (idxs (m.take k))).length ≤ k := by
  have h := runsL_bound k (idxs (m.take k)) (fun x hx => by
    have := idxs_mem _ x hx
    rw [List.length_take, Nat.min_eq_left hk] at this
    exact this)
  refine ⟨h.1, Nat.le_trans h.2 ?_⟩
  have := idxs_len (m.take k)
  rw [List.length_take, Nat.min_eq_left hk] at this
  exact this

end Go.Proofs.Ytnkmklnlaepdeaa
