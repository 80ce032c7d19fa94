/-
  Plain words: the error of a list of writes (canonical, fitting); the merged list. No program in sight.
-/
import Derived.Test.YtfahbhjlkdcnpaaPi
set_option linter.unusedVariables false
set_option linter.unusedSimpArgs false
set_option linter.unusedSectionVars false
set_option linter.unnecessarySimpa false
namespace Go.Proofs.Ytfahbhjlkdcnpaa
open Go.RowKit

theorem placed_ok {x : Wr} (h : placedN x = 0) : 0 ≤ x.1 ∧ x.1 < 8 ∧ 0 < x.2.2.length ∧ 0 ≤ x.2.1 ∧ x.2.1 + x.2.2.length ≤ 4096 := by
  unfold placedN at h
  split at h
  · cases h
  · split at h
    · cases h
    · split at h
      · cases h
      · omega
/-- the error of a write behind another one -/
def stepErr (f : Wr → Int) (p : Option Wr × Wr) : Int :=
  if f p.2 ≠ 0 then f p.2 else match p.1 with
    | none => 0
    | some y => if p.2.1 < y.1 ∨ (p.2.1 = y.1 ∧ p.2.2.1 ≤ y.2.1 + y.2.2.length) then 3 else 0
def withPrev (l : List Wr) : List (Option Wr × Wr) := (none :: l.map some).zip l
theorem withPrev_len (l : List Wr) : (withPrev l).length = l.length := by simp [withPrev]
theorem withPrev_zero {l : List Wr} (h : 0 < l.length) : (withPrev l)[0]'(by rw [withPrev_len]; exact h) = (none, l[0]) := by
  simp [withPrev]
theorem withPrev_succ {l : List Wr} {k : Nat} (h : k + 1 < l.length) : (withPrev l)[k + 1]'(by rw [withPrev_len]; exact h) = (some l[k], l[k + 1]) := by
  simp [withPrev]
def chkN (f : Wr → Int) (l : List Wr) : Int := errOf (stepErr f) (withPrev l)
theorem stepErr_f {f : Wr → Int} {p : Option Wr × Wr} (h : stepErr f p = 0) : f p.2 = 0 := by
  unfold stepErr at h
  by_cases h1 : f p.2 = 0
  · exact h1
  · rw [if_pos h1] at h; exact absurd h h1
theorem takePrev {f : Wr → Int} {l : List Wr} {k : Nat} (hk : k < l.length) (h : ∀ x ∈ (withPrev l).take (k + 1), stepErr f x = 0) : f l[k] = 0 := by
  have hm : (withPrev l)[k]'(by rw [withPrev_len]; exact hk) ∈ (withPrev l).take (k + 1) := by
    rw [List.take_succ_eq_append_getElem (by rw [withPrev_len]; exact hk)]
    exact List.mem_append_right _ (List.mem_singleton.2 rfl)
  have h1 := stepErr_f (h _ hm)
  cases k with
  | zero => rw [withPrev_zero hk] at h1; exact h1
  | succ k => rw [withPrev_succ hk] at h1; exact h1
theorem takeSnoc {f : Wr → Int} {l : List Wr} {k : Nat} (hk : k < l.length) (p : Option Wr × Wr) (hp : (withPrev l)[k]'(by rw [withPrev_len]; exact hk) = p) (h : ∀ x ∈ (withPrev l).take k, stepErr f x = 0) (h0 : stepErr f p = 0) : ∀ x ∈ (withPrev l).take (k + 1), stepErr f x = 0 := by
  intro x hx
  rw [List.take_succ_eq_append_getElem (by rw [withPrev_len]; exact hk)] at hx
  rcases List.mem_append.1 hx with hx | hx
  · exact h x hx
  · rw [List.mem_singleton.1 hx, hp]; exact h0
theorem chk_at {f : Wr → Int} {l : List Wr} {k : Nat} (hk : k < l.length) (p : Option Wr × Wr) (hp : (withPrev l)[k]'(by rw [withPrev_len]; exact hk) = p) (h : ∀ x ∈ (withPrev l).take k, stepErr f x = 0) (h0 : stepErr f p ≠ 0) : chkN f l = stepErr f p := by
  have := errOf_at (f := stepErr f) (l := withPrev l) (k := k) (by rw [withPrev_len]; exact hk) h (by rw [hp]; exact h0)
  rw [chkN, this, hp]
theorem chk_zero {f : Wr → Int} {l : List Wr} (h : ∀ x ∈ (withPrev l).take l.length, stepErr f x = 0) : chkN f l = 0 := by
  refine errOf_zero ?_
  rw [List.take_of_length_le (by rw [withPrev_len]; exact Nat.le_refl _)] at h
  exact h

theorem cellAft {W w1 : World} {o : Obj} (hb : Below (W.alloc o).heap.size (W.alloc o) w1) {p : Addr} {v : Value} (h : W.cell? p = some v) : w1.cell? p = some v := by
  have hl := World.block_lt_of_cell? W p h
  exact (hb.cell (by simp; omega)).trans ((World.cell?_alloc_lt W o p hl).trans h)
theorem boxAft {W w1 : World} {cs : Array Value} {T : TypeId} (hb : Below (W.alloc (.cells cs T)).heap.size (W.alloc (.cells cs T)) w1) : w1.heap[W.heap.size]? = some (.cells cs T (0, 0)) :=
  (hb.block _ (by simp)).trans (heap_alloc_new _ _)
def mergeErr (a b : List Wr) : Int := if chkN placedN a ≠ 0 then chkN placedN a else chkN placedN b
def mergeL (a b : List Wr) : List Wr := if mergeErr a b = 0 then foldS (a ++ b) else []
theorem chk_all {f : Wr → Int} {l : List Wr} (h : chkN f l = 0) : ∀ x ∈ l, f x = 0 := by
  have hz : ∀ p ∈ withPrev l, stepErr f p = 0 := by
    intro p hp
    rcases Decidable.em (stepErr f p = 0) with h0 | h0
    · exact h0
    · exfalso
      unfold chkN errOf at h
      cases hf : (withPrev l).find? (fun x => stepErr f x != 0) with
      | none => have := List.find?_eq_none.1 hf p hp; simp at this; exact h0 this
      | some q =>
        rw [hf] at h
        have h1 := List.find?_some hf
        simp only [Option.map_some, Option.getD_some] at h
        rw [h] at h1
        simp at h1
  intro x hx
  obtain ⟨k, hk, rfl⟩ := List.mem_iff_getElem.1 hx
  exact takePrev hk (fun p hp => hz p (List.mem_of_mem_take hp))
end Go.Proofs.Ytfahbhjlkdcnpaa
