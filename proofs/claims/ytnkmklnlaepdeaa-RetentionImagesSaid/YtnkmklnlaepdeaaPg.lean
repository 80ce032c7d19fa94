/-
  The walks of Extents and pick (the reference).
  The walk of pick (the reference).
  The walk of Fold (the reference).
  Plain words: the error of a list of writes (canonical, fitting); the merged list. No program in sight.
-/
import Derived.Test.YtnkmklnlaepdeaaPe
import Derived.Deep.OwnRows
import Derived.Test.YtnkmklnlaepdeaaPa
set_option linter.unusedVariables false
set_option linter.unusedSimpArgs false
set_option linter.unusedSectionVars false
set_option linter.unnecessarySimpa false
namespace Go.Proofs.Ytnkmklnlaepdeaa
open Go.RowKit

def noMarks : List Bool := List.replicate 4096 false
theorem rep_getD (n i : Nat) : (List.replicate n false).getD i false = false := by
  rw [List.getD_eq_getElem?_getD, List.getElem?_replicate]
  split <;> rfl
theorem map_noMarks : noMarks.map Value.bool = List.replicate 4096 (Value.bool false) := List.map_replicate
def marksOf (v : Int) (m : List Bool) (x : Wr) : List Bool := if x.1 = v then addM m (x.2.1, x.2.2.length) else m
def marksL (l : List Wr) (v : Int) : List Bool := l.foldl (marksOf v) noMarks
theorem noMarks_len : noMarks.length = 4096 := List.length_replicate ..
theorem marksL_snoc (l : List Wr) (x : Wr) (v : Int) : marksL (l ++ [x]) v = marksOf v (marksL l v) x := by simp [marksL]
theorem marksL_len (l : List Wr) (v : Int) : (marksL l v).length = 4096 := by
  induction l using snocRec with
  | h0 => exact noMarks_len
  | h1 l x ih =>
    rw [marksL_snoc, marksOf]
    split
    · rw [addM_len, ih]
    · exact ih
theorem marksL_at (l : List Wr) (v : Int) (i : Nat) (hi : i < 4096) : (marksL l v).getD i false = (look l v i).isSome := by
  induction l using snocRec with
  | h0 =>
    have : (marksL [] v).getD i false = false := by
      exact rep_getD 4096 i
    rw [this]; rfl
  | h1 l x ih =>
    rw [marksL_snoc, marksOf, look_snoc]
    by_cases hv : x.1 = v
    · rw [if_pos hv]
      have hlen := marksL_len l v
      have e : (addM (marksL l v) (x.2.1, (x.2.2.length : Int))).getD i false = ((marksL l v).getD i false || decide (x.2.1 ≤ i ∧ (i : Int) < x.2.1 + x.2.2.length)) := by
        simp [addM, hlen, hi]
      rw [e, ih]
      by_cases hh : hits x v i
      · rw [if_pos hh]; simp [hh.2.1, hh.2.2]
      · rw [if_neg hh]
        have : ¬ (x.2.1 ≤ (i : Int) ∧ (i : Int) < x.2.1 + x.2.2.length) := fun h => hh ⟨hv, h.1, h.2⟩
        simp [this]
    · rw [if_neg hv, if_neg (fun h => hv h.1)]
      exact ih
theorem idxs_marks (l : List Wr) (v : Int) : idxs (marksL l v) = secsOf l v := by
  unfold idxs secsOf
  rw [marksL_len]
  refine congrArg _ ?_
  exact List.filter_congr fun i hi => marksL_at l v i (List.mem_range.1 hi)

theorem makeMarks (w : World) : (Instr.makeSlice 76 (.int .i64 4096) (.int .i64 4096)).run Try.prog w = .ok (.slice (some ⟨w.heap.size, 0, none⟩) 4096 4096) (w.alloc (.cells (noMarks.map Value.bool).toArray 4)) := by
  have h := run_make_row' (P := Try.prog) 76 4 (.bool false) 1 Try.underlying76 (by kernel_rfl) rfl .i64 .i64 4096 (by omega) (by omega) w
  have e : (noMarks.map Value.bool).toArray = madeCells #[.bool false] 4096 := by
    apply Array.ext'
    rw [toList_madeCells_one]
    exact map_noMarks
  rw [e]
  exact h

end Go.Proofs.Ytnkmklnlaepdeaa

namespace Go.Proofs.Ytnkmklnlaepdeaa
open Go.RowKit

def pickD (l : List Wr) (v s : Int) (j : Nat) : List Sec := (List.range j).map fun (k : Nat) => (look l v (s + k)).getD zsec
theorem pickD_succ (l : List Wr) (v s : Int) (j : Nat) : pickD l v s (j + 1) = pickD l v s j ++ [(look l v (s + j)).getD zsec] := by simp [pickD, List.range_succ]
theorem pickS_snoc (l : List Wr) (v : Int) (es : List Ext) (e : Ext) : pickS l v (es ++ [e]) = pickS l v es ++ [(v, e.1, pickD l v e.1 e.2.toNat)] := by simp [pickS, pickD]

end Go.Proofs.Ytnkmklnlaepdeaa

namespace Go.Proofs.Ytnkmklnlaepdeaa
open Go.RowKit

def errOf {α : Type} (f : α → Int) (l : List α) : Int := ((l.find? fun x => f x != 0).map f).getD 0
theorem errOf_zero {α : Type} {f : α → Int} {l : List α} (h : ∀ x ∈ l, f x = 0) : errOf f l = 0 := by
  have : l.find? (fun x => f x != 0) = none := List.find?_eq_none.2 (fun x hx => by simp [h x hx])
  simp [errOf, this]
theorem errOf_at {α : Type} {f : α → Int} {l : List α} {k : Nat} (hk : k < l.length) (h : ∀ x ∈ l.take k, f x = 0) (hn : f l[k] ≠ 0) : errOf f l = f l[k] := by
  have e : l = l.take k ++ l[k] :: l.drop (k + 1) := by rw [← List.drop_eq_getElem_cons hk, List.take_append_drop]
  have : l.find? (fun x => f x != 0) = some l[k] := by
    conv => lhs; rw [e]
    rw [List.find?_append, List.find?_eq_none.2 (fun x hx => by simp [h x hx]), Option.none_or, List.find?_cons_of_pos (by simpa using hn)]
  simp [errOf, this]
def most : List Int := List.replicate 8 4096
theorem most_len : most.length = 8 := List.length_replicate ..
theorem fits_placed (x : Wr) : fitsN most x = placedN x := by
  unfold fitsN placedN
  rw [most_len]
  by_cases h1 : x.1 < 0 ∨ x.1 ≥ 8
  · rw [if_pos (by simpa using h1), if_pos h1]
  · rw [if_neg (by simpa using h1), if_neg h1]
    by_cases h2 : x.2.2.length = 0
    · rw [if_pos h2, if_pos h2]
    · rw [if_neg h2, if_neg h2]
      have : most.getD x.1.toNat 0 = 4096 := by
        have hlt : x.1.toNat < 8 := by omega
        rw [List.getD_eq_getElem?_getD, most, List.getElem?_replicate, if_pos hlt]; rfl
      rw [this]
      by_cases h3 : x.2.1 < 0 ∨ x.2.1 > 4096 - x.2.2.length
      · rw [if_pos (by omega), if_pos h3]
      · rw [if_neg (by omega), if_neg h3]
/-- what Fold returns -/
def foldL (l : List Wr) : List Wr := if errOf placedN l = 0 then foldS l else []

end Go.Proofs.Ytnkmklnlaepdeaa

namespace Go.Proofs.Ytnkmklnlaepdeaa
open Go.RowKit

theorem placed_ok {x : Wr} (h : placedN x = 0) : 0 ≤ x.1 ∧ x.1 < 8 ∧ 0 < x.2.2.length ∧ 0 ≤ x.2.1 ∧ x.2.1 + x.2.2.length ≤ 4096 := by
  unfold placedN at h
  split at h
  · cases h
  · split at h
    · cases h
    · split at h
      · cases h
      · omega
/-- the error of a write behind another one -/
def stepErr (f : Wr → Int) (p : Option Wr × Wr) : Int :=
  if f p.2 ≠ 0 then f p.2 else match p.1 with
    | none => 0
    | some y => if p.2.1 < y.1 ∨ (p.2.1 = y.1 ∧ p.2.2.1 ≤ y.2.1 + y.2.2.length) then 3 else 0
def withPrev (l : List Wr) : List (Option Wr × Wr) := (none :: l.map some).zip l
theorem withPrev_len (l : List Wr) : (withPrev l).length = l.length := by simp [withPrev]
theorem withPrev_zero {l : List Wr} (h : 0 < l.length) : (withPrev l)[0]'(by rw [withPrev_len]; exact h) = (none, l[0]) := by
  simp [withPrev]
theorem withPrev_succ {l : List Wr} {k : Nat} (h : k + 1 < l.length) : (withPrev l)[k + 1]'(by rw [withPrev_len]; exact h) = (some l[k], l[k + 1]) := by
  simp [withPrev]
def chkN (f : Wr → Int) (l : List Wr) : Int := errOf (stepErr f) (withPrev l)
theorem stepErr_f {f : Wr → Int} {p : Option Wr × Wr} (h : stepErr f p = 0) : f p.2 = 0 := by
  unfold stepErr at h
  by_cases h1 : f p.2 = 0
  · exact h1
  · rw [if_pos h1] at h; exact absurd h h1
theorem takePrev {f : Wr → Int} {l : List Wr} {k : Nat} (hk : k < l.length) (h : ∀ x ∈ (withPrev l).take (k + 1), stepErr f x = 0) : f l[k] = 0 := by
  have hm : (withPrev l)[k]'(by rw [withPrev_len]; exact hk) ∈ (withPrev l).take (k + 1) := by
    rw [List.take_succ_eq_append_getElem (by rw [withPrev_len]; exact hk)]
    exact List.mem_append_right _ (List.mem_singleton.2 rfl)
  have h1 := stepErr_f (h _ hm)
  cases k with
  | zero => rw [withPrev_zero hk] at h1; exact h1
  | succ k => rw [withPrev_succ hk] at h1; exact h1
theorem takeSnoc {f : Wr → Int} {l : List Wr} {k : Nat} (hk : k < l.length) (p : Option Wr × Wr) (hp : (withPrev l)[k]'(by rw [withPrev_len]; exact hk) = p) (h : ∀ x ∈ (withPrev l).take k, stepErr f x = 0) (h0 : stepErr f p = 0) : ∀ x ∈ (withPrev l).take (k + 1), stepErr f x = 0 := by
  intro x hx
  rw [List.take_succ_eq_append_getElem (by rw [withPrev_len]; exact hk)] at hx
  rcases List.mem_append.1 hx with hx | hx
  · exact h x hx
  · rw [List.mem_singleton.1 hx, hp]; exact h0
theorem chk_at {f : Wr → Int} {l : List Wr} {k : Nat} (hk : k < l.length) (p : Option Wr × Wr) (hp : (withPrev l)[k]'(by rw [withPrev_len]; exact hk) = p) (h : ∀ x ∈ (withPrev l).take k, stepErr f x = 0) (h0 : stepErr f p ≠ 0) : chkN f l = stepErr f p := by
  have := errOf_at (f := stepErr f) (l := withPrev l) (k := k) (by rw [withPrev_len]; exact hk) h (by rw [hp]; exact h0)
  rw [chkN, this, hp]
theorem chk_zero {f : Wr → Int} {l : List Wr} (h : ∀ x ∈ (withPrev l).take l.length, stepErr f x = 0) : chkN f l = 0 := by
  refine errOf_zero ?_
  rw [List.take_of_length_le (by rw [withPrev_len]; exact Nat.le_refl _)] at h
  exact h

theorem cellAft {W w1 : World} {o : Obj} (hb : Below (W.alloc o).heap.size (W.alloc o) w1) {p : Addr} {v : Value} (h : W.cell? p = some v) : w1.cell? p = some v := by
  have hl := World.block_lt_of_cell? W p h
  exact (hb.cell (by simp; omega)).trans ((World.cell?_alloc_lt W o p hl).trans h)
theorem boxAft {W w1 : World} {cs : Array Value} {T : TypeId} (hb : Below (W.alloc (.cells cs T)).heap.size (W.alloc (.cells cs T)) w1) : w1.heap[W.heap.size]? = some (.cells cs T (0, 0)) :=
  (hb.block _ (by simp)).trans (heap_alloc_new _ _)
def mergeErr (a b : List Wr) : Int := if chkN placedN a ≠ 0 then chkN placedN a else chkN placedN b
def mergeL (a b : List Wr) : List Wr := if mergeErr a b = 0 then foldS (a ++ b) else []
theorem chk_all {f : Wr → Int} {l : List Wr} (h : chkN f l = 0) : ∀ x ∈ l, f x = 0 := by
  have hz : ∀ p ∈ withPrev l, stepErr f p = 0 := by
    intro p hp
    rcases Decidable.em (stepErr f p = 0) with h0 | h0
    · exact h0
    · exfalso
      unfold chkN errOf at h
      cases hf : (withPrev l).find? (fun x => stepErr f x != 0) with
      | none => have := List.find?_eq_none.1 hf p hp; simp at this; exact h0 this
      | some q =>
        rw [hf] at h
        have h1 := List.find?_some hf
        simp only [Option.map_some, Option.getD_some] at h
        rw [h] at h1
        simp at h1
  intro x hx
  obtain ⟨k, hk, rfl⟩ := List.mem_iff_getElem.1 hx
  exact takePrev hk (fun p hp => hz p (List.mem_of_mem_take hp))
end Go.Proofs.Ytnkmklnlaepdeaa
