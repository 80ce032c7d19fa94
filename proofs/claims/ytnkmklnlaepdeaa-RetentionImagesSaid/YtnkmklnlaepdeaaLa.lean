/-
  The walks of the laws CoalesceFolds and CoalesceMerges.
  The walk of the law CoalesceAssociates.
-/
import Derived.Test.YtnkmklnlaepdeaaSq
import Derived.Test.YtnkmklnlaepdeaaTa
import Derived.Test.YtnkmklnlaepdeaaPl
set_option linter.unusedVariables false
set_option linter.unusedSimpArgs false
set_option linter.unusedSectionVars false
set_option linter.unnecessarySimpa false
namespace Go.Proofs.Ytnkmklnlaepdeaa
open Go.RowKit Go.ChangeMaps

theorem fewX (A : Option Addr) (c : Nat) (l : List Wr) (w : World) (q : Bool) (hq : fewL l = q) (h1 : SlAt encWr w (Bl w.heap.size) A l) (hs : l.length ≤ 9223372036854775807) :
    Calls Try.prog 41 #[.slice A l.length c] w fun e w' => e = .returned (.bool q) ∧ w' = w := by
  subst hq
  exact few_any A c _ l w h1 hs
theorem few_len {l : List Wr} (h : fewL l = true) : l.length ≤ 40 := by
  simp [fewL] at h; exact h.1
theorem max_len {n c : Nat} (h1 : n ≤ c) (h2 : c ≤ maxLen) : n ≤ 9223372036854775807 := by unfold maxLen at h2; omega
end Go.Proofs.Ytnkmklnlaepdeaa

namespace Go.Proofs.Ytnkmklnlaepdeaa
open Go.RowKit Go.ChangeMaps

theorem errOf_conv2 {α : Type} {f : α → Int} {l : List α} (h : errOf f l = 0) : ∀ x ∈ l, f x = 0 := by
  intro p hp
  rcases Decidable.em (f p = 0) with h0 | h0
  · exact h0
  · exfalso
    unfold errOf at h
    cases hf : l.find? (fun x => f x != 0) with
    | none => have := List.find?_eq_none.1 hf p hp; simp at this; exact h0 this
    | some q =>
      rw [hf] at h
      have h1 := List.find?_some hf
      simp only [Option.map_some, Option.getD_some] at h
      rw [h] at h1
      simp at h1
theorem plOf_len (l : List Wr) : (plOf l).length ≤ 32768 := by
  unfold plOf
  rw [List.length_flatMap]
  have h : ∀ ns : List Nat, (ns.map fun (v : Nat) => ((secsOf l v).map fun s => ((v : Int), s)).length).sum ≤ ns.length * 4096 := by
    intro ns
    induction ns with
    | nil => simp
    | cons n ns ih =>
      have := secsOf_len l n
      simp only [List.map_cons, List.sum_cons, List.length_map, List.length_cons] at ih ⊢
      omega
  have := h (List.range 8)
  rw [List.length_range] at this
  omega
theorem foldS_len (l : List Wr) : (foldS l).length ≤ 32768 := by
  have h1 := (canonL_len (assoc l)).1
  have h2 : (assoc l).length = (plOf l).length := by rw [← assoc_places, List.length_map]
  have := plOf_len l
  unfold foldS
  omega
theorem mergeErr_folds (a b : List Wr) : mergeErr (foldS a) (foldS b) = 0 := by rw [mergeErr, chk_fold, if_neg (by simp), chk_fold]
theorem mergeL_folds {a b : List Wr} (ha : ∀ x ∈ a, placedN x = 0) (hb : ∀ x ∈ b, placedN x = 0) : mergeL (foldS a) (foldS b) = foldS (a ++ b) := by
  rw [mergeL, mergeErr_folds, if_pos rfl, fold_append ha hb]

end Go.Proofs.Ytnkmklnlaepdeaa
