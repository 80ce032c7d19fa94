/-
  Plain words: the levels of a tree, node by node. No program in sight.
-/
import Derived.Test.YthneomehfmjbkaaJh
set_option linter.unusedVariables false
set_option linter.unusedSimpArgs false
set_option linter.unusedSectionVars false
set_option linter.unnecessarySimpa false
namespace Go.Proofs.Ythneomehfmjbkaa

theorem ext0 {l m : List Int} (h : l.length = m.length) (h2 : ∀ j, l.getD j 0 = m.getD j 0) : l = m := by
  refine List.ext_getElem h fun j h3 h4 => ?_
  have := h2 j
  rw [List.getD_eq_getElem?_getD, List.getD_eq_getElem?_getD, List.getElem?_eq_getElem h3, List.getElem?_eq_getElem h4] at this
  exact this
theorem getD_set {v : List Int} {i : Nat} {d : Int} (hi : i < v.length) (j : Nat) : (v.set i d).getD j 0 = if j = i then d else v.getD j 0 := by
  rw [List.getD_eq_getElem?_getD, List.getD_eq_getElem?_getD, List.getElem?_set]
  by_cases h : i = j
  · subst h; rw [if_pos rfl, if_pos hi, if_pos rfl]; rfl
  · rw [if_neg h, if_neg (fun e => h e.symm)]
theorem upL_getD : ∀ (l : List Int) (j : Nat), (upL l).getD j 0 = if 2 * j + 1 < l.length then pairD (l.getD (2 * j) 0) (l.getD (2 * j + 1) 0) else l.getD (2 * j) 0
  | [], j => by simp [upL]
  | [x], 0 => by simp [upL]
  | [x], j + 1 => by
    rw [if_neg (by simp)]
    show ([x] : List Int).getD (j + 1) 0 = ([x] : List Int).getD (2 * j + 1 + 1) 0
    simp
  | x :: y :: l, 0 => by simp [upL]
  | x :: y :: l, j + 1 => by
    show (upL l).getD j 0 = _
    rw [upL_getD l j]
    show _ = if 2 * j + 2 + 1 < l.length + 2 then pairD ((x :: y :: l).getD (2 * j + 1 + 1) 0) ((x :: y :: l).getD (2 * j + 1 + 1 + 1) 0) else (x :: y :: l).getD (2 * j + 1 + 1) 0
    by_cases h : 2 * j + 1 < l.length
    · rw [if_pos h, if_pos (by omega)]; simp
    · rw [if_neg h, if_neg (by omega)]; simp
theorem upL_set {v : List Int} {i : Nat} (d : Int) (hi : i < v.length) : upL (v.set i d) = (upL v).set (i / 2) (if oth i < v.length then (if i % 2 = 0 then pairD d (v.getD (oth i) 0) else pairD (v.getD (oth i) 0) d) else d) := by
  refine ext0 (by rw [upL_len, List.length_set, List.length_set, upL_len]) fun j => ?_
  rw [upL_getD, List.length_set, getD_set hi, getD_set hi, getD_set (v := upL v) (by rw [upL_len]; omega), upL_getD]
  by_cases hj : j = i / 2
  · rw [if_pos hj]
    by_cases hp : i % 2 = 0
    · have e : 2 * j = i := by omega
      have ho : oth i = 2 * j + 1 := by unfold oth; rw [if_neg (by omega)]; omega
      rw [if_pos e, if_neg (show ¬ 2 * j + 1 = i by omega), ho, if_pos hp]
    · have e : 2 * j + 1 = i := by omega
      have ho : oth i = 2 * j := by unfold oth; rw [if_pos (by omega)]; omega
      rw [if_neg (show ¬ 2 * j = i by omega), if_pos e, ho, if_neg hp, if_pos (show 2 * j + 1 < v.length by omega), if_pos (show 2 * j < v.length by omega)]
  · rw [if_neg hj, if_neg (show ¬ 2 * j = i by omega), if_neg (show ¬ 2 * j + 1 = i by omega)]
theorem levels_ne (v : List Int) : levels v ≠ [] := by
  by_cases h : v.length ≤ 1
  · rw [levels_one h]; simp
  · rw [levels_up h]; simp
theorem levels_dig_len {l : List Sec} {m : Nat} (hl : l.length ≤ 100) (hm : 1 ≤ m) : (levels (digests l m)).length ≤ 102 := by
  have := levels_len (digests l m); rw [digests_len] at this; have := leavesN_le (n := l.length) hm; omega
end Go.Proofs.Ythneomehfmjbkaa
