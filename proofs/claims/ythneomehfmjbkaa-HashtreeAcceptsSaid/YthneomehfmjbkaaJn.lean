/-
  Plain words: the proof of a leaf leads to the root of the tree with its digest. No program in sight.
-/
import Derived.Test.YthneomehfmjbkaaJi
import Derived.Test.YthneomehfmjbkaaJe
set_option linter.unusedVariables false
set_option linter.unusedSimpArgs false
set_option linter.unusedSectionVars false
set_option linter.unnecessarySimpa false
namespace Go.Proofs.Ythneomehfmjbkaa

theorem ext0 {l m : List Int} (h : l.length = m.length) (h2 : ∀ j, l.getD j 0 = m.getD j 0) : l = m := by
  refine List.ext_getElem h fun j h3 h4 => ?_
  have := h2 j
  rw [List.getD_eq_getElem?_getD, List.getD_eq_getElem?_getD, List.getElem?_eq_getElem h3, List.getElem?_eq_getElem h4] at this
  exact this
theorem getD_set {v : List Int} {i : Nat} {d : Int} (hi : i < v.length) (j : Nat) : (v.set i d).getD j 0 = if j = i then d else v.getD j 0 := by
  rw [List.getD_eq_getElem?_getD, List.getD_eq_getElem?_getD, List.getElem?_set]
  by_cases h : i = j
  · subst h; rw [if_pos rfl, if_pos hi, if_pos rfl]; rfl
  · rw [if_neg h, if_neg (fun e => h e.symm)]
theorem upL_getD : ∀ (l : List Int) (j : Nat), (upL l).getD j 0 = if 2 * j + 1 < l.length then pairD (l.getD (2 * j) 0) (l.getD (2 * j + 1) 0) else l.getD (2 * j) 0
  | [], j => by simp [upL]
  | [x], 0 => by simp [upL]
  | [x], j + 1 => by
    rw [if_neg (by simp)]
    show ([x] : List Int).getD (j + 1) 0 = ([x] : List Int).getD (2 * j + 1 + 1) 0
    simp
  | x :: y :: l, 0 => by simp [upL]
  | x :: y :: l, j + 1 => by
    show (upL l).getD j 0 = _
    rw [upL_getD l j]
    show _ = if 2 * j + 2 + 1 < l.length + 2 then pairD ((x :: y :: l).getD (2 * j + 1 + 1) 0) ((x :: y :: l).getD (2 * j + 1 + 1 + 1) 0) else (x :: y :: l).getD (2 * j + 1 + 1) 0
    by_cases h : 2 * j + 1 < l.length
    · rw [if_pos h, if_pos (by omega)]; simp
    · rw [if_neg h, if_neg (by omega)]; simp
theorem upL_set {v : List Int} {i : Nat} (d : Int) (hi : i < v.length) : upL (v.set i d) = (upL v).set (i / 2) (if oth i < v.length then (if i % 2 = 0 then pairD d (v.getD (oth i) 0) else pairD (v.getD (oth i) 0) d) else d) := by
  refine ext0 (by rw [upL_len, List.length_set, List.length_set, upL_len]) fun j => ?_
  rw [upL_getD, List.length_set, getD_set hi, getD_set hi, getD_set (v := upL v) (by rw [upL_len]; omega), upL_getD]
  by_cases hj : j = i / 2
  · rw [if_pos hj]
    by_cases hp : i % 2 = 0
    · have e : 2 * j = i := by omega
      have ho : oth i = 2 * j + 1 := by unfold oth; rw [if_neg (by omega)]; omega
      rw [if_pos e, if_neg (show ¬ 2 * j + 1 = i by omega), ho, if_pos hp]
    · have e : 2 * j + 1 = i := by omega
      have ho : oth i = 2 * j := by unfold oth; rw [if_pos (by omega)]; omega
      rw [if_neg (show ¬ 2 * j = i by omega), if_pos e, ho, if_neg hp, if_pos (show 2 * j + 1 < v.length by omega), if_pos (show 2 * j < v.length by omega)]
  · rw [if_neg hj, if_neg (show ¬ 2 * j = i by omega), if_neg (show ¬ 2 * j + 1 = i by omega)]
/-- the root -/
def topL (v : List Int) : Int := ((levels v).getLastD []).headD 0
theorem topL_one {v : List Int} (h : v.length ≤ 1) : topL v = v.headD 0 := by unfold topL; rw [levels_one h]; rfl
theorem levels_ne (v : List Int) : levels v ≠ [] := by
  by_cases h : v.length ≤ 1
  · rw [levels_one h]; simp
  · rw [levels_up h]; simp
theorem topL_up {v : List Int} (h : ¬ v.length ≤ 1) : topL v = topL (upL v) := by
  unfold topL
  rw [levels_up h]
  have := levels_ne (upL v)
  cases hq : levels (upL v) with
  | nil => exact absurd hq this
  | cons x r => rfl
theorem verL_proof : ∀ (k n : Nat) (v : List Int) (i : Nat) (d : Int), n ≤ k → v.length = n → i < n → verL n i d (proofL i (levels v)) = some (topL (v.set i d), [])
  | 0, n, v, i, d, hk, hn, hi => by omega
  | k + 1, n, v, i, d, hk, hn, hi => by
    by_cases h1 : n ≤ 1
    · have hi0 : i = 0 := by omega
      subst hi0
      rw [levels_one (by omega), verL_one h1]
      have : v[oth 0]? = none := List.getElem?_eq_none (by unfold oth; simp; omega)
      show some (d, (v[oth 0]?).toList ++ proofL (0 / 2) []) = _
      rw [this, topL_one (by rw [List.length_set]; omega)]
      cases v with
      | nil => simp at hn; omega
      | cons x r => rfl
    · have hl : ¬ v.length ≤ 1 := by omega
      rw [levels_up hl, topL_up (by rw [List.length_set]; exact hl), upL_set d (by omega)]
      show verL n i d ((v[oth i]?).toList ++ proofL (i / 2) (levels (upL v))) = _
      have hu := upL_len v
      by_cases ho : oth i < n
      · have hov : oth i < v.length := by omega
        rw [List.getElem?_eq_getElem hov]
        show verL n i d (v[oth i] :: proofL (i / 2) (levels (upL v))) = _
        rw [verL_cons h1 ho, if_pos hov]
        have e : v.getD (oth i) 0 = v[oth i] := by rw [List.getD_eq_getElem?_getD, List.getElem?_eq_getElem hov]; rfl
        rw [e]
        exact verL_proof k ((n + 1) / 2) (upL v) (i / 2) _ (by omega) (by omega) (by omega)
      · have hov : ¬ oth i < v.length := by omega
        rw [List.getElem?_eq_none (by omega)]
        show verL n i d (proofL (i / 2) (levels (upL v))) = _
        rw [verL_no h1 ho, if_neg hov]
        exact verL_proof k ((n + 1) / 2) (upL v) (i / 2) _ (by omega) (by omega) (by omega)
theorem rootT_top {n m : Int} {v : List Int} (h : checkT (n, m, levels v) = 0) : rootT (n, m, levels v) = topL v := by
  unfold rootT; rw [if_neg (by rw [h]; decide)]; rfl
/-- what Verify says to the proof of a leaf -/
theorem accept_law {n m i : Nat} {v : List Int} {data : List Sec} (root : Int) (hn : 1 ≤ n ∧ n ≤ 4096) (hm : 1 ≤ m ∧ m ≤ 4096) (hv : v.length = leavesN n m) (hi : i < leavesN n m) :
    verT root (n : Int) (m : Int) (i : Int) data (proofL i (levels v)) = (decide (data.length = min m (n - i * m)) && topL (v.set i (digS data)) == root) := by
  have hlim : limN (n : Int) (m : Int) = 0 := by unfold limN; rw [if_neg (by omega), if_neg (by omega)]
  have him : i * m < n := by
    have := leaf_lt (n := n) hm.1 hi
    omega
  have e1 : ((n : Int)).toNat = n := by omega
  have e2 : ((m : Int)).toNat = m := by omega
  have e3 : ((i : Int)).toNat = i := by omega
  have e4 : (i : Int) * (m : Int) = ((i * m : Nat) : Int) := by simp
  unfold verT verE
  rw [e1, e2, e3, verL_proof (leavesN n m) (leavesN n m) v i _ (Nat.le_refl _) hv hi, hlim, e4]
  have hd : decide ((data.length : Int) = min (m : Int) ((n : Int) - ((i * m : Nat) : Int))) = decide (data.length = min m (n - i * m)) := by
    rw [decide_eq_decide]; omega
  rw [hd]
  have h2 : decide ((i : Int) < ((leavesN n m : Nat) : Int)) = true := by simp; omega
  have h3 : decide ((0 : Int) ≤ (i : Int)) = true := by simp
  rw [h2, h3]
  simp [verEnd]
/-- a leaf replaced: its digest is replaced -/
theorem digests_chg {l data : List Sec} {m i : Nat} (hm : 1 ≤ m) (hi : i < leavesN l.length m) (hd : data.length = min m (l.length - i * m)) : digests (chg l (i * m) data) m = (digests l m).set i (digS data) := by
  have him := leaf_lt (n := l.length) hm hi
  have hfit : i * m + data.length ≤ l.length := by omega
  refine List.ext_getElem (by rw [List.length_set, digests_len, digests_len, chg_len]) fun j h1 h2 => ?_
  rw [List.getElem_set]
  simp only [digests, List.getElem_map, List.getElem_range]
  by_cases h : i = j
  · subst h
    rw [if_pos rfl]
    congr 1
    refine List.ext_getElem (by rw [leafAt_len, chg_len]; omega) fun k h3 h4 => ?_
    simp only [leafAt, List.getElem_take, List.getElem_drop]
    rw [chg_at (by omega), if_pos (by omega), List.getD_eq_getElem?_getD]
    have : i * m + k - i * m = k := by omega
    rw [this, List.getElem?_eq_getElem h4]; rfl
  · rw [if_neg h]
    congr 1
    refine leafAt_chg hfit ?_
    unfold inLeaf
    rw [decide_eq_false_iff_not]
    intro hc
    have e1 : ((j + 1 : Nat) : Int) * (m : Int) = ((j * m + m : Nat) : Int) := by rw [← Int.natCast_mul, Nat.succ_mul]
    have e2 : (j : Int) * (m : Int) = ((j * m : Nat) : Int) := by simp
    rw [e1, e2] at hc
    rcases Nat.lt_or_gt_of_ne h with h5 | h5
    · have := Nat.mul_le_mul_right m h5
      rw [Nat.succ_mul] at this
      omega
    · have := Nat.mul_le_mul_right m h5
      rw [Nat.succ_mul] at this
      omega
theorem digests_self {l : List Sec} {m i : Nat} (hi : i < leavesN l.length m) : (digests l m).set i (digS (leafAt l m i)) = digests l m := by
  refine List.ext_getElem (by rw [List.length_set]) fun j h1 h2 => ?_
  rw [List.getElem_set]
  by_cases h : i = j
  · subst h; rw [if_pos rfl]; simp [digests]
  · rw [if_neg h]
/-- the sectors before a leaf, others, and those behind it -/
theorem chg_concat {l data : List Sec} {a : Nat} (h : a + data.length ≤ l.length) : l.take a ++ data ++ l.drop (a + data.length) = chg l a data := by
  refine List.ext_getElem (by simp [chg_len]; omega) fun j h1 h2 => ?_
  rw [chg_len] at h2
  rw [chg_at h2]
  by_cases h3 : j < a
  · rw [if_neg (by omega), List.getElem_append_left (by simp; omega), List.getElem_append_left (by simp; omega)]; simp
  · by_cases h4 : j < a + data.length
    · rw [if_pos (by omega), List.getElem_append_left (by simp; omega), List.getElem_append_right (by simp; omega), List.getD_eq_getElem?_getD, List.getElem?_eq_getElem (by omega)]
      simp; congr 1; omega
    · rw [if_neg (by omega), List.getElem_append_right (by simp; omega)]
      simp only [List.length_append, List.length_take, List.getElem_drop]
      congr 1; omega
end Go.Proofs.Ythneomehfmjbkaa
