/-
  Plain words: what a tree that is correct looks like; proofs, updates. No program in sight.
-/
import Derived.Test.YthneomehfmjbkaaHk
import Derived.Test.YthneomehfmjbkaaHo
set_option linter.unusedVariables false
set_option linter.unusedSimpArgs false
set_option linter.unusedSectionVars false
set_option linter.unnecessarySimpa false
namespace Go.Proofs.Ythneomehfmjbkaa

/-- the number of nodes of a level -/
def nk : Nat → Nat → Nat
  | n, 0 => n
  | n, k + 1 => nk ((n + 1) / 2) k
theorem nk_succ : ∀ (k n : Nat), nk n (k + 1) = (nk n k + 1) / 2
  | 0, n => rfl
  | k + 1, n => by
    show nk ((n + 1) / 2) (k + 1) = _
    rw [nk_succ k ((n + 1) / 2)]; rfl
theorem shapeB_ne {n : Nat} {l : List (List Int)} (h : shapeB n l = true) : l ≠ [] := by
  cases l with
  | nil => simp [shapeB] at h
  | cons x r => simp
theorem shapeB_get : ∀ {l : List (List Int)} {n : Nat}, shapeB n l = true → ∀ (k : Nat) (hk : k < l.length), l[k].length = nk n k ∧ (nk n k = 1 ↔ k + 1 = l.length)
  | [], n, h, k, hk => by simp at hk
  | [x], n, h, k, hk => by
    simp [shapeB] at h
    have : k = 0 := by simpa using hk
    subst this
    exact ⟨h.1, by simp [nk, h.2]⟩
  | x :: y :: r, n, h, 0, hk => by
    simp [shapeB] at h
    exact ⟨h.1.1, by simp [nk, h.1.2]⟩
  | x :: y :: r, n, h, k + 1, hk => by
    simp only [shapeB, Bool.and_eq_true] at h
    have ih := shapeB_get h.2 k (by simpa using hk)
    refine ⟨ih.1, ?_⟩
    show nk ((n + 1) / 2) k = 1 ↔ _
    rw [ih.2]; simp
theorem shapeB_pos : ∀ {l : List (List Int)} {n : Nat}, shapeB n l = true → 1 ≤ n
  | [], n, h => by simp [shapeB] at h
  | [x], n, h => by simp [shapeB] at h; omega
  | x :: y :: r, n, h => by
    simp only [shapeB, Bool.and_eq_true] at h
    have := shapeB_pos h.2; omega
theorem shapeB_len : ∀ {l : List (List Int)} {n k : Nat}, shapeB n l = true → n ≤ 2 ^ k → l.length ≤ k + 1
  | [], n, k, h, _ => by simp
  | [x], n, k, h, _ => by simp
  | x :: y :: r, n, 0, h, hn => by
    simp only [shapeB, Bool.and_eq_true] at h
    have h1 := shapeB_pos h.2
    have h2 : n ≠ 1 := by simpa using h.1.2
    have : n ≤ 1 := by simpa using hn
    omega
  | x :: y :: r, n, k + 1, h, hn => by
    simp only [shapeB, Bool.and_eq_true] at h
    have h3 : n ≤ 2 * 2 ^ k := by rw [Nat.pow_succ] at hn; omega
    have := shapeB_len (k := k) h.2 (by omega)
    simp at this ⊢; omega
theorem nk_pos : ∀ (k n : Nat), 1 ≤ n → 1 ≤ nk n k
  | 0, n, h => h
  | k + 1, n, h => nk_pos k ((n + 1) / 2) (by omega)
theorem nk_le : ∀ (k n : Nat), nk n k ≤ n
  | 0, n => Nat.le_refl _
  | k + 1, n => Nat.le_trans (nk_le k ((n + 1) / 2)) (by omega)
/-- what Check says -/
theorem checkT_ok {s lf : Int} {l : List (List Int)} (h : checkT (s, lf, l) = 0) : (1 ≤ s ∧ s ≤ 4096 ∧ 1 ≤ lf ∧ lf ≤ 4096) ∧ shapeB (leavesN s.toNat lf.toNat) l = true ∧ levels (l.headD []) = l := by
  unfold checkT at h
  by_cases h1 : limN s lf ≠ 0
  · rw [if_pos h1] at h; exact absurd h h1
  · rw [if_neg h1] at h
    by_cases h2 : shapeB (leavesN s.toNat lf.toNat) l = false
    · rw [if_pos h2] at h; cases h
    · rw [if_neg h2] at h
      by_cases h3 : levels (l.headD []) ≠ l
      · rw [if_pos h3] at h; cases h
      · refine ⟨?_, by simpa using h2, by simpa using h3⟩
        rcases limN_cases s lf with ⟨g, _⟩ | ⟨g, _⟩ | ⟨_, g⟩
        · exact absurd (by rw [g]; decide) h1
        · exact absurd (by rw [g]; decide) h1
        · exact g
/-- a tree that is correct: its levels -/
structure TOk (n m : Nat) (l : List (List Int)) : Prop where
  n1 : 1 ≤ n
  n2 : n ≤ 4096
  m1 : 1 ≤ m
  m2 : m ≤ 4096
  ne : 0 < l.length
  len : l.length ≤ 13
  at_ : ∀ (k : Nat) (hk : k < l.length), l[k].length = nk (leavesN n m) k ∧ (nk (leavesN n m) k = 1 ↔ k + 1 = l.length) ∧ 1 ≤ nk (leavesN n m) k ∧ nk (leavesN n m) k ≤ 4096
  lev : levels (l.headD []) = l
theorem checkT_TOk {s lf : Int} {l : List (List Int)} (h : checkT (s, lf, l) = 0) : ∃ n m : Nat, s = n ∧ lf = m ∧ TOk n m l := by
  obtain ⟨⟨h1, h2, h3, h4⟩, h5, h6⟩ := checkT_ok h
  refine ⟨s.toNat, lf.toNat, by omega, by omega, by omega, by omega, by omega, by omega, ?_, ?_, ?_, h6⟩
  · exact List.length_pos_iff.2 (shapeB_ne h5)
  · have := leavesN_le (n := s.toNat) (m := lf.toNat) (by omega)
    exact shapeB_len (k := 12) h5 (by omega)
  · intro k hk
    have ha := shapeB_get h5 k hk
    have hb := leavesN_le (n := s.toNat) (m := lf.toNat) (by omega)
    have hc := nk_le k (leavesN s.toNat lf.toNat)
    exact ⟨ha.1, ha.2, nk_pos _ _ (shapeB_pos h5), by omega⟩
theorem TOk.check {n m : Nat} {l : List (List Int)} (h : TOk n m l) (hs : shapeB (leavesN n m) l = true) : checkT ((n : Int), (m : Int), l) = 0 := by
  have h1 : limN (n : Int) (m : Int) = 0 := by
    have := h.n1; have := h.n2; have := h.m1; have := h.m2
    unfold limN; rw [if_neg (by omega), if_neg (by omega)]
  have hs' : shapeB (leavesN ((n : Int)).toNat ((m : Int)).toNat) l = true := hs
  simp only [checkT]
  rw [if_neg (by simpa using h1), if_neg (by rw [hs']; decide), if_neg (by simpa using h.lev)]
theorem rootT_ok {s lf : Int} {l : List (List Int)} (h : checkT (s, lf, l) = 0) (h0 : 0 < l.length) (h1 : 0 < (l[l.length - 1]'(by omega)).length) : rootT (s, lf, l) = (l[l.length - 1]'(by omega))[0]'h1 := by
  have hl : l.getLastD [] = l[l.length - 1]'(by omega) := by
    rw [List.getLastD_eq_getLast?, List.getLast?_eq_getElem?, List.getElem?_eq_getElem (by omega)]; rfl
  unfold rootT
  rw [if_neg (by simpa using h)]
  show (l.getLastD []).headD 0 = _
  rw [hl]
  generalize l[l.length - 1]'(by omega) = x at h1 ⊢
  cases x with
  | nil => simp at h1
  | cons y r => rfl
/-- the other node below the same node -/
def oth (i : Nat) : Nat := if i % 2 = 1 then i - 1 else i + 1
/-- the proof for a place of a level -/
def proofL : Nat → List (List Int) → List Int
  | _, [] => []
  | i, l :: r => (l[oth i]?).toList ++ proofL (i / 2) r
def proofE (t : Tr) (i : Int) : Int := if checkT t ≠ 0 then checkT t else if i < 0 ∨ ((t.2.2.headD []).length : Int) ≤ i then 2 else 0
def proofT (t : Tr) (i : Int) : List Int := if proofE t i = 0 then proofL i.toNat t.2.2 else []
theorem proofL_drop {i k : Nat} {l : List (List Int)} (hk : k < l.length) : proofL i (l.drop k) = (l[k][oth i]?).toList ++ proofL (i / 2) (l.drop (k + 1)) := by
  rw [List.drop_eq_getElem_cons hk]; rfl
theorem xor_oth : ∀ i : Nat, i < 4096 → Go.bits .xor .i64 (i : Int) 1 = ((oth i : Nat) : Int) := by
  have h : ∀ a b : Fin 64, Go.bits .xor .i64 ((64 * a.val + b.val : Nat) : Int) 1 = ((oth (64 * a.val + b.val) : Nat) : Int) := by decide +kernel
  intro i hi
  have h1 := h ⟨i / 64, by omega⟩ ⟨i % 64, by omega⟩
  have e : 64 * (i / 64) + i % 64 = i := by omega
  simp only [e] at h1
  exact h1
theorem oth_le (i : Nat) : oth i ≤ i + 1 := by unfold oth; split <;> omega
/-- whether an extent and a leaf have a sector in common -/
def inLeaf (lf : Nat) (st ct : Int) (i : Nat) : Bool := decide (0 < ct ∧ st < (i + 1 : Nat) * lf ∧ (i : Int) * lf < st + ct)
def updL (l : List Sec) (lf : Nat) (st ct : Int) (v : List Int) : List Int := (List.range v.length).map fun i => if inLeaf lf st ct i then digS (leafAt l lf i) else v.getD i 0
def updE (t : Tr) (l : List Sec) (e : Ext) : Int := if checkT t ≠ 0 then checkT t else if (l.length : Int) ≠ t.1 then 6 else if e.1 < 0 ∨ e.2 < 0 ∨ t.1 < e.1 ∨ t.1 - e.1 < e.2 then 2 else 0
def updT (t : Tr) (l : List Sec) (e : Ext) : Tr := if updE t l e = 0 then (t.1, t.2.1, levels (updL l t.2.1.toNat e.1 e.2 (t.2.2.headD []))) else zTree
/-- the first leaves are changed -/
def updTo (l : List Sec) (lf a j : Nat) (v : List Int) : List Int := (List.range v.length).map fun i => if a ≤ i ∧ i < a + j then digS (leafAt l lf i) else v.getD i 0
theorem updTo_len (l : List Sec) (lf a j : Nat) (v : List Int) : (updTo l lf a j v).length = v.length := by simp [updTo]
theorem updL_len (l : List Sec) (lf : Nat) (st ct : Int) (v : List Int) : (updL l lf st ct v).length = v.length := by simp [updL]
theorem updTo_zero (l : List Sec) (lf a : Nat) (v : List Int) : updTo l lf a 0 v = v := by
  refine List.ext_getElem (by simp [updTo]) fun i h1 h2 => ?_
  simp only [updTo, List.getElem_map, List.getElem_range]
  rw [if_neg (by omega), List.getD_eq_getElem?_getD, List.getElem?_eq_getElem h2]; rfl
theorem updTo_succ (l : List Sec) (lf a j : Nat) (v : List Int) : updTo l lf a (j + 1) v = (updTo l lf a j v).set (a + j) (digS (leafAt l lf (a + j))) := by
  refine List.ext_getElem (by simp [updTo]) fun i h1 h2 => ?_
  rw [List.getElem_set]
  simp only [updTo, List.getElem_map, List.getElem_range]
  by_cases h : a + j = i
  · subst h; rw [if_pos rfl, if_pos (by omega)]
  · rw [if_neg h]
    by_cases h3 : a ≤ i ∧ i < a + j
    · rw [if_pos h3, if_pos (by omega)]
    · rw [if_neg h3, if_neg (by omega)]
theorem updTo_all {l : List Sec} {lf a j : Nat} {st ct : Int} {v : List Int} (h : ∀ i, i < v.length → ((a ≤ i ∧ i < a + j) ↔ inLeaf lf st ct i = true)) : updTo l lf a j v = updL l lf st ct v := by
  refine List.ext_getElem (by simp [updTo, updL]) fun i h1 h2 => ?_
  have hi : i < v.length := by simpa [updTo] using h1
  simp only [updTo, updL, List.getElem_map, List.getElem_range]
  by_cases h3 : a ≤ i ∧ i < a + j
  · rw [if_pos h3, if_pos ((h i hi).1 h3)]
  · rw [if_neg h3, if_neg (fun h4 => h3 ((h i hi).2 h4))]
theorem upd_done {ss : List Sec} {m sn cn i : Nat} {v : List Int} (hm : 1 ≤ m) (h : (cn = 0 ∧ i = sn / m) ∨ (0 < cn ∧ i = (sn + cn - 1) / m + 1)) : updTo ss m (sn / m) (i - sn / m) v = updL ss m (sn : Int) (cn : Int) v := by
  refine updTo_all fun k hk => ?_
  have e1 : sn / m ≤ k ↔ sn < (k + 1) * m := by rw [← Nat.div_lt_iff_lt_mul (show 0 < m by omega)]; omega
  have e2 : k ≤ (sn + cn - 1) / m ↔ k * m ≤ sn + cn - 1 := Nat.le_div_iff_mul_le (show 0 < m by omega)
  have c1 : ((sn : Int) < ((k + 1 : Nat) : Int) * (m : Int)) ↔ sn < (k + 1) * m := by rw [← Int.natCast_mul]; omega
  have c2 : ((k : Int) * (m : Int) < (sn : Int) + (cn : Int)) ↔ k * m < sn + cn := by rw [← Int.natCast_mul]; omega
  unfold inLeaf
  rw [decide_eq_true_iff, c1, c2]
  rcases h with ⟨h1, rfl⟩ | ⟨h1, rfl⟩
  · omega
  · constructor
    · rintro ⟨g1, g2⟩
      have := e1.1 g1
      have := e2.1 (by omega)
      omega
    · rintro ⟨g1, g2, g3⟩
      have := e1.2 g2
      have := e2.2 (by omega)
      omega
theorem upd_lt {n m sn cn i : Nat} (hm : 1 ≤ m) (hc : 0 < cn) (hs : sn + cn ≤ n) (hi : i ≤ (sn + cn - 1) / m) : i < leavesN n m ∧ i * m < n := by
  have e2 : i * m ≤ sn + cn - 1 := (Nat.le_div_iff_mul_le (show 0 < m by omega)).1 hi
  refine ⟨(Nat.le_div_iff_mul_le (show 0 < m by omega)).2 ?_, by omega⟩
  rw [Nat.succ_mul]; omega
theorem upd_a {n m sn : Nat} (hm : 1 ≤ m) (hs : sn ≤ n) : sn / m ≤ leavesN n m := Nat.div_le_div_right (by omega)
theorem updTo_u64 {l : List Sec} {lf a j : Nat} {v : List Int} (h : ∀ x ∈ v, U64 x) : ∀ x ∈ updTo l lf a j v, U64 x := by
  intro x hx
  obtain ⟨i, hi, rfl⟩ := List.mem_map.1 hx
  have hi := List.mem_range.1 hi
  split
  · exact dig_range _
  · rw [List.getD_eq_getElem?_getD, List.getElem?_eq_getElem hi]
    exact h _ (List.getElem_mem _)
end Go.Proofs.Ythneomehfmjbkaa
