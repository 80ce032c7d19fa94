/-
  Plain words: the leaves that Differ finds are those with other sectors, if no two nodes collide. No program in sight.
-/
import Derived.Test.YthneomehfmjbkaaJm
import Derived.Test.YthneomehfmjbkaaJw
set_option linter.unusedVariables false
set_option linter.unusedSimpArgs false
set_option linter.unusedSectionVars false
set_option linter.unnecessarySimpa false
namespace Go.Proofs.Ythneomehfmjbkaa

/-- the sectors below a node -/
def span (l : List Sec) (W i : Nat) : List Sec := (l.drop (i * W)).take W
theorem span_two (l : List Sec) (W i : Nat) : span l (2 * W) i = span l W (2 * i) ++ span l W (2 * i + 1) := by
  unfold span
  have e : 2 * W = W + W := by omega
  have e2 : i * (W + W) = 2 * i * W := by rw [Nat.mul_add, Nat.mul_comm 2 i, Nat.mul_assoc, Nat.two_mul, Nat.mul_add]
  rw [e, List.take_add, e2, List.drop_drop]
  congr 3
  exact (Nat.succ_mul (2 * i) W).symm
theorem span_len {l l' : List Sec} (h : l.length = l'.length) (W i : Nat) : (span l W i).length = (span l' W i).length := by simp [span, h]
theorem span_halves {l l' : List Sec} (h : l.length = l'.length) {W i : Nat} (he : span l (2 * W) i = span l' (2 * W) i) : span l W (2 * i) = span l' W (2 * i) ∧ span l W (2 * i + 1) = span l' W (2 * i + 1) := by
  rw [span_two, span_two] at he
  exact List.append_inj he (span_len h _ _)
theorem lev_up : ∀ (k : Nat) (v : List Int), k + 1 < (levels v).length → (levels v).getD (k + 1) [] = upL ((levels v).getD k [])
  | k, v, h => by
    by_cases h1 : v.length ≤ 1
    · rw [levels_one h1] at h; simp at h
    · rw [levels_up h1] at h ⊢
      cases k with
      | zero =>
        have := levels_head (upL v)
        show (levels (upL v)).getD 0 [] = upL v
        cases hq : levels (upL v) with
        | nil => exact absurd hq (levels_ne _)
        | cons x r => rw [hq] at this; exact this
      | succ k =>
        show (levels (upL v)).getD (k + 1) [] = upL ((levels (upL v)).getD k [])
        exact lev_up k (upL v) (by simp at h; omega)
theorem lev_zero (v : List Int) : (levels v).getD 0 [] = v := by
  have := levels_head v
  cases hq : levels v with
  | nil => exact absurd hq (levels_ne _)
  | cons x r => rw [hq] at this; exact this
theorem lev_same : ∀ (k : Nat) (v v' : List Int), v.length = v'.length → k < (levels v).length → ((levels v).getD k []).length = ((levels v').getD k []).length ∧ k < (levels v').length
  | 0, v, v', h, _ => by rw [lev_zero, lev_zero]; exact ⟨h, List.length_pos_iff.2 (levels_ne _)⟩
  | k + 1, v, v', h, hk => by
    by_cases h1 : v.length ≤ 1
    · rw [levels_one h1] at hk; simp at hk
    · have h1' : ¬ v'.length ≤ 1 := by omega
      rw [levels_up h1] at hk ⊢
      rw [levels_up h1']
      have := lev_same k (upL v) (upL v') (by rw [upL_len, upL_len, h]) (by simp at hk; omega)
      exact ⟨this.1, by simp; exact this.2⟩
/-- equal sectors: equal digests -/
theorem same_span {l l' : List Sec} {m : Nat} (h : l.length = l'.length) : ∀ (k i : Nat), k < (levels (digests l m)).length → i < ((levels (digests l m)).getD k []).length → span l (m * 2 ^ k) i = span l' (m * 2 ^ k) i → df (levels (digests l m)) (levels (digests l' m)) k i = false
  | 0, i, _, hi, hs => by
    rw [lev_zero] at hi
    unfold df
    rw [lev_zero, lev_zero]
    rw [digests_len] at hi
    have hi' : i < leavesN l'.length m := by rw [← h]; exact hi
    have e1 : (digests l m).getD i 0 = digS (leafAt l m i) := by
      rw [List.getD_eq_getElem?_getD, List.getElem?_eq_getElem (by rw [digests_len]; exact hi)]; simp [digests]
    have e2 : (digests l' m).getD i 0 = digS (leafAt l' m i) := by
      rw [List.getD_eq_getElem?_getD, List.getElem?_eq_getElem (by rw [digests_len]; exact hi')]; simp [digests]
    rw [e1, e2]
    have hs' : leafAt l m i = leafAt l' m i := by
      have := hs
      rw [Nat.pow_zero, Nat.mul_one] at this
      exact this
    rw [hs']; simp
  | k + 1, i, hk, hi, hs => by
    have hk0 : k < (levels (digests l m)).length := by omega
    obtain ⟨hl, hk'⟩ := lev_same k (digests l m) (digests l' m) (by rw [digests_len, digests_len, h]) hk0
    obtain ⟨hl1, hk1'⟩ := lev_same (k + 1) (digests l m) (digests l' m) (by rw [digests_len, digests_len, h]) hk
    have e0 : m * 2 ^ (k + 1) = 2 * (m * 2 ^ k) := by rw [Nat.pow_succ, ← Nat.mul_assoc, Nat.mul_comm]
    rw [e0] at hs
    obtain ⟨s1, s2⟩ := span_halves h hs
    rw [lev_up k _ hk, upL_len] at hi
    unfold df
    rw [lev_up k _ hk, lev_up k _ hk1', upL_getD, upL_getD, ← hl]
    have d1 := same_span h k (2 * i) hk0 (by omega) s1
    unfold df at d1
    have d1' : ((levels (digests l m)).getD k []).getD (2 * i) 0 = ((levels (digests l' m)).getD k []).getD (2 * i) 0 := by simpa using d1
    by_cases h2 : 2 * i + 1 < ((levels (digests l m)).getD k []).length
    · have d2 := same_span h k (2 * i + 1) hk0 h2 s2
      unfold df at d2
      have d2' : ((levels (digests l m)).getD k []).getD (2 * i + 1) 0 = ((levels (digests l' m)).getD k []).getD (2 * i + 1) 0 := by simpa using d2
      rw [if_pos h2, if_pos h2, d1', d2']; simp
    · rw [if_neg h2, if_neg h2, d1']; simp
/-- no two nodes at the same place are equal with other sectors below them -/
def NoCol (l l' : List Sec) (m : Nat) : Prop := ∀ k i, k < (levels (digests l m)).length → i < ((levels (digests l m)).getD k []).length → df (levels (digests l m)) (levels (digests l' m)) k i = false → span l (m * 2 ^ k) i = span l' (m * 2 ^ k) i
theorem dfs_no {a b : List (List Int)} {k i : Nat} (h : df a b k i = false) : dfs a b k i = [] := by
  cases k with
  | zero => unfold dfs; rw [h]; simp
  | succ k => unfold dfs; rw [h]; simp
theorem dfs_mem {l l' : List Sec} {m : Nat} (h : l.length = l'.length) (hc : NoCol l l' m) (j : Nat) : ∀ (k i : Nat), k < (levels (digests l m)).length →
    (j ∈ dfs (levels (digests l m)) (levels (digests l' m)) k i ↔ j / 2 ^ k = i ∧ j < leavesN l.length m ∧ df (levels (digests l m)) (levels (digests l' m)) 0 j = true)
  | 0, i, hk => by
    unfold dfs
    rw [lev_zero, digests_len, Nat.pow_zero, Nat.div_one]
    by_cases h1 : i < leavesN l.length m
    · rw [decide_eq_true h1]
      by_cases h2 : df (levels (digests l m)) (levels (digests l' m)) 0 i = true
      · rw [h2]
        constructor
        · intro hj
          have : j = i := by simpa using hj
          subst this; exact ⟨rfl, h1, h2⟩
        · rintro ⟨rfl, _, _⟩; simp
      · constructor
        · intro hj; simp [h2] at hj
        · rintro ⟨rfl, _, h3⟩; exact absurd h3 h2
    · constructor
      · intro hj; simp [h1] at hj
      · rintro ⟨rfl, h3, _⟩; exact absurd h3 h1
  | k + 1, i, hk => by
    have hk0 : k < (levels (digests l m)).length := by omega
    have i1 := dfs_mem h hc j k (2 * i) hk0
    have i2 := dfs_mem h hc j k (2 * i + 1) hk0
    have hdiv : j / 2 ^ (k + 1) = i ↔ (j / 2 ^ k = 2 * i ∨ j / 2 ^ k = 2 * i + 1) := by
      rw [Nat.pow_succ, ← Nat.div_div_eq_div_mul]; omega
    have key : dfs (levels (digests l m)) (levels (digests l' m)) (k + 1) i = dfs (levels (digests l m)) (levels (digests l' m)) k (2 * i) ++ dfs (levels (digests l m)) (levels (digests l' m)) k (2 * i + 1) := by
      have hlu : ((levels (digests l m)).getD (k + 1) []).length = (((levels (digests l m)).getD k []).length + 1) / 2 := by rw [lev_up k _ hk, upL_len]
      by_cases h1 : i < ((levels (digests l m)).getD (k + 1) []).length
      · rw [dfs_step h1]
        cases h2 : df (levels (digests l m)) (levels (digests l' m)) (k + 1) i with
        | true => rfl
        | false =>
          have hs := hc (k + 1) i hk h1 h2
          have e0 : m * 2 ^ (k + 1) = 2 * (m * 2 ^ k) := by rw [Nat.pow_succ, ← Nat.mul_assoc, Nat.mul_comm]
          rw [e0] at hs
          obtain ⟨s1, s2⟩ := span_halves h hs
          have d1 : dfs (levels (digests l m)) (levels (digests l' m)) k (2 * i) = [] := dfs_no (same_span h k (2 * i) hk0 (by omega) s1)
          have d2 : dfs (levels (digests l m)) (levels (digests l' m)) k (2 * i + 1) = [] := by
            by_cases h3 : 2 * i + 1 < ((levels (digests l m)).getD k []).length
            · exact dfs_no (same_span h k (2 * i + 1) hk0 h3 s2)
            · exact dfs_out (by omega)
          rw [d1, d2]; rfl
      · rw [dfs_out (by omega), dfs_out (k := k) (i := 2 * i) (by omega), dfs_out (k := k) (i := 2 * i + 1) (by omega)]; rfl
    rw [key, List.mem_append, i1, i2, hdiv]
    constructor
    · rintro (⟨g1, g2⟩ | ⟨g1, g2⟩)
      · exact ⟨Or.inl g1, g2⟩
      · exact ⟨Or.inr g1, g2⟩
    · rintro ⟨g1 | g1, g2⟩
      · exact Or.inl ⟨g1, g2⟩
      · exact Or.inr ⟨g1, g2⟩
/-- a leaf that contains a sector -/
theorem leafE_in {n m i s : Nat} (hm : 1 ≤ m) (hn : n ≤ 4096) (hs : s < n) (hi : i < leavesN n m) : inExt (s : Int) (leafE n m i) = decide (s / m = i) := by
  have h1 := leaf_lt hm hi
  unfold inExt leafE
  rw [decide_eq_decide]
  rw [Nat.div_eq_iff (by omega)]
  have := Nat.mul_comm m i
  simp only []
  omega
theorem nk_cover : ∀ (k n : Nat), n ≤ nk n k * 2 ^ k
  | 0, n => by simp [nk]
  | k + 1, n => by
    have h1 := nk_cover k n
    have h2 : nk n k ≤ (nk n k + 1) / 2 * 2 := by omega
    have h3 := Nat.mul_le_mul_right (2 ^ k) h2
    rw [nk_succ, Nat.pow_succ, Nat.mul_comm (2 ^ k) 2, ← Nat.mul_assoc]
    exact Nat.le_trans h1 h3
theorem difN_mem {l l' : List Sec} {m : Nat} (tk : TOk l.length m (levels (digests l m))) (h : l.length = l'.length) (hc : NoCol l l' m) (j : Nat) :
    j ∈ difN (levels (digests l m)) (levels (digests l' m)) ↔ j < leavesN l.length m ∧ df (levels (digests l m)) (levels (digests l' m)) 0 j = true := by
  have hpos := tk.ne
  rw [difN_dfs tk, dfs_mem h hc j _ 0 (by omega)]
  constructor
  · rintro ⟨_, g⟩; exact g
  · intro g
    refine ⟨Nat.div_eq_of_lt ?_, g⟩
    have hlast := tk.at_ ((levels (digests l m)).length - 1) (by omega)
    have hone : nk (leavesN l.length m) ((levels (digests l m)).length - 1) = 1 := hlast.2.1.2 (by omega)
    have := nk_cover ((levels (digests l m)).length - 1) (leavesN l.length m)
    rw [hone, Nat.one_mul] at this
    exact Nat.lt_of_lt_of_le g.1 this
theorem df_leaf {l l' : List Sec} {m : Nat} (h : l.length = l'.length) (hc : NoCol l l' m) {q : Nat} (hq : q < leavesN l.length m) :
    df (levels (digests l m)) (levels (digests l' m)) 0 q = decide (leafAt l m q ≠ leafAt l' m q) := by
  have h0 : 0 < (levels (digests l m)).length := List.length_pos_iff.2 (levels_ne _)
  have hi : q < ((levels (digests l m)).getD 0 []).length := by rw [lev_zero, digests_len]; exact hq
  have e3 : m * 2 ^ 0 = m := by simp
  by_cases g : leafAt l m q = leafAt l' m q
  · rw [decide_eq_false (by simpa using g)]
    refine same_span h 0 _ h0 hi ?_
    rw [e3]; exact g
  · rw [decide_eq_true g]
    cases h2 : df (levels (digests l m)) (levels (digests l' m)) 0 q with
    | true => rfl
    | false =>
      have := hc 0 q h0 hi h2
      rw [e3] at this
      exact absurd this g
theorem any_leafE {n m s : Nat} (hm : 1 ≤ m) (hn : n ≤ 4096) (hs : s < n) (is : List Nat) (hb : ∀ i ∈ is, i < leavesN n m) : (is.map (leafE n m)).any (inExt (s : Int)) = decide (s / m ∈ is) := by
  rw [List.any_map, Bool.eq_iff_iff, List.any_eq_true, decide_eq_true_iff]
  constructor
  · rintro ⟨j, hj, hin⟩
    rw [Function.comp_apply, leafE_in hm hn hs (hb j hj)] at hin
    have hsj : s / m = j := of_decide_eq_true hin
    rw [hsj]; exact hj
  · intro g
    refine ⟨s / m, g, ?_⟩
    rw [Function.comp_apply, leafE_in hm hn hs (hb _ g)]; exact decide_eq_true rfl
theorem finds_law {l l' : List Sec} {m : Nat} (hn : 1 ≤ l.length ∧ l.length ≤ 4096) (hm : 1 ≤ m ∧ m ≤ 4096) (h : l.length = l'.length) (hc : NoCol l l' m) (tk : TOk l.length m (levels (digests l m))) (s : Nat) (hs : s < l.length) :
    ((difN (levels (digests l m)) (levels (digests l' m))).map (leafE l.length m)).any (inExt (s : Int)) = decide (leafAt l m (s / m) ≠ leafAt l' m (s / m)) := by
  have hq : s / m < leavesN l.length m := leaf_lt' hm.1 (Nat.lt_of_le_of_lt (Nat.div_mul_le_self s m) hs)
  rw [any_leafE hm.1 hn.2 hs _ (fun i hi => ((difN_mem tk h hc i).1 hi).1), ← df_leaf h hc hq, Bool.eq_iff_iff, decide_eq_true_iff, difN_mem tk h hc]
  exact ⟨fun g => g.2, fun g => ⟨hq, g⟩⟩
/-- each sector of an extent that Differ finds is one of the list -/
theorem finds_in {l l' : List Sec} {m : Nat} (hm : 1 ≤ m) (tk : TOk l.length m (levels (digests l m))) :
    ∀ e ∈ (difN (levels (digests l m)) (levels (digests l' m))).map (leafE l.length m), 0 ≤ e.1 ∧ 0 < e.2 ∧ e.1 + e.2 ≤ l.length := by
  intro e he
  obtain ⟨i, hi, rfl⟩ := List.mem_map.1 he
  rw [difN_dfs tk] at hi
  have h3 := (dfs_sorted _ _ _ _).2 i hi
  have h4 : i < leavesN l.length m := by have := h3.2.2; rw [lev_zero, digests_len] at this; exact this
  have := leaf_lt hm h4
  simp only [leafE]
  omega
end Go.Proofs.Ythneomehfmjbkaa
