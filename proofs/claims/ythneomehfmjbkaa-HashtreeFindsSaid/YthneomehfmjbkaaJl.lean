/-
  Plain words: the walk by levels finds what the walk below nodes finds. No program in sight.
-/
import Derived.Test.YthneomehfmjbkaaJk
set_option linter.unusedVariables false
set_option linter.unusedSimpArgs false
set_option linter.unusedSectionVars false
set_option linter.unnecessarySimpa false
namespace Go.Proofs.Ythneomehfmjbkaa

theorem dfs_out {a b : List (List Int)} {k i : Nat} (h : (a.getD k []).length ≤ i) : dfs a b k i = [] := by
  cases k with
  | zero => rw [dfs, decide_eq_false (by omega)]; rfl
  | succ k => rw [dfs, decide_eq_false (by omega)]; rfl
theorem dfs_step {a b : List (List Int)} {k i : Nat} (h : i < (a.getD (k + 1) []).length) : dfs a b (k + 1) i = if df a b (k + 1) i then dfs a b k (2 * i) ++ dfs a b k (2 * i + 1) else [] := by
  rw [dfs, decide_eq_true h, Bool.true_and]
theorem kids_dfs (a b : List (List Int)) (k : Nat) : ∀ p : List Nat, (kids (a.getD k []).length p).flatMap (dfs a b k) = p.flatMap fun i => dfs a b k (2 * i) ++ dfs a b k (2 * i + 1)
  | [] => rfl
  | x :: r => by
    have e : kids (a.getD k []).length (x :: r) = (if 2 * x + 1 < (a.getD k []).length then [2 * x, 2 * x + 1] else [2 * x]) ++ kids (a.getD k []).length r := rfl
    rw [e, List.flatMap_append, kids_dfs a b k r, List.flatMap_cons]
    congr 1
    by_cases h : 2 * x + 1 < (a.getD k []).length
    · rw [if_pos h]; simp
    · rw [if_neg h, dfs_out (i := 2 * x + 1) (by omega)]; simp
theorem filter_flatMap {α β : Type} (f : α → Bool) (g : α → List β) : ∀ l : List α, (l.filter f).flatMap g = l.flatMap fun i => if f i then g i else []
  | [] => rfl
  | x :: r => by
    rw [List.filter_cons, List.flatMap_cons, ← filter_flatMap f g r]
    by_cases h : f x = true
    · rw [if_pos h, if_pos h, List.flatMap_cons]
    · rw [if_neg h, if_neg h]; rfl
theorem flatMap_congr_ {α β : Type} {g h : α → List β} : ∀ {l : List α}, (∀ x ∈ l, g x = h x) → l.flatMap g = l.flatMap h
  | [], _ => rfl
  | x :: r, hh => by
    rw [List.flatMap_cons, List.flatMap_cons, hh x (by simp), flatMap_congr_ (fun y hy => hh y (by simp [hy]))]
theorem fnd_dfs (a b : List (List Int)) : ∀ (k : Nat) (v : List Nat), (∀ j, j < k → (a.getD (j + 1) []).length = ((a.getD j []).length + 1) / 2) → (∀ i ∈ v, i < (a.getD k []).length) → fnd a b k v = v.flatMap (dfs a b k)
  | 0, v, _, hv => by
    have e : fnd a b 0 v = (v.filter (df a b 0)).flatMap fun i => [i] := by rw [fnd]; simp
    rw [e, filter_flatMap]
    refine flatMap_congr_ fun i hi => ?_
    rw [dfs, decide_eq_true (hv i hi), Bool.true_and]
  | k + 1, v, hl, hv => by
    have hm := hl k (by omega)
    have hp : ∀ i ∈ v.filter (df a b (k + 1)), i < (a.getD (k + 1) []).length := fun i hi => hv i (List.mem_filter.1 hi).1
    rw [fnd, fnd_dfs a b k _ (fun j hj => hl j (by omega)) (kids_lt hm hp), kids_dfs, filter_flatMap]
    refine flatMap_congr_ fun i hi => ?_
    rw [dfs_step (hv i hi)]
/-- the code's walk and the reference's find the same leaves -/
theorem difN_dfs {n m : Nat} {l l' : List (List Int)} (h : TOk n m l) : difN l l' = dfs l l' (l.length - 1) 0 := by
  have hg : ∀ k (hk : k < l.length), (l.getD k []).length = nk (leavesN n m) k := fun k hk => by
    rw [List.getD_eq_getElem?_getD, List.getElem?_eq_getElem hk, Option.getD_some]; exact (h.at_ k hk).1
  have h0 := h.ne
  rw [difN, fnd_dfs]
  · simp
  · intro j hj
    rw [hg (j + 1) (by omega), hg j (by omega), nk_succ]
  · intro i hi
    have : i = 0 := by simpa using hi
    have h1 := (h.at_ (l.length - 1) (by omega)).2.2.1
    rw [this, hg _ (by omega)]; omega
end Go.Proofs.Ythneomehfmjbkaa
