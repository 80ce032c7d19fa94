/-
  Plain words: the leaves that two trees differ in. No program in sight.
-/
import Derived.Test.YthneomehfmjbkaaHu
import Derived.Test.YthneomehfmjbkaaUs
set_option linter.unusedVariables false
set_option linter.unusedSimpArgs false
set_option linter.unusedSectionVars false
set_option linter.unnecessarySimpa false
namespace Go.Proofs.Ythneomehfmjbkaa

/-- whether two nodes at the same place differ -/
def df (a b : List (List Int)) (k i : Nat) : Bool := (a.getD k []).getD i 0 != (b.getD k []).getD i 0
/-- the nodes below some nodes, at a level of n nodes -/
def kids (n : Nat) (p : List Nat) : List Nat := p.flatMap fun i => if 2 * i + 1 < n then [2 * i, 2 * i + 1] else [2 * i]
/-- the leaves that are found from the nodes that are visited at a level -/
def fnd (a b : List (List Int)) : Nat → List Nat → List Nat
  | 0, v => v.filter (df a b 0)
  | k + 1, v => fnd a b k (kids (a.getD k []).length (v.filter (df a b (k + 1))))
def difN (a b : List (List Int)) : List Nat := fnd a b (a.length - 1) [0]
/-- the same, from the nodes that differ at a level -/
def fndP (a b : List (List Int)) : Nat → List Nat → List Nat
  | 0, p => p
  | k + 1, p => fnd a b k (kids (a.getD k []).length p)
theorem fnd_eq (a b : List (List Int)) (k : Nat) (v : List Nat) : fnd a b k v = fndP a b k (v.filter (df a b k)) := by cases k <;> rfl
theorem kids_len (n : Nat) (p : List Nat) : (kids n p).length ≤ 2 * p.length := by
  induction p with
  | nil => simp [kids]
  | cons x r ih =>
    have : kids n (x :: r) = (if 2 * x + 1 < n then [2 * x, 2 * x + 1] else [2 * x]) ++ kids n r := rfl
    rw [this, List.length_append, List.length_cons]
    split <;> simp <;> omega
theorem kids_lt {n m : Nat} {p : List Nat} (hm : m = (n + 1) / 2) (h : ∀ i ∈ p, i < m) : ∀ j ∈ kids n p, j < n := by
  intro j hj
  obtain ⟨i, hi, hj⟩ := List.mem_flatMap.1 hj
  have := h i hi
  split at hj
  · simp at hj; omega
  · simp at hj; omega
theorem kids_snoc (n : Nat) (p : List Nat) (i : Nat) : kids n (p ++ [i]) = kids n p ++ (if 2 * i + 1 < n then [2 * i, 2 * i + 1] else [2 * i]) := by simp [kids]
def toI (l : List Nat) : List Int := l.map fun (i : Nat) => (i : Int)
theorem filter_take_succ {α : Type} (f : α → Bool) {l : List α} {k : Nat} (h : k < l.length) : (l.take (k + 1)).filter f = (l.take k).filter f ++ (if f l[k] then [l[k]] else []) := by
  rw [List.take_succ_eq_append_getElem h, List.filter_append]
  congr 1
  by_cases hf : f l[k] = true <;> simp [hf]
theorem kids_take_succ (n : Nat) {p : List Nat} {k : Nat} (h : k < p.length) : kids n (p.take (k + 1)) = kids n (p.take k) ++ (if 2 * p[k] + 1 < n then [2 * p[k], 2 * p[k] + 1] else [2 * p[k]]) := by
  rw [List.take_succ_eq_append_getElem h, kids_snoc]
theorem toI_len (l : List Nat) : (toI l).length = l.length := by simp [toI]
theorem toI_at {l : List Nat} {k : Nat} (h : k < l.length) : (toI l)[k]'(by rw [toI_len]; exact h) = (l[k] : Int) := by simp [toI]
theorem toI_app (l m : List Nat) : toI (l ++ m) = toI l ++ toI m := by simp [toI]
def leafE (n m i : Nat) : Ext := ((i * m : Nat), ((min m (n - i * m) : Nat) : Int))
def difE (a b : Tr) : List Ext := (difN a.2.2 b.2.2).map (leafE a.1.toNat a.2.1.toNat)
def difErr (a b : Tr) : Int := if checkT a ≠ 0 then checkT a else if checkT b ≠ 0 then checkT b else if a.1 ≠ b.1 ∨ a.2.1 ≠ b.2.1 then 22 else 0
def difT (a b : Tr) : List Ext := if difErr a b = 0 then opL or (difE a b) [] else []
end Go.Proofs.Ythneomehfmjbkaa
