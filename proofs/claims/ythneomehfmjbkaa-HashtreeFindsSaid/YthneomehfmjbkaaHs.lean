/-
  Plain words: digests of lists of sectors, and trees of them. No program in sight.
-/
import Derived.Test.YthneomehfmjbkaaEnc
import Derived.Laws.Entries
set_option linter.unusedVariables false
set_option linter.unusedSimpArgs false
set_option linter.unusedSectionVars false
set_option linter.unnecessarySimpa false
namespace Go.Proofs.Ythneomehfmjbkaa

/-- one byte more -/
def dstep (h b : Int) : Int := IntKind.u64.wrap (Go.bits .xor .u64 h b * 1099511628211)
def dfin (h : Int) : Int := Go.bits .xor .u64 h (h / 4294967296)
def d0 : Int := 14695981039346656037
def dig (bs : List Int) : Int := dfin (bs.foldl dstep d0)
def digS (l : List Sec) : Int := dig l.flatten
/-- the bytes of a digest -/
def byteOf (d : Int) (i : Nat) : Int := d / 2 ^ (8 * i) % 256
theorem byteOf_range (d : Int) (i : Nat) : 0 ≤ byteOf d i ∧ byteOf d i < 256 := ⟨Int.emod_nonneg _ (by decide), Int.emod_lt_of_pos _ (by decide)⟩
theorem bytes_range (d : Int) (k : Nat) : ∀ x ∈ (List.range k).map (byteOf d), 0 ≤ x ∧ x < 256 := fun x hx => by
  obtain ⟨i, _, rfl⟩ := List.mem_map.1 hx
  exact byteOf_range d i
theorem bytes_succ (d : Int) (k : Nat) : (List.range (k + 1)).map (byteOf d) = (List.range k).map (byteOf d) ++ [byteOf d k] := by simp [List.range_succ]
def le8 (d : Int) : List Int := (List.range 8).map (byteOf d)
def pairD (a b : Int) : Int := dig (le8 a ++ le8 b)
def upL : List Int → List Int
  | [] => []
  | [x] => [x]
  | x :: y :: l => pairD x y :: upL l
theorem upL_len : ∀ l : List Int, (upL l).length = (l.length + 1) / 2
  | [] => rfl
  | [x] => by simp [upL]
  | x :: y :: l => by
    show (upL l).length + 1 = _
    rw [upL_len l, List.length_cons, List.length_cons]; omega
/-- the levels above a level, that one first -/
def levF : Nat → List Int → List (List Int)
  | 0, l => [l]
  | n + 1, l => if l.length ≤ 1 then [l] else l :: levF n (upL l)
def levels (l : List Int) : List (List Int) := levF l.length l
theorem levF_more : ∀ (n : Nat) (l : List Int), l.length ≤ n + 1 → ∀ m, n ≤ m → levF m l = levF n l
  | 0, l, h, m, _ => by
    cases m with
    | zero => rfl
    | succ m => show (if l.length ≤ 1 then [l] else l :: levF m (upL l)) = [l]; rw [if_pos (by omega)]
  | n + 1, l, h, 0, hm => by omega
  | n + 1, l, h, m + 1, hm => by
    show (if l.length ≤ 1 then [l] else l :: levF m (upL l)) = (if l.length ≤ 1 then [l] else l :: levF n (upL l))
    by_cases hl : l.length ≤ 1
    · rw [if_pos hl, if_pos hl]
    · rw [if_neg hl, if_neg hl, levF_more n (upL l) (by rw [upL_len]; omega) m (by omega)]
theorem levels_one {l : List Int} (h : l.length ≤ 1) : levels l = [l] := by
  unfold levels
  rw [levF_more 0 l (by omega) l.length (by omega)]; rfl
theorem levels_up {l : List Int} (h : ¬ l.length ≤ 1) : levels l = l :: levels (upL l) := by
  unfold levels
  obtain ⟨n, hn⟩ : ∃ n, l.length = n + 1 := ⟨l.length - 1, by omega⟩
  rw [hn]
  show (if l.length ≤ 1 then [l] else l :: levF n (upL l)) = _
  rw [if_neg h]
  have h1 := upL_len l
  rw [levF_more (upL l).length (upL l) (by omega) n (by omega)]
/-- how many leaves -/
def leavesN (size leaf : Nat) : Nat := (size + leaf - 1) / leaf
def leafAt (l : List Sec) (leaf i : Nat) : List Sec := (l.drop (i * leaf)).take leaf
def digests (l : List Sec) (leaf : Nat) : List Int := (List.range (leavesN l.length leaf)).map fun i => digS (leafAt l leaf i)
abbrev Tr := Int × Int × List (List Int)
def limN (size leaf : Int) : Int := if size < 1 ∨ 4096 < size then 2 else if leaf < 1 ∨ 4096 < leaf then 1 else 0
def zTree : Tr := (0, 0, [])
def buildErr (l : List Sec) (leaf : Int) : Int := limN l.length leaf
def buildT (l : List Sec) (leaf : Int) : Tr := if buildErr l leaf = 0 then ((l.length : Int), leaf, levels (digests l leaf.toNat)) else zTree
/-- the shape of a tree's levels -/
def shapeB : Nat → List (List Int) → Bool
  | _, [] => false
  | n, [l] => l.length == n && n == 1
  | n, l :: m :: r => l.length == n && n != 1 && shapeB ((n + 1) / 2) (m :: r)
def checkT (t : Tr) : Int := if limN t.1 t.2.1 ≠ 0 then limN t.1 t.2.1 else if shapeB (leavesN t.1.toNat t.2.1.toNat) t.2.2 = false then 3 else if levels (t.2.2.headD []) ≠ t.2.2 then 22 else 0
def rootT (t : Tr) : Int := if checkT t ≠ 0 then 0 else (t.2.2.getLastD []).headD 0
end Go.Proofs.Ythneomehfmjbkaa
