/-
  Arguments that are arrays, read as lists. No program in sight.
-/
import Derived.Test.YtnkmklnlaepdeaaGreatOpen
import Derived.Test.YtnkmklnlaepdeaaGreatLaws
set_option linter.unusedVariables false
set_option linter.unusedSimpArgs false
set_option linter.unusedSectionVars false
set_option linter.unnecessarySimpa false
namespace Go.Proofs.YtnkmklnlaepdeaaGreat
open Go.RowKit Go.ChangeShapes Go.WideShapes Go.ChangeAt

def encArr {α : Type} (n : Nat) (E : Enc α) : Enc (List α) where
  size := n * E.size
  rd w S cs l := l.length = n ∧ ∃ css, cs = css.flatten ∧ All2 (E.rd w S) css l
  len h := by
    obtain ⟨h1, css, rfl, h2⟩ := h
    rw [flatten_len E.size css h2.sizes, h2.length, h1]
  one h := by
    obtain ⟨h1, css, rfl, h2⟩ := h
    intro v hv
    obtain ⟨cs, hc, hv⟩ := List.mem_flatten.1 hv
    obtain ⟨i, hi, rfl⟩ := List.getElem_of_mem hc
    obtain ⟨cs', e1, e2⟩ := h2.get (i := i) (List.getElem?_eq_getElem (by rw [← h2.length]; exact hi))
    rw [List.getElem?_eq_getElem hi] at e1
    injection e1 with e1
    rw [e1] at hv
    exact E.one e2 v hv
  keep h hk hS := by
    obtain ⟨h1, css, rfl, h2⟩ := h
    exact ⟨h1, css, rfl, h2.mono fun _ _ hr => E.keep hr hk hS⟩
section
variable {P : Program} {t e : TypeId} {α : Type} {E : Enc α}
theorem opens_array {n : Nat} (ht : P.underlying t = some (.array n e)) (hc : P.cellsOf t = n * E.size) (ho : Opens P e E) : Opens P t (encArr n E) := by
  refine ⟨hc, fun H enc w base spare held fuel cs x h => ?_⟩
  obtain ⟨xs, m, _, _, hl, hxl, hx⟩ := DataW.trod_array ht h
  rw [hc] at hl
  rw [ho.1] at hx
  have key : ∀ k, k ≤ n → ∃ css l, l.length = k ∧ cs.take (k * E.size) = css.flatten ∧ All2 (E.rd w (Bl w.heap.size)) css l := by
    intro k
    induction k with
    | zero => exact fun _ => ⟨[], [], rfl, by simp, trivial⟩
    | succ k ih =>
      intro hk
      obtain ⟨css, l, h1, h2, h3⟩ := ih (by omega)
      have h4 := hx k (by omega)
      rw [List.getElem?_eq_getElem (by omega)] at h4
      obtain ⟨y, hy⟩ := ho.2 _ _ _ _ _ _ _ _ _ h4
      refine ⟨css ++ [(cs.drop (k * E.size)).take E.size], l ++ [y], by simp [h1], ?_, All2.append h3 ⟨hy, trivial⟩⟩
      rw [Nat.succ_mul, List.take_add, h2]; simp
  obtain ⟨css, l, h1, h2, h3⟩ := key n (Nat.le_refl _)
  rw [List.take_of_length_le (by omega)] at h2
  exact ⟨l, h1, css, h2, h3⟩
variable {H : Type} {enc : TypeId × Value → H} {W : World} {base b0 : Nat} {spare : Nat → Bool} {held : Bool} {r : Reach} {v : Value} {d : DataW H} {p : List MemPlace}
theorem arg_array {n : Nat} (ht : P.underlying t = some (.array n e)) (ho : Opens P t E) (hv : Value.okWide P W r b0 t v) (h : DataW.Trod enc P W base spare held t v d p) :
    ∃ cs y, v = .agg cs ∧ E.rd W (Bl W.heap.size) cs.toList y := by
  simp only [Value.okWide, ht] at hv
  obtain ⟨cs, rfl, _⟩ := hv
  obtain ⟨fuel, hf⟩ := h
  obtain ⟨y, hy⟩ := ho.2 _ _ _ _ _ _ _ _ _ hf
  exact ⟨cs, y, rfl, hy⟩
/-- an array of two -/
theorem arr2 {w : World} {S : Nat → Prop} {cs : Array Value} {l : List α} (h : (encArr 2 E).rd w S cs.toList l) : ∃ x y c1 c2, l = [x, y] ∧ cs = (c1 ++ c2).toArray ∧ E.rd w S c1 x ∧ E.rd w S c2 y := by
  obtain ⟨h1, css, h2, h3⟩ := h
  match l, css, h1, h3 with
  | [x, y], [c1, c2], _, h3 => exact ⟨x, y, c1, c2, rfl, Array.toList_inj.1 (by simpa using h2), h3.1, h3.2.1⟩
/-- an array of three -/
theorem arr3 {w : World} {S : Nat → Prop} {cs : Array Value} {l : List α} (h : (encArr 3 E).rd w S cs.toList l) : ∃ x y z c1 c2 c3, l = [x, y, z] ∧ cs = (c1 ++ c2 ++ c3).toArray ∧ E.rd w S c1 x ∧ E.rd w S c2 y ∧ E.rd w S c3 z := by
  obtain ⟨h1, css, h2, h3⟩ := h
  match l, css, h1, h3 with
  | [x, y, z], [c1, c2, c3], _, h3 => exact ⟨x, y, z, c1, c2, c3, rfl, Array.toList_inj.1 (by simpa using h2), h3.1, h3.2.1, h3.2.2.1⟩
end
end Go.Proofs.YtnkmklnlaepdeaaGreat
