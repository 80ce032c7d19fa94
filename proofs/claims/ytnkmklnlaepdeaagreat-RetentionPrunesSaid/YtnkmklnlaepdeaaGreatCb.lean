/-
  What all chapters share: sectors held against each other, blocks of few cells, cmp.Compare.
-/
import Derived.Test.YtnkmklnlaepdeaaGreatProg
import Derived.Test.YtnkmklnlaepdeaaGreatLaws
import Derived.ChangeKeysEq
set_option linter.unusedVariables false
set_option linter.unusedSimpArgs false
set_option linter.unusedSectionVars false
set_option linter.unnecessarySimpa false
namespace Go.Proofs.YtnkmklnlaepdeaaGreat
open Go.RowKit

theorem infoU8 : (Tryz.prog.info? 5).isSome = true := by kernel_rfl
theorem cellsU8 : Tryz.prog.cellsOf 5 = 1 := by kernel_rfl
theorem aggU8 (w : World) : (isAgg 5).run Tryz.prog w = .ok false w := by kernel_rfl
theorem undU8 : Tryz.prog.underlying 5 = some (.int .u8) := by kernel_rfl
theorem undSec : Tryz.prog.underlying 54 = some (.array 8 5) := by kernel_rfl

/-- two sectors held against each other -/
theorem run_eq_sec (w : World) (x0 x1 x2 x3 x4 x5 x6 x7 y0 y1 y2 y3 y4 y5 y6 y7 : Int) :
    (Op.equalIn 10000 54 (.agg #[.int .u8 x0, .int .u8 x1, .int .u8 x2, .int .u8 x3, .int .u8 x4, .int .u8 x5, .int .u8 x6, .int .u8 x7]) (.agg #[.int .u8 y0, .int .u8 y1, .int .u8 y2, .int .u8 y3, .int .u8 y4, .int .u8 y5, .int .u8 y6, .int .u8 y7])).run Tryz.prog w
      = .ok ([x0, x1, x2, x3, x4, x5, x6, x7] == [y0, y1, y2, y3, y4, y5, y6, y7]) w := by
  obtain ⟨i, hi⟩ := Option.isSome_iff_exists.1 infoU8
  rw [run_equalIn_array w 9999 _ _ undSec hi, cellsU8]
  have h : List.range 8 = [0, 1, 2, 3, 4, 5, 6, 7] := rfl
  rw [h]
  simp only [Op.eqItems, part, Sem.run_bind, aggU8, Result.andThen_ok, Sem.run_ite, Bool.false_eq_true, if_false]
  simp [run_equalIn_int w _ _ _ _ _ _ undU8]
  by_cases h0 : x0 = y0
  · by_cases h1 : x1 = y1
    · by_cases h2 : x2 = y2
      · by_cases h3 : x3 = y3
        · by_cases h4 : x4 = y4
          · by_cases h5 : x5 = y5
            · by_cases h6 : x6 = y6
              · by_cases h7 : x7 = y7 <;> simp [*]
              · simp [*]
            · simp [*]
          · simp [*]
        · simp [*]
      · simp [*]
    · simp [*]
  · simp [*]
theorem take_succ_eq {α : Type} (l m : List α) (k : Nat) (h1 : k < l.length) (h2 : k < m.length) (h : l.take k = m.take k) (he : l[k] = m[k]) : l.take (k + 1) = m.take (k + 1) := by
  rw [List.take_succ_eq_append_getElem h1, List.take_succ_eq_append_getElem h2, h, he]
theorem drewN_cell (w : World) (m : Nat) (p : Addr) : (w.drewN m).cell? p = w.cell? p := rfl

theorem cell_new (w : World) (vs : Array Value) (T : TypeId) : ∀ j u, vs.toList[j]? = some u → (w.alloc (.cells vs T)).cell? (Addr.add ⟨w.heap.size, 0, none⟩ j) = some u := by
  intro j u h
  have hadd : (⟨w.heap.size, 0, none⟩ : Addr).add j = ⟨w.heap.size, j, none⟩ := by unfold Addr.add; split <;> simp_all
  rw [hadd, cell_of_row _ _ j vs T (0, 0) (heap_alloc_new w _)]
  simpa using h
def cmpI (a b : Int) : Int := if a < b then -1 else if b < a then 1 else 0
theorem compare_any (a b : Int) (w : World) :
    Calls Tryz.prog 103 #[.int .i64 a, .int .i64 b] w fun e w' => e = .returned (.int .i64 (cmpI a b)) ∧ w' = w := by
  go_enter Tryz.func103, Tryz.ntmps103
  go_wp2
  all_goals go_ret
  all_goals refine ⟨ret_int ?_, rfl⟩
  all_goals (simp only [cmpI]; simp_all; try omega)

theorem blk2 {w : World} {b : Nat} {T : TypeId} {c0 c1 : Value} (h : w.heap[b]? = some (.cells #[c0, c1] T (0, 0))) :
    w.cell? ⟨b, 0, none⟩ = some c0 ∧ w.cell? ⟨b, 1, none⟩ = some c1 ∧ ∀ j, w.frozen? ⟨b, j, none⟩ = false :=
  ⟨cell_of_row w b 0 _ T _ h, cell_of_row w b 1 _ T _ h, fun j => by simp [World.frozen?, h]⟩
theorem blk2_set {w : World} {b : Nat} {T : TypeId} {c0 c1 : Value} (h : w.heap[b]? = some (.cells #[c0, c1] T (0, 0))) (u v : Value) : ((w.setCell ⟨b, 0, none⟩ u).setCell ⟨b, 1, none⟩ v).heap[b]? = some (.cells #[u, v] T (0, 0)) := by
  simp [World.setCell, Array.getElem?_modify, h]
theorem blk3 {w : World} {b : Nat} {T : TypeId} {c0 c1 c2 : Value} (h : w.heap[b]? = some (.cells #[c0, c1, c2] T (0, 0))) :
    w.cell? ⟨b, 0, none⟩ = some c0 ∧ w.cell? ⟨b, 1, none⟩ = some c1 ∧ w.cell? ⟨b, 2, none⟩ = some c2 ∧ ∀ j, w.frozen? ⟨b, j, none⟩ = false :=
  ⟨cell_of_row w b 0 _ T _ h, cell_of_row w b 1 _ T _ h, cell_of_row w b 2 _ T _ h, fun j => by simp [World.frozen?, h]⟩
theorem blk3_set {w : World} {b : Nat} {T : TypeId} {c0 c1 c2 : Value} (h : w.heap[b]? = some (.cells #[c0, c1, c2] T (0, 0))) (u : Value) : (w.setCell ⟨b, 2, none⟩ u).heap[b]? = some (.cells #[c0, c1, u] T (0, 0)) := by
  simp [World.setCell, Array.getElem?_modify, h]
theorem blk8 {w : World} {b : Nat} {T : TypeId} {c0 c1 c2 c3 c4 c5 c6 c7 : Value} (h : w.heap[b]? = some (.cells #[c0, c1, c2, c3, c4, c5, c6, c7] T (0, 0))) :
    w.cell? ⟨b, 0, none⟩ = some c0 ∧ w.cell? ⟨b, 1, none⟩ = some c1 ∧ w.cell? ⟨b, 2, none⟩ = some c2 ∧ w.cell? ⟨b, 3, none⟩ = some c3 ∧ w.cell? ⟨b, 4, none⟩ = some c4 ∧ w.cell? ⟨b, 5, none⟩ = some c5 ∧ w.cell? ⟨b, 6, none⟩ = some c6 ∧ w.cell? ⟨b, 7, none⟩ = some c7 ∧ ∀ j, w.frozen? ⟨b, j, none⟩ = false :=
  ⟨cell_of_row w b 0 _ T _ h, cell_of_row w b 1 _ T _ h, cell_of_row w b 2 _ T _ h, cell_of_row w b 3 _ T _ h, cell_of_row w b 4 _ T _ h, cell_of_row w b 5 _ T _ h, cell_of_row w b 6 _ T _ h, cell_of_row w b 7 _ T _ h, fun j => by simp [World.frozen?, h]⟩
theorem zsec_ok : OkSec zsec := ⟨rfl, by simp [zsec]⟩
end Go.Proofs.YtnkmklnlaepdeaaGreat
