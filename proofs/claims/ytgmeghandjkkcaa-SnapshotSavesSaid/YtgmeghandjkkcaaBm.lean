/-
  A map of pairs of numbers to true: what it holds, the laws of its lookup and of a new entry.
-/
import Derived.Test.YtgmeghandjkkcaaMap
set_option linter.unusedVariables false
set_option linter.unusedSimpArgs false
set_option linter.unusedSectionVars false
set_option linter.unnecessarySimpa false
namespace Go.Proofs.Ytgmeghandjkkcaa
open Go.RowKit Go.MapKept Go.ChangeMaps

def entB (p : Pl) : Value × Value := (plV p, .bool true)
def BMap (w : World) (b : Nat) (m : List Pl) : Prop :=
  ∃ es clock, w.heap[b]? = some (.map es clock) ∧ Stamped es clock ∧ es.toList.map kvOf = m.map entB
theorem BMap.lt {w : World} {b : Nat} {m : List Pl} (h : BMap w b m) : b < w.heap.size := by
  obtain ⟨es, clock, hb, _⟩ := h
  exact (Array.getElem?_eq_some_iff.1 hb).1
theorem BMap.kept {w w' : World} {b : Nat} {m : List Pl} (h : BMap w b m) (hk : w'.heap[b]? = w.heap[b]?) : BMap w' b m := by
  obtain ⟨es, clock, hb, r⟩ := h
  exact ⟨es, clock, hk.trans hb, r⟩
theorem und2i : Try.prog.underlying 56 = some (.array 2 3) := by kernel_rfl
theorem undBm : Try.prog.underlying 51 = some (.map 56 4) := by kernel_rfl
theorem infoInt : (Try.prog.info? 3).isSome = true := by kernel_rfl
theorem cellsInt : Try.prog.cellsOf 3 = 1 := by kernel_rfl
theorem aggInt (w : World) : (isAgg 3).run Try.prog w = .ok false w := by kernel_rfl
theorem undInt2 : Try.prog.underlying 3 = some (.int .i64) := by kernel_rfl
theorem run_check_2i (w : World) (q : Bool) (p : Pl) : (Instr.checkKey q 10000 56 (plV p)).run Try.prog w = .ok () w := by kernel_rfl
theorem run_eq_2i (w : World) (p q : Pl) : (Op.equal 56 (plV p) (plV q)).run Try.prog w = .ok (p == q) w := by
  obtain ⟨a, b⟩ := p
  obtain ⟨c, d⟩ := q
  obtain ⟨i, hi⟩ := Option.isSome_iff_exists.1 infoInt
  have h := run_equalIn_array w 9999 #[.int .i64 a, .int .i64 b] #[.int .i64 c, .int .i64 d] und2i hi
  rw [cellsInt] at h
  have hr : List.range 2 = [0, 1] := rfl
  rw [hr] at h
  simp only [Op.eqItems, part, Sem.run_bind, aggInt, Result.andThen_ok, Sem.run_ite, Bool.false_eq_true, if_false] at h
  simp [run_equalIn_int w _ _ _ _ _ _ undInt2] at h
  refine h.trans ?_
  by_cases h1 : a = c <;> by_cases h2 : b = d <;> simp [h1, h2]
theorem run_find_asking2 (w : World) (p : Pl) : ∀ (l : List MapEntry) (m : List Pl) (i : Nat), l.map kvOf = m.map entB →
    (p ∉ m ∧ (Instr.findAsking 56 (plV p) l i).run Try.prog w = .ok none w) ∨ (p ∈ m ∧ ∃ n, (Instr.findAsking 56 (plV p) l i).run Try.prog w = .ok (some (n, .bool true)) w)
  | [], [], _, _ => Or.inl ⟨by simp, rfl⟩
  | [], _ :: _, _, h => by simp at h
  | _ :: _, [], _, h => by simp at h
  | e :: l, x :: m, i, h => by
    simp only [List.map_cons, List.cons.injEq] at h
    obtain ⟨h1, h2⟩ := h
    have hk : e.key = plV x := congrArg Prod.fst h1
    have hv : e.val = .bool true := congrArg Prod.snd h1
    by_cases hx : x = p
    · refine Or.inr ⟨by simp [hx], i, ?_⟩
      simp only [Instr.findAsking, Sem.run_bind, hk, run_eq_2i, Result.andThen_ok]
      simp [hx, hv]
    · have hne : (p == x) = false := by
        rw [beq_eq_false_iff_ne]; exact fun e => hx e.symm
      have hstep : (Instr.findAsking 56 (plV p) (e :: l) i).run Try.prog w = (Instr.findAsking 56 (plV p) l (i + 1)).run Try.prog w := by
        simp only [Instr.findAsking, Sem.run_bind, hk, run_eq_2i, Result.andThen_ok, hne]
        simp
      rcases run_find_asking2 w p l m (i + 1) h2 with ⟨a1, a2⟩ | ⟨a1, n, a2⟩
      · exact Or.inl ⟨fun hm => (List.mem_cons.1 hm).elim (fun e => hx e.symm) a1, hstep.trans a2⟩
      · exact Or.inr ⟨List.mem_cons_of_mem _ a1, n, hstep.trans a2⟩
theorem run_find_2i (w : World) (p : Pl) (l : List MapEntry) (m : List Pl) (h : l.map kvOf = m.map entB) :
    (p ∉ m ∧ (Instr.findKey 56 (plV p) l).run Try.prog w = .ok none w) ∨ (p ∈ m ∧ ∃ n, (Instr.findKey 56 (plV p) l).run Try.prog w = .ok (some (n, .bool true)) w) := by
  have hf : (Instr.findKey 56 (plV p) l).run Try.prog w = (Instr.findAsking 56 (plV p) l 0).run Try.prog w := by
    cases l with
    | nil =>
      simp only [Instr.findKey, Sem.run_bind, run_underlying und2i, Result.andThen_ok]
      rfl
    | cons e l =>
      simp only [Instr.findKey, Sem.run_bind, run_underlying und2i, Result.andThen_ok]
      rfl
  rw [hf]
  exact run_find_asking2 w p l m 0 h
theorem zeroBool (w : World) : (zeroValue 4).run Try.prog w = .ok (.bool false) w := by kernel_rfl
/-- m[p] -/
theorem BMap.lookup {w : World} {b : Nat} {m : List Pl} (h : BMap w b m) (p : Pl) {q : Bool} (hq : decide (p ∈ m) = q) :
    (Instr.lookup 51 (.map (some b)) (plV p) false).run Try.prog w = .ok (.bool q) w := by
  obtain ⟨es, clock, hb, hst, he⟩ := h
  subst hq
  rcases run_find_2i w p es.toList m he with ⟨h1, h2⟩ | ⟨h1, n, h2⟩
  · simp [Instr.lookup, run_underlying undBm, MapKept.run_getObj_map hb, run_check_2i, h2, Result.andThen, zeroBool, h1]
  · simp [Instr.lookup, run_underlying undBm, MapKept.run_getObj_map hb, run_check_2i, h2, Result.andThen, h1]
/-- m[p] = true, of a pair that the map does not hold -/
theorem BMap.add {w : World} {b : Nat} {m : List Pl} (h : BMap w b m) {p : Pl} (hp : p ∉ m) :
    ∃ o, (Instr.mapUpdate 51 (.map (some b)) (plV p) (.bool true)).run Try.prog w = .ok () (setBlock w b o) ∧ BMap (setBlock w b o) b (m ++ [p]) := by
  obtain ⟨es, clock, hb, hst, he⟩ := h
  rcases run_find_2i w p es.toList m he with ⟨h1, h2⟩ | ⟨h1, _⟩
  · refine ⟨.map (es.push { key := plV p, val := .bool true, born := clock }) (clock + 1), ?_, ?_⟩
    · simp [Instr.mapUpdate, run_underlying undBm, MapKept.run_getObj_map hb, run_check_2i, h2, MapKept.run_setObj_map _ hb, Result.andThen, setBlock]
    · refine ⟨_, _, heap_setBlock_same hb _, stamped_push hst ?_, ?_⟩
      · intro x hx e
        have : kvOf x ∈ m.map entB := by rw [← he]; exact List.mem_map_of_mem hx
        obtain ⟨y, hy, hye⟩ := List.mem_map.1 this
        have : y = p := plV_inj ((congrArg Prod.fst hye).trans e)
        exact h1 (by rw [← this]; exact hy)
      · simp [he, kvOf, entB]
  · exact absurd h1 hp
section
variable (w : World) {ops : Array Oper} {rest : List Oper} {o : Oper} {a : Act} {Q : Exit → Act → World → Prop}
theorem wpList_mapUpdate_b (hg : o.guard = none) (m x v : Operand) (hop : o.op = Op.mapUpdate 51 m x v) (b : Nat) (M : List Pl) (p : Pl) (hm : a.eval m = .map (some b)) (hx : a.eval x = plV p) (hv : a.eval v = .bool true)
    (h : BMap w b M) (hp : p ∉ M) (hK : ∀ w', BMap w' b (M ++ [p]) → w.grownBy w' (some b) → w'.heap.size = w.heap.size → wpList Try.prog ops Q rest (a.put o.dst undef) w') : wpList Try.prog ops Q (o :: rest) a w := by
  refine wpList_plain hg fun K' hK' => ?_
  obtain ⟨ob, hrun, r1⟩ := h.add hp
  unfold Oper.wp
  simp [execOp, hop, hm, hx, hv, hrun, Result.andThen]
  exact hK' _ _ (hK _ r1 (grown_setBlock w b ob) (by simp [setBlock]))
end
theorem BMap.empty (w : World) : BMap (w.alloc (.map #[] 0)) w.heap.size [] := ⟨#[], 0, heap_alloc_new _ _, by unfold Stamped; simp, rfl⟩
end Go.Proofs.Ytgmeghandjkkcaa
