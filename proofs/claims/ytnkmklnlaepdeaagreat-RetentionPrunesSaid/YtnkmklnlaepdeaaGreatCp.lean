/-
  copy into an owned slice whose elements have any size. No program in sight.
-/
import Derived.Laws.CopyOwn
import Derived.Test.YtnkmklnlaepdeaaGreatLaws
set_option linter.unusedVariables false
set_option linter.unusedSimpArgs false
set_option linter.unusedSectionVars false
set_option linter.unnecessarySimpa false
namespace Go.Proofs.YtnkmklnlaepdeaaGreat
open Go.RowKit

theorem flatten_take {α : Type} (size : Nat) : ∀ (l : List (List α)) (k : Nat), (∀ x ∈ l, x.length = size) → l.flatten.take (k * size) = (l.take k).flatten
  | [], k, _ => by simp
  | x :: l, 0, _ => by simp
  | x :: l, k + 1, h => by
    have hx := h x (by simp)
    rw [List.flatten_cons, List.take_succ_cons, List.flatten_cons, Nat.succ_mul, List.take_append, hx, List.take_of_length_le (by omega)]
    congr 1
    rw [show k * size + size - size = k * size from by omega]
    exact flatten_take size l k (fun y hy => h y (by simp [hy]))
theorem flatten_drop {α : Type} (size : Nat) : ∀ (l : List (List α)) (k : Nat), (∀ x ∈ l, x.length = size) → l.flatten.drop (k * size) = (l.drop k).flatten
  | [], k, _ => by simp
  | x :: l, 0, _ => by simp
  | x :: l, k + 1, h => by
    have hx := h x (by simp)
    rw [List.flatten_cons, List.drop_succ_cons, Nat.succ_mul, List.drop_append, hx, List.drop_eq_nil_of_le (by omega), List.nil_append]
    rw [show k * size + size - size = k * size from by omega]
    exact flatten_drop size l k (fun y hy => h y (by simp [hy]))
/-- a row behind a copy to a place -/
def over {α : Type} (row : List α) (s : Nat) (d : List α) : List α := row.take s ++ d ++ row.drop (s + d.length)
theorem over_len {α : Type} {row : List α} {s : Nat} {d : List α} (h : s + d.length ≤ row.length) : (over row s d).length = row.length := by
  unfold over; simp; omega
theorem All2.drop {α β : Type} {R : α → β → Prop} : ∀ {l : List α} {m : List β} (k : Nat), All2 R l m → All2 R (l.drop k) (m.drop k)
  | [], [], k, _ => by simp [All2]
  | x :: l, y :: m, 0, h => h
  | x :: l, y :: m, k + 1, h => All2.drop k h.2
section
variable {P : Program} {w : World} {α : Type} {E : Enc α} {t e : TypeId} {bytes : Nat}
theorem run_copyE (hT : SliceTy P t e E.size bytes) (ty : TypeId) {base g n c s m sc : Nat} {S S' : Nat → Prop} {row news : List α} {ad : Option Addr} (hown : Own E w base e S (.slice (some ⟨g, 0, none⟩) n c) row) (hm : m = news.length) (hfit : s + m ≤ row.length) (hsrc : SlAt E w S' ad news) (hflat : ∀ {cs : List Value} {x : α}, E.rd w S' cs x → E.rd w S cs x) :
    ∃ w', (Builtin.copy_ #[t, t] ty #[.slice (some ⟨g, s * E.size, none⟩) (n - s) (c - s), .slice ad m sc]).run P w = .ok (goInt m) w' ∧ Own E w' base e S (.slice (some ⟨g, 0, none⟩) n c) (over row s news) ∧ w.grownBy w' (some g) := by
  obtain ⟨i, z, hi, hz, hsz, hby, hzs⟩ := hT.info
  obtain ⟨css, h1, h2, h3⟩ := hown
  have hgS : ¬ S g := h3 g rfl
  rcases h1.2 with ⟨he, _⟩ | ⟨g', cap, cur, he, hb, hg, hnc, hcm, hcs, htake⟩
  · cases he
  · injection he with e1 e2 e3
    injection e1 with e1
    injection e1 with e1
    subst e1 e2 e3
    have hlen : css.length = row.length := h2.length
    by_cases hn : news = []
    · subst hn
      subst hm
      refine ⟨w, ?_, ?_, World.grownBy.refl w _⟩
      · cases ad with
        | none => simp [Builtin.copy_, run_underlying hT.und, Builtin.lenOf, Builtin.firstCells, sizeOf, typeInfo, hi, storeCells]
        | some x => simp [Builtin.copy_, run_underlying hT.und, Builtin.lenOf, Builtin.firstCells, sizeOf, typeInfo, hi, storeCells, loadCells, loadCellsFrom]
      · have : over row s ([] : List α) = row := by unfold over; simp
        rw [this]
        exact ⟨css, h1, h2, h3⟩
    · obtain ⟨b, off, rfl, hSb⟩ := hsrc.some_ hn
      obtain ⟨css', k1, k2, k3', k4⟩ := hsrc.row
      have k3 : All2 (E.rd w S) css' news := k3'.mono fun _ _ hr => hflat hr
      have hfl : css'.flatten.length = m * E.size := by rw [flatten_len E.size css' k2, k1, hm]
      have hmin : Nat.min m (row.length - s) = m := Nat.min_eq_left (by omega)
      have hone : ∀ v ∈ css'.flatten, v.oneCell' = true := by
        intro u hu
        obtain ⟨cs, hc1, hc2⟩ := List.mem_flatten.1 hu
        obtain ⟨k, hk, rfl⟩ := List.mem_iff_getElem.1 hc1
        obtain ⟨cs', hcs', hr⟩ := k3.get (i := k) (b := news[k]'(by rw [← k1]; exact hk)) (List.getElem?_eq_getElem _)
        rw [List.getElem?_eq_getElem hk, Option.some.injEq] at hcs'
        subst hcs'
        exact E.one hr u hc2
      have hsm : s * E.size + m * E.size ≤ row.length * E.size := by rw [← Nat.add_mul]; exact Nat.mul_le_mul_right _ hfit
      have hrc : row.length * E.size ≤ c * E.size := Nat.mul_le_mul_right _ hnc
      have hl := run_loadCells_list (P := P) w ⟨b, off, none⟩ css'.flatten k4
      have hst := run_storeCells_at P g (s * E.size) e css'.flatten 0 cur w hg (by rw [hfl, hcs]; omega) hone
      obtain ⟨nw, hnw⟩ : ∃ nw : Array Value, nw = (cur.toList.take (s * E.size + 0) ++ css'.flatten ++ cur.toList.drop (s * E.size + 0 + css'.flatten.length)).toArray := ⟨_, rfl⟩
      rw [← hnw] at hst
      refine ⟨w.setRow g nw, ?_, ⟨css.take s ++ css' ++ css.drop (s + m), ⟨?_, Or.inr ⟨g, c, nw, ?_, hb, setRow_heap w g cur nw e (0, 0) hg, ?_, hcm, ?_, ?_⟩⟩, ?_, h3⟩, ?_⟩
      · rw [hfl] at hl
        simp [Builtin.copy_, run_underlying hT.und, Builtin.lenOf, Builtin.firstCells, sizeOf, typeInfo, hi, hsz, hmin, hl, hst]
      · simp only [List.flatten_append, List.length_append]
        rw [← flatten_take E.size css s h2.sizes, ← flatten_drop E.size css (s + m) h2.sizes, List.length_take, List.length_drop, hfl, flatten_len E.size css h2.sizes, hlen, over_len (by omega), Nat.add_mul]
        omega
      · rw [over_len (by omega)]
      · rw [over_len (by omega)]; exact hnc
      · rw [hnw]
        simp only [List.size_toArray, List.length_append, List.length_take, List.length_drop, Array.length_toList, hfl, hcs]
        omega
      · rw [over_len (by omega)]
        have hcl : cur.toList.length = c * E.size := by simp [hcs]
        have hA : cur.toList.take (s * E.size) = (css.take s).flatten := by
          rw [← flatten_take E.size css s h2.sizes, ← htake, List.take_take, Nat.min_eq_left (by omega)]
        have hD : (cur.toList.drop (s * E.size + m * E.size)).take (row.length * E.size - (s * E.size + m * E.size)) = (css.drop (s + m)).flatten := by
          rw [← flatten_drop E.size css (s + m) h2.sizes, ← htake, List.drop_take, Nat.add_mul]
        rw [hnw]
        simp only [Nat.add_zero, hfl, List.flatten_append]
        rw [List.take_append, List.take_of_length_le (by simp only [List.length_append, List.length_take, hfl, hcl]; omega), hA, ← hD]
        congr 2
        simp only [List.length_append, hfl]
        rw [← hA, List.length_take, hcl]
        omega
      · have hk' : ∀ b', S b' → (w.setRow g nw).heap[b']? = w.heap[b']? := fun b' hb' => setRow_other w g b' _ (fun e => hgS (by rw [← e]; exact hb'))
        unfold over
        rw [hm]
        exact All2.append (All2.append ((h2.take s).mono fun _ _ hr => Enc.blk hr hk') (k3.mono fun _ _ hr => Enc.blk hr hk')) ((h2.drop _).mono fun _ _ hr => Enc.blk hr hk')
      · exact ⟨rfl, rfl, rfl, by simp [World.setRow], fun k _ hk => setRow_other w g k _ (fun e => hk (by rw [e]))⟩
/-- the same as a step of a region that draws its order -/
theorem step_copyE {ops : Array Oper} {o : Oper} {a : Act} {K : Act → World → Prop} {Q : Exit → Act → World → Prop} {X : Prop} (hT : SliceTy P t e E.size bytes) (hgd : o.guard = none) (d x : Operand) (ho : o.op = .call { callee := .builtin .copy, args := #[d, x], argTypes := #[t, t] })
    {base g n c s m sc : Nat} {S S' : Nat → Prop} {row news : List α} {ad : Option Addr} (hd : a.eval d = .slice (some ⟨g, s * E.size, none⟩) (n - s) (c - s)) (hx : a.eval x = .slice ad m sc) (hown : Own E w base e S (.slice (some ⟨g, 0, none⟩) n c) row) (hm : m = news.length) (hfit : s + m ≤ row.length) (hsrc : SlAt E w S' ad news) (hflat : ∀ {cs : List Value} {x : α}, E.rd w S' cs x → E.rd w S cs x)
    (h : ∀ w', Own E w' base e S (.slice (some ⟨g, 0, none⟩) n c) (over row s news) → w.grownBy w' (some g) → K (a.put o.dst (goInt m)) w') :
    if Region.wanted o (yielded ops a.tmps) = true then Oper.wp P o a w K Q else X := by
  have hw : Region.wanted o (yielded ops a.tmps) = true := by simp [Region.wanted, hgd]
  rw [if_pos hw]
  obtain ⟨w', hr, h2, h3⟩ := run_copyE (P := P) (sc := sc) hT o.type hown hm hfit hsrc hflat
  unfold Oper.wp execOp
  simp only [ho, resolve, invoke, builtin, Sem.run_bind, Sem.run_pure, Result.andThen_ok, List.map_toArray, List.map_cons, List.map_nil, hd, hx, hr]
  exact h w' h2 h3
end
end Go.Proofs.YtnkmklnlaepdeaaGreat
