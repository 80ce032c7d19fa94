/-
  append onto a slice that the call owns, whatever its elements: one law for elements that were just laid, one for a slice that reads as a list. No program in sight.
  More laws of owned slices. No program in sight.
  A range over an iterator that stores into cells of its own between two rounds: its contract, and the law of the statement. Append within a round. No program in sight.
-/
import Derived.Test.YtnkmklnlaepdeaaGreatEnc
import Derived.RangeFuncNested
import Derived.RangeFuncBound
import Derived.RangeFuncCalls
import Derived.RangeFuncLeaves
import Derived.RangeFuncBox
import Derived.Shelf.Abstract
import Derived.Shelf.RegionOpen
import Derived.WalkKit
import Derived.OwnWalkIn
import Derived.TacticsInMore
import Derived.LoopNIn
import Derived.LoopIn
set_option linter.unusedVariables false
set_option linter.unusedSimpArgs false
set_option linter.unusedSectionVars false
set_option linter.unnecessarySimpa false
namespace Go.Proofs.YtnkmklnlaepdeaaGreat
open Go.RowKit

theorem heap_new2 (w : World) (o1 o2 : Obj) : ((w.alloc o1).alloc o2).heap[w.heap.size + 1]? = some o2 := by
  have := heap_alloc_new (w.alloc o1) o2
  simpa using this
theorem heap_new3 (w : World) (o1 o2 o3 : Obj) : (((w.alloc o1).alloc o2).alloc o3).heap[w.heap.size + 1 + 1]? = some o3 := by
  have := heap_alloc_new ((w.alloc o1).alloc o2) o3
  simpa using this
theorem grown_below {a w w' : World} {row : Option Nat} (h : a.grownBy w row) (hb : Below w.heap.size w w') : a.grownBy w' row :=
  ⟨hb.os.trans h.os, hb.tape.trans h.tape, hb.output.trans h.output, Nat.le_trans h.size hb.size, fun i hi hne => (hb.block i (Nat.lt_of_lt_of_le hi h.size)).trans (h.block i hi hne)⟩
theorem grown_alloc {a w : World} {row : Option Nat} (h : a.grownBy w row) (o : Obj) : a.grownBy (w.alloc o) row := grown_below h ((Below.refl _ _).alloc (Nat.le_refl _) o)
theorem grown_setNew {a w : World} {row : Option Nat} (h : a.grownBy w row) {p : Addr} (hp : a.heap.size ≤ p.block) (u : Value) : a.grownBy (w.setCell p u) row :=
  ⟨h.os, h.tape, h.output, by simpa [World.setCell] using h.size, fun i hi hne => (Below.heap_setCell w p u i (by omega)).trans (h.block i hi hne)⟩
theorem grown_Below {B : Nat} {a w w' : World} {row : Option Nat} (hb : Below B a w) (h : w.grownBy w' row) (hB : B ≤ w.heap.size) (hr : ∀ k, row = some k → B ≤ k) : Below B a w' := hb.grown h hB hr
/-- a slice type and its element type -/
structure SliceTy (P : Program) (t e : TypeId) (size bytes : Nat) : Prop where
  und : P.underlying t = some (.slice e)
  info : ∃ i z, P.info? e = some i ∧ i.zero = some z ∧ i.size = size ∧ i.bytes = bytes ∧ z.cells.size = size
  pos : 0 < size
theorem sliceTy_mk {P : Program} {t e : TypeId} {z : Value} {size bytes : Nat} (hu : P.underlying t = some (.slice e)) (h : (P.info? e).map (fun i => (i.zero, i.size, i.bytes)) = some (some z, size, bytes)) (hz : z.cells.size = size) (hp : 0 < size) : SliceTy P t e size bytes := by
  obtain ⟨i, h1, h2, h3, h4⟩ := info_parts h
  exact ⟨hu, ⟨i, z, h1, h2, h3, h4, hz⟩, hp⟩

section
variable {α : Type} {E : Enc α} {w w' : World} {base : Nat} {e : TypeId} {S S' : Nat → Prop} {v v' : Value} {l : List α}
theorem Own.form (h : Own E w base e S v l) : ∃ A c, v = .slice A l.length c := by
  obtain ⟨css, ⟨_, h2⟩, _⟩ := h
  rcases h2 with ⟨rfl, h0⟩ | ⟨g, cap, cur, rfl, _⟩
  · exact ⟨none, 0, by rw [h0]⟩
  · exact ⟨_, _, rfl⟩
theorem Own.rd (h : Own E w base e S v l) (hS : ∀ b, S b → Nw base w.heap.size b) : (encSl E).rd w (Nw base w.heap.size) [v] l := h.reads hS (fun g hg => h.lt g hg)
theorem Own.rd0 (h : Own E w base e S v l) (hS : ∀ b, S b → b < w.heap.size) : (encSl E).rd w (Bl w.heap.size) [v] l := h.reads hS (fun g hg => (h.lt g hg).2)
/-- the same slice in a later world, in whose old blocks nothing has turned -/
theorem Own.below (h : Own E w base e S v l) (hb : Below w.heap.size w w') (hS : ∀ b, S b → b < w.heap.size) : Own E w' base e S v l :=
  h.blk fun b hb' => hb.block b (by
    rcases hb' with hb' | hb'
    · exact hS b hb'
    · exact (h.lt b hb').2)
theorem Own.alloc (h : Own E w base e S v l) (hS : ∀ b, S b → b < w.heap.size) (o : Obj) : Own E (w.alloc o) base e S v l := h.below ((Below.refl _ _).alloc (Nat.le_refl _) o) hS
end

theorem flatten_set {α : Type} (size : Nat) : ∀ (l : List (List α)) (i j : Nat) (x : List α) (v : α), (∀ x ∈ l, x.length = size) → l[i]? = some x → j < size → l.flatten.set (i * size + j) v = (l.set i (x.set j v)).flatten
  | [], _, _, _, _, _, h, _ => by simp at h
  | y :: l, 0, j, x, v, hs, h, hj => by
    simp at h; subst h
    have hy := hs y (by simp)
    simp [List.set_append, hy, hj]
  | y :: l, i + 1, j, x, v, hs, h, hj => by
    have hy := hs y (by simp)
    have ih := flatten_set size l i j x v (fun z hz => hs z (by simp [hz])) (by simpa using h) hj
    rw [List.flatten_cons, List.set_append_right _ _ (by rw [hy, Nat.succ_mul]; omega), List.set_cons_succ, List.flatten_cons, ← ih, hy]
    congr 2
    rw [Nat.succ_mul]; omega
section
variable {α : Type} {E : Enc α} {w : World} {base g n c : Nat} {e : TypeId} {S : Nat → Prop} {l : List α}
/-- one element of an owned slice: its cells -/
theorem Own.elem {A : Option Addr} (h : Own E w base e S (.slice A n c) l) {i : Nat} (hi : i < l.length) :
    ∃ g cs, A = some ⟨g, 0, none⟩ ∧ base ≤ g ∧ g < w.heap.size ∧ ¬ S g ∧ (∀ j v, cs[j]? = some v → w.cell? ⟨g, i * E.size + j, none⟩ = some v) ∧ (∀ j, w.frozen? ⟨g, j, none⟩ = false) ∧ E.rd w S cs l[i] := by
  have hrow := h
  obtain ⟨css, h1, h2, h3⟩ := h
  obtain ⟨cs, hc1, hc2⟩ := h2.get (i := i) (b := l[i]) (List.getElem?_eq_getElem hi)
  rcases h1.2 with ⟨he, h0⟩ | ⟨g, cap, cur, he, hb, hg, hnc, hcm, hcs, htake⟩
  · omega
  · injection he with e1 e2 e3
    subst e1 e2 e3
    refine ⟨g, cs, rfl, hb, (Array.getElem?_eq_some_iff.1 hg).1, h3 g rfl, fun j u hu => ?_, fun j => by simp [World.frozen?, hg], hc2⟩
    have := h1.cells (g := g) rfl (i * E.size + j) u (flatten_at _ _ _ _ _ _ h2.sizes hc1 hu)
    have hadd : (⟨g, 0, none⟩ : Addr).add (i * E.size + j) = ⟨g, i * E.size + j, none⟩ := by unfold Addr.add; split <;> simp_all
    rw [hadd] at this
    exact this
/-- one cell of an element stored -/
theorem Own.stored (h : Own E w base e S (.slice (some ⟨g, 0, none⟩) n c) l) {i j : Nat} (hi : i < l.length) (hj : j < E.size) (u : Value) (y : α) (hr : ∀ cs, E.rd w S cs l[i] → E.rd w S (cs.set j u) y) :
    Own E (w.setCell ⟨g, i * E.size + j, none⟩ u) base e S (.slice (some ⟨g, 0, none⟩) n c) (l.set i y) := by
  obtain ⟨css, h1, h2, h3⟩ := h
  have hg : ¬ S g := h3 g rfl
  obtain ⟨cs, hc1, hc2⟩ := h2.get (i := i) (b := l[i]) (List.getElem?_eq_getElem hi)
  have hn : n = l.length := by
    rcases h1.2 with ⟨he, _⟩ | ⟨g', cap, cur, he, _⟩
    · cases he
    · injection he
  subst hn
  have hk : ∀ b, S b → (w.setCell ⟨g, i * E.size + j, none⟩ u).heap[b]? = w.heap[b]? := fun b hb => Below.heap_setCell _ _ _ _ (fun e => hg (by rw [show g = b from e.symm]; exact hb))
  refine ⟨css.set i (cs.set j u), ?_, (h2.set (hr cs hc2)).mono (fun _ _ hx => Enc.blk hx hk), h3⟩
  rw [← flatten_set E.size css i j cs u h2.sizes hc1 hj, List.length_set]
  exact (h1.stored _ u).1
end
/-- an owned slice whose elements' memory is anything from a block on but its own row -/
def OwnW {α : Type} (E : Enc α) (w : World) (base lo : Nat) (e : TypeId) (v : Value) (l : List α) : Prop := Own E w base e (fun b => Nw lo w.heap.size b ∧ v.ownBlock ≠ some b) v l
section
variable {α : Type} {E : Enc α} {w w' : World} {base lo : Nat} {e : TypeId} {v v' : Value} {l l' : List α}
theorem OwnW.nil_ : OwnW E w base lo e (.slice none 0 0) [] := Own.nil_
theorem OwnW.below (h : OwnW E w base lo e v l) (hb : Below w.heap.size w w') : OwnW E w' base lo e v l :=
  (Own.below h hb (fun _ h => h.1.2)).more (fun _ h => ⟨h.1.mono (Nat.le_refl _) hb.size, h.2⟩) (fun _ hg h => h.2 hg)
theorem OwnW.rd (h : OwnW E w base base e v l) : (encSl E).rd w (Nw base w.heap.size) [v] l := Own.rd h (fun _ h => h.1)
theorem OwnW.rd0 (h : OwnW E w base lo e v l) : (encSl E).rd w (Bl w.heap.size) [v] l := Own.rd0 h (fun _ h => h.1.2)
theorem OwnW.lt (h : OwnW E w base lo e v l) : ∀ g, v.ownBlock = some g → base ≤ g ∧ g < w.heap.size := Own.lt h
theorem OwnW.app (h : Own E w' base e (fun b => Nw lo w.heap.size b ∧ v.ownBlock ≠ some b) v' l') (hg : w.grownBy w' v.ownBlock) (hat : v'.ownBlock = v.ownBlock ∨ v'.ownBlock = some w.heap.size) : OwnW E w' base lo e v' l' :=
  h.more (fun b hb => ⟨hb.1.mono (Nat.le_refl _) hg.size, fun e => by
    rcases hat with hat | hat
    · exact hb.2 (by rw [← hat]; exact e)
    · rw [hat] at e
      injection e with e
      have := hb.1.2
      omega⟩) (fun _ hg h => h.2 hg)
theorem OwnW.form (h : OwnW E w base lo e v l) : ∃ A c, v = .slice A l.length c := Own.form h
theorem OwnW.parts {A : Option Addr} {n c : Nat} (h : OwnW E w base base e (.slice A n c) l) : n = l.length ∧ l.length ≤ c ∧ c ≤ maxLen ∧ SlAt E w (Nw base w.heap.size) A l := by
  obtain ⟨A', c', he, h1, h2, h3⟩ := h.rd
  simp only [List.cons.injEq, Value.slice.injEq, and_true] at he
  obtain ⟨rfl, rfl, rfl⟩ := he
  exact ⟨rfl, h1, h2, h3⟩
/-- what was made since B is not the row of a slice that lay below B -/
theorem OwnW.since {β : Type} {F : Enc β} {A : Option Addr} {m : List β} {B : Nat} (h : SlAt F w (Nw B w.heap.size) A m) (hlo : lo ≤ B) (hv : ∀ g, v.ownBlock = some g → g < B) : SlAt F w (fun b => Nw lo w.heap.size b ∧ v.ownBlock ≠ some b) A m :=
  h.more fun b hb => ⟨hb.mono hlo (Nat.le_refl _), fun e => by have := hv b e; have := hb.1; omega⟩
end
section
variable {P : Program} {w : World} {α : Type} {E : Enc α} {t e : TypeId} {bytes : Nat} {ops : Array Oper} {rest : List Oper} {o : Oper} {a : Act} {Q : Exit → Act → World → Prop}
/-- what append does to an owned slice: the run -/
theorem run_app (hT : SliceTy P t e E.size bytes) (ty : TypeId) {base : Nat} {S : Nat → Prop} {v : Value} {l : List α} (hown : Own E w base e S v l) {ad : Option Addr} {c m : Nat} {news : List α} {css : List (List Value)}
    (hm : m = news.length) (hcs : All2 (E.rd w S) css news) (hnews : news ≠ [] → ∃ x, ad = some x ∧ ∀ j u, css.flatten[j]? = some u → w.cell? (x.add j) = some u) (hS : ∀ b, S b → b < w.heap.size) (hbase : base ≤ w.heap.size)
    (h63 : l.length + m ≤ maxLen) (hbytes : (l.length + m) * bytes ≤ 140737488355328) :
    ∃ A c' w', (Builtin.append_ #[t, t] ty #[v, .slice ad m c]).run P w = .ok (.slice A (l.length + m) c') w' ∧ Own E w' base e S (.slice A (l.length + m) c') (l ++ news) ∧ w.grownBy w' v.ownBlock ∧
      ((Value.slice A (l.length + m) c').ownBlock = v.ownBlock ∨ (Value.slice A (l.length + m) c').ownBlock = some w.heap.size) := by
  obtain ⟨i, z, hi, hz, hsz, hby, hzs⟩ := hT.info
  have hpos := hT.pos
  subst hm
  have fin : ∀ (v' : Value) (w' : World) (xs : List Value), w.ownsRow base e E.size v l.length xs → w'.ownsRow base e E.size v' (l.length + news.length) (xs ++ css.flatten) → w.grownBy w' v.ownBlock → (v'.ownBlock = v.ownBlock ∨ v'.ownBlock = some w.heap.size) → Own E w' base e S v' (l ++ news) := by
    intro v' w' xs hx h2 h3 h5
    refine hown.appended hcs h3 hS h5 (fun xs' h' => ?_)
    have hxs : xs' = xs := by
      rcases h'.2 with ⟨rfl, hl0⟩ | ⟨g, cap, cur, rfl, _, hh, _, _, _, ht⟩
      · have e1 := h'.1
        have e2 := hx.1
        rw [hl0, Nat.zero_mul] at e1 e2
        rw [List.eq_nil_of_length_eq_zero e1, List.eq_nil_of_length_eq_zero e2]
      · rcases hx.2 with ⟨he, _⟩ | ⟨g', cap', cur', he, _, hh', _, _, _, ht'⟩
        · cases he
        · injection he with e1 e2 e3
          injection e1 with e1
          injection e1 with e1
          subst e1
          rw [hh] at hh'
          injection hh' with hh'
          injection hh' with e4
          subst e4
          exact ht.symm.trans ht'
    rw [hxs]
    exact h2
  obtain ⟨css0, h0, h1, h2⟩ := hown
  by_cases hn : news = []
  · subst hn
    have hc : css = [] := List.eq_nil_of_length_eq_zero (by simpa using hcs.length)
    subst hc
    have hrun : (Builtin.append_ #[t, t] ty #[v, .slice ad 0 c]).run P w = .ok v w := by
      rcases h0.2 with ⟨rfl, hl0⟩ | ⟨g, cap, cur, rfl, _, _, hnc, _⟩
      · cases ad with
        | none => simp [Builtin.append_, run_underlying hT.und, sizeOf, typeInfo, hi, Builtin.lenOf, Builtin.firstCells]
        | some x => simp [Builtin.append_, run_underlying hT.und, sizeOf, typeInfo, hi, Builtin.lenOf, Builtin.firstCells, loadCells, loadCellsFrom]
      · cases ad with
        | none => simp [Builtin.append_, run_underlying hT.und, sizeOf, typeInfo, hi, Builtin.lenOf, Builtin.firstCells, hnc, storeCells]
        | some x => simp [Builtin.append_, run_underlying hT.und, sizeOf, typeInfo, hi, Builtin.lenOf, Builtin.firstCells, loadCells, loadCellsFrom, hnc, storeCells]
    obtain ⟨A, c', rfl⟩ : ∃ A c', v = .slice A l.length c' := by
      rcases h0.2 with ⟨rfl, hl0⟩ | ⟨g, cap, cur, rfl, _⟩
      · exact ⟨none, 0, by rw [hl0]⟩
      · exact ⟨_, _, rfl⟩
    exact ⟨A, c', w, hrun, fin _ _ _ h0 (by simpa using h0) (World.grownBy.refl w _) (.inl rfl), World.grownBy.refl w _, .inl rfl⟩
  · obtain ⟨x, rfl, hcells⟩ := hnews hn
    have hl : css.flatten.length = news.length * E.size := by rw [flatten_len E.size css hcs.sizes, hcs.length]
    have hone : ∀ u ∈ css.flatten, u.oneCell' = true := by
      intro u hu
      obtain ⟨cs, hc1, hc2⟩ := List.mem_flatten.1 hu
      obtain ⟨k, hk, rfl⟩ := List.mem_iff_getElem.1 hc1
      obtain ⟨cs', hcs', hr⟩ := hcs.get (i := k) (b := news[k]'(by rw [← hcs.length]; exact hk)) (List.getElem?_eq_getElem _)
      rw [List.getElem?_eq_getElem hk, Option.some.injEq] at hcs'
      subst hcs'
      exact E.one hr u hc2
    obtain ⟨v', w', hrun, h3, h4, _, h6⟩ := run_append_own_at (P := P) w base t ty e i z E.size bytes hT.und hi hz hsz hby hzs hpos v l.length css0.flatten h0 x news.length c css.flatten hl hcells hone h63 hbytes hbase
    obtain ⟨g, cap, rfl, _, _⟩ := h3.form (by have : 0 < news.length := List.length_pos_iff.2 hn; omega)
    exact ⟨_, cap, w', hrun, fin _ _ _ h0 h3 h4 h6, h4, h6⟩
/-- append at a plain region's list: elements whose cells lie from an address on -/
theorem wpList_app (hT : SliceTy P t e E.size bytes) (hgd : o.guard = none) (s x : Operand) (ho : o.op = .call { callee := .builtin .append, args := #[s, x], argTypes := #[t, t] })
    {base : Nat} {S : Nat → Prop} {v : Value} {l : List α} (hs : a.eval s = v) (hown : Own E w base e S v l) {ad : Option Addr} {c m : Nat} {news : List α} {css : List (List Value)} (hx : a.eval x = .slice ad m c)
    (hm : m = news.length) (hcs : All2 (E.rd w S) css news) (hnews : news ≠ [] → ∃ x, ad = some x ∧ ∀ j u, css.flatten[j]? = some u → w.cell? (x.add j) = some u) (hS : ∀ b, S b → b < w.heap.size) (hbase : base ≤ w.heap.size)
    (h63 : l.length + m ≤ maxLen) (hbytes : (l.length + m) * bytes ≤ 140737488355328)
    (h : ∀ A c' w', Own E w' base e S (.slice A (l.length + m) c') (l ++ news) → w.grownBy w' v.ownBlock → ((Value.slice A (l.length + m) c').ownBlock = v.ownBlock ∨ (Value.slice A (l.length + m) c').ownBlock = some w.heap.size) → wpList P ops Q rest (a.put o.dst (.slice A (l.length + m) c')) w') :
    wpList P ops Q (o :: rest) a w := by
  refine wpList_plain hgd fun K hK => ?_
  obtain ⟨A, c', w', hr, h2, h3, h4⟩ := run_app (P := P) (c := c) hT o.type hown hm hcs hnews hS hbase h63 hbytes
  unfold Oper.wp execOp
  simp only [ho, resolve, invoke, builtin, Sem.run_bind, Sem.run_pure, Result.andThen_ok, List.map_toArray, List.map_cons, List.map_nil, hs, hx, hr]
  exact hK _ _ (h A c' w' h2 h3 h4)
/-- the same at a step of a region that draws its order -/
theorem step_app1 {K : Act → World → Prop} {X : Prop} (hT : SliceTy P t e E.size bytes) (hgd : o.guard = none) (s x : Operand) (ho : o.op = .call { callee := .builtin .append, args := #[s, x], argTypes := #[t, t] })
    {base : Nat} {S : Nat → Prop} {v : Value} {l : List α} (hs : a.eval s = v) (hown : Own E w base e S v l) {b c : Nat} (y : α) (cs : List Value) (hx : a.eval x = .slice (some ⟨b, 0, none⟩) 1 c)
    (hcs : E.rd w S cs y) (hnews : w.heap[b]? = some (.cells cs.toArray e (0, 0))) (hS : ∀ b, S b → b < w.heap.size) (hbase : base ≤ w.heap.size)
    (h63 : l.length + 1 ≤ maxLen) (hbytes : (l.length + 1) * bytes ≤ 140737488355328)
    (h : ∀ A c' w', Own E w' base e S (.slice A (l.length + 1) c') (l ++ [y]) → w.grownBy w' v.ownBlock → ((Value.slice A (l.length + 1) c').ownBlock = v.ownBlock ∨ (Value.slice A (l.length + 1) c').ownBlock = some w.heap.size) → K (a.put o.dst (.slice A (l.length + 1) c')) w') :
    if Region.wanted o (yielded ops a.tmps) = true then Oper.wp P o a w K Q else X := by
  have hw : Region.wanted o (yielded ops a.tmps) = true := by simp [Region.wanted, hgd]
  rw [if_pos hw]
  obtain ⟨A, c', w', hr, h2, h3, h4⟩ := run_app (P := P) (c := c) (m := 1) (news := [y]) (css := [cs]) (ad := some ⟨b, 0, none⟩) hT o.type hown rfl ⟨hcs, trivial⟩ (fun _ => ⟨_, rfl, fun j u hu => by
    have hadd : (⟨b, 0, none⟩ : Addr).add j = ⟨b, j, none⟩ := by unfold Addr.add; split <;> simp_all
    rw [hadd, cell_of_row w b j _ e (0, 0) hnews]
    simpa using hu⟩) hS hbase h63 hbytes
  unfold Oper.wp execOp
  simp only [ho, resolve, invoke, builtin, Sem.run_bind, Sem.run_pure, Result.andThen_ok, List.map_toArray, List.map_cons, List.map_nil, hs, hx, hr]
  exact h A c' w' h2 h3 h4
/-- append of one element that was just laid into a block of its own -/
theorem wpList_app1 (hT : SliceTy P t e E.size bytes) (hgd : o.guard = none) (s x : Operand) (ho : o.op = .call { callee := .builtin .append, args := #[s, x], argTypes := #[t, t] })
    {base : Nat} {S : Nat → Prop} {v : Value} {l : List α} (hs : a.eval s = v) (hown : Own E w base e S v l) {b c : Nat} (y : α) (cs : List Value) (hx : a.eval x = .slice (some ⟨b, 0, none⟩) 1 c)
    (hcs : E.rd w S cs y) (hnews : w.heap[b]? = some (.cells cs.toArray e (0, 0))) (hS : ∀ b, S b → b < w.heap.size) (hbase : base ≤ w.heap.size)
    (h63 : l.length + 1 ≤ maxLen) (hbytes : (l.length + 1) * bytes ≤ 140737488355328)
    (h : ∀ A c' w', Own E w' base e S (.slice A (l.length + 1) c') (l ++ [y]) → w.grownBy w' v.ownBlock → ((Value.slice A (l.length + 1) c').ownBlock = v.ownBlock ∨ (Value.slice A (l.length + 1) c').ownBlock = some w.heap.size) → wpList P ops Q rest (a.put o.dst (.slice A (l.length + 1) c')) w') :
    wpList P ops Q (o :: rest) a w := by
  refine wpList_app hT hgd s x ho hs hown (news := [y]) (css := [cs]) hx rfl ⟨hcs, trivial⟩ (fun _ => ⟨_, rfl, fun j u hu => ?_⟩) hS hbase h63 hbytes h
  have hadd : (⟨b, 0, none⟩ : Addr).add j = ⟨b, j, none⟩ := by unfold Addr.add; split <;> simp_all
  rw [hadd, cell_of_row w b j _ e (0, 0) hnews]
  simpa using hu
/-- append of all elements of a slice that reads as a list -/
theorem wpList_appAll (hT : SliceTy P t e E.size bytes) (hgd : o.guard = none) (s x : Operand) (ho : o.op = .call { callee := .builtin .append, args := #[s, x], argTypes := #[t, t] })
    {base : Nat} {S : Nat → Prop} {v : Value} {l : List α} (hs : a.eval s = v) (hown : Own E w base e S v l) {ad : Option Addr} {c m : Nat} {news : List α} (hx : a.eval x = .slice ad m c)
    (hm : m = news.length) (hr : SlAt E w S ad news) (hS : ∀ b, S b → b < w.heap.size) (hbase : base ≤ w.heap.size)
    (h63 : l.length + m ≤ maxLen) (hbytes : (l.length + m) * bytes ≤ 140737488355328)
    (h : ∀ A c' w', Own E w' base e S (.slice A (l.length + m) c') (l ++ news) → w.grownBy w' v.ownBlock → ((Value.slice A (l.length + m) c').ownBlock = v.ownBlock ∨ (Value.slice A (l.length + m) c').ownBlock = some w.heap.size) → wpList P ops Q rest (a.put o.dst (.slice A (l.length + m) c')) w') :
    wpList P ops Q (o :: rest) a w := by
  by_cases hn : news = []
  · subst hn
    exact wpList_app hT hgd s x ho hs hown (news := []) (css := []) hx hm trivial (fun h => absurd rfl h) hS hbase h63 hbytes h
  · obtain ⟨b, off, rfl, _⟩ := hr.some_ hn
    obtain ⟨css, h1, h2, h3, h4⟩ := hr.row
    exact wpList_app hT hgd s x ho hs hown (news := news) (css := css) hx hm h3 (fun _ => ⟨_, rfl, h4⟩) hS hbase h63 hbytes h
end
end Go.Proofs.YtnkmklnlaepdeaaGreat

namespace Go.Proofs.YtnkmklnlaepdeaaGreat
open Go.RowKit

theorem OwnW_new {α : Type} {E : Enc α} {w' : World} {base lo n m : Nat} {e : TypeId} {v v' : Value} {l : List α} {S : Nat → Prop} (h : Own E w' base e S v' l) (hat : v'.ownBlock = v.ownBlock ∨ v'.ownBlock = some m) (hv : ∀ g, v.ownBlock = some g → g < n) (hnm : n ≤ m) : ∀ g, v'.ownBlock = some g → ¬ (Nw lo m g ∧ v.ownBlock ≠ some g) := by
  rintro g hg ⟨h1, h2⟩
  rcases hat with hat | hat
  · exact h2 (by rw [← hat]; exact hg)
  · rw [hat] at hg
    injection hg with hg
    have := h1.2
    omega
theorem Own.make0 {α : Type} {E : Enc α} {w : World} {base : Nat} {e : TypeId} {S : Nat → Prop} {cur : Array Value} {cap : Nat} (hb : base ≤ w.heap.size) (hm : cap ≤ maxLen) (hs : cur.size = cap * E.size) (hS : ¬ S w.heap.size) :
    Own E (w.alloc (.cells cur e)) base e S (.slice (some ⟨w.heap.size, 0, none⟩) 0 cap) [] :=
  ⟨[], World.ownsRow_made w cur cap hb hm hs, trivial, fun g hg => by
    have : w.heap.size = g := by simpa [Value.ownBlock] using hg
    rw [← this]; exact hS⟩
/-- elements that hold no memory -/
theorem Own.flat {α : Type} {E : Enc α} {w : World} {base : Nat} {e : TypeId} {S : Nat → Prop} {v : Value} {l : List α} (h : Own E w base e S v l) (hf : ∀ {cs x}, E.rd w S cs x → E.rd w (fun _ => False) cs x) : Own E w base e (fun _ => False) v l := by
  obtain ⟨css, h1, h2, _⟩ := h
  exact ⟨css, h1, h2.mono (fun _ _ hr => hf hr), fun _ _ h => h⟩
end Go.Proofs.YtnkmklnlaepdeaaGreat

namespace Go.Proofs.YtnkmklnlaepdeaaGreat
open Go.RowKit

/-- the blocks that an iterator may turn: walks' objects, and cells of types of its own -/
def ItObj (own : TypeId → Prop) (o : Obj) : Prop := o.isWalk = true ∨ ∃ cs ty fr, o = .cells cs ty fr ∧ own ty
def AbidesT {β : Type} (own : TypeId → Prop) (B : Nat) (J : β → World → Prop) : Prop :=
  ∀ s W W' row, J s W → W.grownBy W' row → (∀ r, row = some r → B ≤ r ∧ ∃ o : Obj, W.heap[r]? = some o ∧ ItObj own o) → J s W'
/-- the contract of an iterator: each round keeps what it names, and it turns blocks of its own alone -/
def SeqStopsT {α : Type} (own : TypeId → Prop) (F : Fence) (n : Nat) (P : Program) (g : Nat) (lb : Array Value) (encs : α → Array Value) (Kp : World → World → Prop) (S Sp : List α → Prop) (N : Nat) (w : World) : Prop :=
  ∀ (l : Nat) (J Jx : List α → World → Prop) (W : World), Below w.heap.size w W → AbidesT own W.heap.size J → AbidesT own W.heap.size Jx →
    (∀ pre x W1, J pre W1 → pre.length < N → YieldAt F (n - 1) P l (encs x) W1 fun e W' =>
      (e = .returned (.bool true) ∧ J (pre ++ [x]) W' ∧ Kp W1 W') ∨ (e = .returned (.bool false) ∧ Jx (pre ++ [x]) W')) →
    J [] W →
    CallsIn F n P g (#[.func (.yield l) #[] #[]] ++ lb) W fun e W' => (∃ v, e = .returned v) ∧ ((∃ xs, S xs ∧ J xs W') ∨ (∃ pre, Sp pre ∧ Jx pre W'))
theorem AbidesT.from {β : Type} {own : TypeId → Prop} {B : Nat} {J : β → World → Prop} (h : AbidesT own B J) : AbidesFrom B J :=
  fun s W W' row hs hg hr => h s W W' row hs hg (fun r e => by obtain ⟨h1, o, h2, h3⟩ := hr r e; exact ⟨h1, o, h2, Or.inl h3⟩)
/-- an iterator that stores nothing -/
theorem SeqStopsK.toT {α : Type} {own : TypeId → Prop} {F : Fence} {n : Nat} {P : Program} {g : Nat} {lb : Array Value} {encs : α → Array Value} {Kp : World → World → Prop} {S Sp : List α → Prop} {N : Nat} {w : World}
    (h : SeqStopsK F n P g lb encs Kp S Sp N w) : SeqStopsT own F n P g lb encs Kp S Sp N w := fun l J Jx W hW hJ hJx hY h0 => h l J Jx W hW hJ.from hJx.from hY h0
/-- the caller's invariant abides the turn of what is no cells, or the iterator's own -/
def OwnT {β : Type} (own : TypeId → Prop) (B : Nat) (I : β → World → Prop) : Prop :=
  ∀ s W W' row, I s W → W.grownBy W' row → (∀ r, row = some r → B ≤ r ∧ ∃ o : Obj, W.heap[r]? = some o ∧ (o.isCells = false ∨ ItObj own o)) → I s W'
section
variable {β : Type} {own : TypeId → Prop} {B : Nat} {I I' : β → World → Prop}
theorem OwnT.putObj (h : OwnT own B I) {s : β} {W : World} {l : Nat} {o : Obj} (o' : Obj) (hs : I s W) (hB : B ≤ l) (hl : W.heap[l]? = some o) (ho : o.isCells = false) : I s (W.putObj l o') :=
  h s W _ (some l) hs (grownBy_putObj' W l o') (fun r e => by cases e; exact ⟨hB, o, hl, Or.inl ho⟩)
theorem OwnT.alloc (h : OwnT own B I) {s : β} {W : World} (o : Obj) (hs : I s W) : I s (W.alloc o) :=
  h s W _ none hs (World.grownBy_alloc W o none) (fun r e => by cases e)
theorem OwnT.and (h : OwnT own B I) (h' : OwnT own B I') : OwnT own B (fun s W => I s W ∧ I' s W) := fun s W W' row hs hg hr => ⟨h s W W' row hs.1 hg hr, h' s W W' row hs.2 hg hr⟩
theorem ownT_below {n₀ : Nat} {w₀ : World} (hn : n₀ ≤ w₀.heap.size) (hB : n₀ ≤ B) : OwnT own B (fun (_ : β) W => Below n₀ w₀ W) :=
  fun _ _ _ _ hs hg hr => hs.grown hg (Nat.le_trans hn hs.size) (fun k e => Nat.le_trans hB (hr k e).1)
end
theorem grownBy_keepsT {own : TypeId → Prop} {W W' : World} {row : Option Nat} (hg : W.grownBy W' row) (hrow : ∀ r, row = some r → ∃ o : Obj, W.heap[r]? = some o ∧ ItObj own o)
    {k : Nat} {o : Obj} (hk : W.heap[k]? = some o) (hw : ¬ ItObj own o) : W'.heap[k]? = W.heap[k]? := by
  refine hg.block k (Array.getElem?_eq_some_iff.1 hk).1 ?_
  intro e
  obtain ⟨o', ho', hw'⟩ := hrow k e.symm
  rw [hk] at ho'; cases ho'; exact hw hw'
variable {F : Fence} {n : Nat} {P : Program}
/-- the statement -/
theorem wpIn_rangeFunc_ownT {α : Type} {own : TypeId → Prop} {g : Operand} {ps : Array Tmp} {assign body : Code} {Q : Exit → Act → World → Prop} {a : Act} {w : World}
    (hro : F.round = none) (h1 : 1 ≤ n) {gf : Nat} {lb : Array Value} (hg : a.eval g = .func (.func gf) #[] lb) (hFg : F.fn gf) (eg : ∀ args w, (callFunc gf args).run P w = .ok (.enter gf args) w)
    {encs : α → Array Value} {Kp : World → World → Prop} {S Sp : List α → Prop} {N : Nat} {w0 : World} (hseq : SeqStopsT own F (n - 1) P gf lb encs Kp S Sp N w0)
    (hKt : ∀ {A B C : World}, Kp A B → Kp B C → Kp A C) (hKb : ∀ (W : World) (l : Nat) (o o' : Obj), w.heap.size ≤ l → W.heap[l]? = some o → o.isCells = false → o.isWalk = false → Kp W (W.putObj l o')) (hb0 : Below w0.heap.size w0 w) (hps : ∀ x, (encs x).size = ps.size)
    (I : List α → World → Prop) (Ix : Code → List α → World → Prop) (hI : OwnT own w.heap.size I) (hIx : ∀ c, OwnT own w.heap.size (Ix c)) (h0 : I [] w) (Ax : α → Act → World → Prop) (hAx : ∀ x a', OwnFrom w.heap.size (fun (_ : Unit) W => Ax x a' W))
    (hassign : ∀ (l : Nat) (pre : List α) (x : α) (W : World) (K : Act → World → Prop), I pre W → (∀ a' W', KeepsFrom w.heap.size W W' → Kp W W' → I pre W' → Ax x a' W' → K a' W') →
      assign.wpIn (F.inRound l) (n - 1 - 1) P (Exit.then K (fun _ _ _ => False)) { tmps := (ps.zip (encs x)).foldl (fun t (p, v) => t.setIfInBounds p v) a.tmps, defers := [] } W)
    (hbody : ∀ (l : Nat) (pre : List α) (x : α) (a' : Act) (W : World), w.heap.size ≤ l → (∃ r, W.heap[l]? = some (.loop r)) → I pre W → Ax x a' W → pre.length < N → body.wpIn (F.inRound l) (n - 1 - 1) P (ownPostG w.heap.size Kp I Ix (pre ++ [x]) W) a' W)
    (hdone : ∀ (D : Nat) (xs : List α) (W : World), w.heap.size ≤ D → S xs → I xs W → W.heap[D]? = some (.deferred (some [])) → Q .normal { a with defers := { target := .collected D, args := #[] } :: a.defers } W)
    (hstop : ∀ (D : Nat) (c : Code) (pre : List α) (W : World), w.heap.size ≤ D → Sp pre → Ix c pre W → W.heap[D]? = some (.deferred (some [])) → c.wpIn F n P Q { a with defers := { target := .collected D, args := #[] } :: a.defers } W) :
    (Code.rangeFunc g ps assign body).wpIn F n P Q a w := by
  refine wpIn_rangeFunc ?_
  intro fn hfn
  rw [hro]
  obtain ⟨rec, hrec⟩ : ∃ rec : LoopState → Option Code → Loop, rec = fun st pe => { state := st, pending := pe, fn, tmps := a.tmps, params := ps, assign, body, defers := w.heap.size } := ⟨_, rfl⟩
  obtain ⟨W1, hW1⟩ : ∃ W1, (w.alloc (.deferred (some []))).alloc (.loop (rec .ready none)) = W1 := ⟨_, rfl⟩
  have hL1 : W1.heap[w.heap.size + 1]? = some (.loop (rec .ready none)) := by
    rw [← hW1]; have := World.alloc_heap_new (w.alloc (.deferred (some []))) (.loop (rec .ready none)); rwa [World.size_alloc] at this
  have hK1 : W1.heap[w.heap.size]? = some (.deferred (some [])) := by
    rw [← hW1]; exact (Below.heap_alloc _ _ _ (by simp)).trans (World.alloc_heap_new w _)
  have hI1 : I [] W1 := by rw [← hW1]; exact hI.alloc _ (hI.alloc _ h0)
  have hb1 : Below w0.heap.size w0 W1 := by
    rw [← hW1]; exact hb0.trans ((((Below.refl _ w).alloc (Nat.le_refl _) _).alloc (by simp) _).mono hb0.size)
  refine ⟨w.heap.size + 1, [{ target := .collected w.heap.size, args := #[] }], W1, { target := .fn (.func gf) lb, args := #[.func (.yield (w.heap.size + 1)) #[] #[]] }, W1, gf,
    #[.func (.yield (w.heap.size + 1)) #[] #[]] ++ lb, W1, ?_, ?_, ?_, ?_, fun _ => h1, ?_⟩
  · rw [← hW1, hrec]; exact run_enterLoop_outer _ _ _ _ _
  · simp only [resolve, hg]
    simp [go_sem]
  · intro f' hf'; simp [Target.leads] at hf'; subst hf'; exact hFg
  · simp [invoke, go_sem, eg]
  · -- THE ITERATOR's CONTRACT, AT THE CALLER's INVARIANT WITH THE TWO FACTS OF BOOK-KEEPING BESIDE IT
    have hnw : ∀ {A B : World} {row : Option Nat}, (∀ r, row = some r → W1.heap.size ≤ r ∧ ∃ o : Obj, A.heap[r]? = some o ∧ ItObj own o) → (∀ r, row = some r → w.heap.size ≤ r ∧ ∃ o : Obj, A.heap[r]? = some o ∧ (o.isCells = false ∨ ItObj own o)) :=
      fun hr r e => by obtain ⟨hB, o, ho, hw⟩ := hr r e; exact ⟨by rw [← hW1] at hB; simp at hB; omega, o, ho, Or.inr hw⟩
    refine (hseq (w.heap.size + 1)
      (fun pre W => I pre W ∧ W.heap[w.heap.size + 1]? = some (.loop (rec .ready none)) ∧ W.heap[w.heap.size]? = some (.deferred (some [])))
      (fun pre W => ∃ c, Ix c pre W ∧ W.heap[w.heap.size + 1]? = some (.loop (rec .done (some c))) ∧ W.heap[w.heap.size]? = some (.deferred (some [])))
      W1 hb1
      (fun s A B row hs hg' hr => ⟨hI s A B row hs.1 hg' (hnw (B := B) hr), (grownBy_keepsT hg' (fun r e => (hr r e).2) hs.2.1 (by rintro (h | ⟨_, _, _, h, _⟩) <;> cases h)).trans hs.2.1, (grownBy_keepsT hg' (fun r e => (hr r e).2) hs.2.2 (by rintro (h | ⟨_, _, _, h, _⟩) <;> cases h)).trans hs.2.2⟩)
      (fun s A B row hs hg' hr => by
        obtain ⟨c, hc, hl, hk⟩ := hs
        exact ⟨c, hIx c s A B row hc hg' (hnw (B := B) hr), (grownBy_keepsT hg' (fun r e => (hr r e).2) hl (by rintro (h | ⟨_, _, _, h, _⟩) <;> cases h)).trans hl, (grownBy_keepsT hg' (fun r e => (hr r e).2) hk (by rintro (h | ⟨_, _, _, h, _⟩) <;> cases h)).trans hk⟩)
      ?_ ⟨hI1, hL1, hK1⟩).mono ?_
    · -- ONE ROUND
      rintro pre x W ⟨hi, hl, hk⟩ hlen
      have hlt : w.heap.size + 1 < W.heap.size := (Array.getElem?_eq_some_iff.1 hl).1
      have hy := run_yield (P := P) (args := encs x) hl (by rw [hrec]; exact hps x)
      rw [hrec] at hy
      refine ⟨fn, _, assign, body, hy, roundIn_of_wpIn hfn (hassign _ pre x W _ hi ?_)⟩
      clear hy
      intro a' Wa hkfa hkpa hia hax
      -- THE ASSIGN CODE MAY HAVE LAID BLOCKS (a loop variable that an inner function captures is boxed): the two blocks of book-keeping lie as they lay
      replace hl := hkfa.same _ _ (by omega) hl rfl
      replace hk := hkfa.same _ _ (Nat.le_refl _) hk rfl
      replace hlt : w.heap.size + 1 < Wa.heap.size := (Array.getElem?_eq_some_iff.1 hl).1
      replace hi := hia
      clear hia
      revert hkpa hkfa
      generalize W = Wb
      intro hkfa hkpa
      obtain ⟨W, rfl⟩ : ∃ W, W = Wa := ⟨_, rfl⟩
      refine ⟨_, run_beginRound hl (by rw [hrec]), ?_⟩
      have hl2 : (W.putObj (w.heap.size + 1) (.loop { rec .ready none with state := .busy })).heap[w.heap.size + 1]? = some (.loop { rec .ready none with state := .busy }) := World.putObj_heap_same hlt
      have hk2 : (W.putObj (w.heap.size + 1) (.loop { rec .ready none with state := .busy })).heap[w.heap.size]? = some (.deferred (some [])) := (World.putObj_heap_other (by omega)).trans hk
      have hw2 : Kp W (W.putObj (w.heap.size + 1) (.loop { rec .ready none with state := .busy })) := hKb _ _ _ _ (by omega) hl rfl rfl
      refine wpIn_mono (hbody _ pre x a' _ (by omega) ⟨_, hl2⟩ (hI.putObj _ hi (by omega) hl rfl) ((hAx x a').putObj (s := ()) _ hax (by omega) hl rfl) hlen) ?_
      have fin : ∀ (jump : Option Code) (W3 : World), KeepsFrom w.heap.size (W.putObj (w.heap.size + 1) (.loop { rec .ready none with state := .busy })) W3 →
          (Instr.endRound (w.heap.size + 1) jump).run P W3 = .ok (.bool jump.isNone) (W3.putObj (w.heap.size + 1) (.loop (rec (if jump.isNone then .ready else .done) jump))) ∧
          W3.heap[w.heap.size + 1]? = some (.loop { rec .ready none with state := .busy }) ∧
          (W3.putObj (w.heap.size + 1) (.loop (rec (if jump.isNone then .ready else .done) jump))).heap[w.heap.size + 1]? = some (.loop (rec (if jump.isNone then .ready else .done) jump)) ∧
          (W3.putObj (w.heap.size + 1) (.loop (rec (if jump.isNone then .ready else .done) jump))).heap[w.heap.size]? = some (.deferred (some [])) := fun jump W3 hk3 => by
        have hl3 := hk3.same _ _ (by omega) hl2 rfl
        have := run_endRound (P := P) jump hl3
        rw [hrec] at this ⊢
        exact ⟨this, by rw [hrec] at hl3; exact hl3, World.putObj_heap_same (Array.getElem?_eq_some_iff.1 hl3).1, (World.putObj_heap_other (by omega)).trans (hk3.same _ _ (Nat.le_refl _) hk2 rfl)⟩
      rintro e a3 W3 hp
      cases e with
      | normal =>
        obtain ⟨hk3, hkp3, hi3⟩ := hp
        obtain ⟨hr, hl3, hl4, hk4⟩ := fin none W3 hk3
        exact ⟨_, _, hr, .inl ⟨rfl, ⟨hI.putObj _ hi3 (by omega) hl3 rfl, hl4, hk4⟩, hKt hkpa (hKt (hKt hw2 hkp3) (hKb _ _ _ _ (by omega) hl3 rfl rfl))⟩⟩
      | ret =>
        obtain ⟨hk3, hi3⟩ := hp
        obtain ⟨hr, hl3, hl4, hk4⟩ := fin (some .ret) W3 hk3
        exact ⟨_, _, hr, .inr ⟨rfl, .ret, (hIx _).putObj _ hi3 (by omega) hl3 rfl, hl4, hk4⟩⟩
      | exit id =>
        obtain ⟨hk3, hi3⟩ := hp
        obtain ⟨hr, hl3, hl4, hk4⟩ := fin (some (.exit id)) W3 hk3
        exact ⟨_, _, hr, .inr ⟨rfl, .exit id, (hIx _).putObj _ hi3 (by omega) hl3 rfl, hl4, hk4⟩⟩
      | goto t =>
        obtain ⟨hk3, hi3⟩ := hp
        obtain ⟨hr, hl3, hl4, hk4⟩ := fin (some (.goto t)) W3 hk3
        exact ⟨_, _, hr, .inr ⟨rfl, .goto t, (hIx _).putObj _ hi3 (by omega) hl3 rfl, hl4, hk4⟩⟩
      | panic ch => exact hp.elim
      | outgrown => exact hp.elim
    · -- BEHIND THE ITERATOR
      rintro e W2 ⟨⟨v, rfl⟩, (⟨xs, hS, hi, hl, hk⟩ | ⟨pre, hSp, c, hi, hl, hk⟩)⟩
      · exact ⟨none, _, by have := run_endLoop (P := P) hl (by rw [hrec]; simp); rw [hrec] at this; exact this, hdone _ xs _ (Nat.le_refl _) hS (hI.putObj _ hi (by omega) hl rfl) ((World.putObj_heap_other (by omega)).trans hk)⟩
      · exact ⟨some c, _, by have := run_endLoop (P := P) hl (by rw [hrec]; simp); rw [hrec] at this; exact this, hstop _ c pre _ (Nat.le_refl _) hSp ((hIx c).putObj _ hi (by omega) hl rfl) ((World.putObj_heap_other (by omega)).trans hk)⟩
section
variable {w : World} {α : Type} {E : Enc α} {t e : TypeId} {bytes : Nat} {ops : Array Oper} {rest : List Oper} {o : Oper} {a : Act} {Q : Exit → Act → World → Prop}
/-- append of one element that was just laid, inside a fence -/
theorem wpListIn_app1 (hT : SliceTy P t e E.size bytes) (hgd : o.guard = none) (s x : Operand) (ho : o.op = .call { callee := .builtin .append, args := #[s, x], argTypes := #[t, t] })
    {base : Nat} {S : Nat → Prop} {v : Value} {l : List α} (hs : a.eval s = v) (hown : Own E w base e S v l) {b c : Nat} (y : α) (cs : List Value) (hx : a.eval x = .slice (some ⟨b, 0, none⟩) 1 c)
    (hcs : E.rd w S cs y) (hnews : w.heap[b]? = some (.cells cs.toArray e (0, 0))) (hS : ∀ b, S b → b < w.heap.size) (hbase : base ≤ w.heap.size)
    (h63 : l.length + 1 ≤ maxLen) (hbytes : (l.length + 1) * bytes ≤ 140737488355328)
    (h : ∀ A c' w', Own E w' base e S (.slice A (l.length + 1) c') (l ++ [y]) → w.grownBy w' v.ownBlock → ((Value.slice A (l.length + 1) c').ownBlock = v.ownBlock ∨ (Value.slice A (l.length + 1) c').ownBlock = some w.heap.size) → wpListIn F n P ops Q rest (a.put o.dst (.slice A (l.length + 1) c')) w') :
    wpListIn F n P ops Q (o :: rest) a w := by
  refine wpListIn_plain hgd fun K hK => ?_
  obtain ⟨A, c', w', hr, h2, h3, h4⟩ := run_app (P := P) (c := c) (m := 1) (news := [y]) (css := [cs]) (ad := some ⟨b, 0, none⟩) hT o.type hown rfl ⟨hcs, trivial⟩ (fun _ => ⟨_, rfl, fun j u hu => by
    have hadd : (⟨b, 0, none⟩ : Addr).add j = ⟨b, j, none⟩ := by unfold Addr.add; split <;> simp_all
    rw [hadd, cell_of_row w b j _ e (0, 0) hnews]
    simpa using hu⟩) hS hbase h63 hbytes
  unfold Oper.wpIn
  refine ⟨?_, ?_⟩
  · simp [Oper.about, ho, resolve, Target.leads, Sem.run_pure]
  · rw [Oper.semAt_plain F _ _ (by rw [ho]; intro c hc'; cases hc')]
    simp only [execOp, ho, resolve, invoke, builtin, Sem.run_bind, Sem.run_pure, Result.andThen_ok, List.map_toArray, List.map_cons, List.map_nil, hs, hx, hr]
    exact hK _ _ (h A c' w' h2 h3 h4)
end
/-- what a round keeps for an iterator that stores: what lay below, and every block of cells of its own types -/
def KpT (own : TypeId → Prop) (n₀ : Nat) (W W' : World) : Prop := Below n₀ W W' ∧ W.heap.size ≤ W'.heap.size ∧ ∀ (i : Nat) (cs : Array Value) (T : TypeId) (fr : Nat × Nat), W.heap[i]? = some (.cells cs T fr) → own T → W'.heap[i]? = W.heap[i]?
section
variable {own : TypeId → Prop} {n₀ : Nat} {A B C : World}
theorem KpT.trans (h : KpT own n₀ A B) (k : KpT own n₀ B C) : KpT own n₀ A C :=
  ⟨h.1.trans k.1, Nat.le_trans h.2.1 k.2.1, fun i cs T fr hi hT => by
    have h1 := h.2.2 i cs T fr hi hT
    exact (k.2.2 i cs T fr (h1.trans hi) hT).trans h1⟩
theorem KpT.putObj (W : World) (l : Nat) (o o' : Obj) (hn : n₀ ≤ l) (h : W.heap[l]? = some o) (ho : o.isCells = false) (hs : n₀ ≤ W.heap.size) : KpT own n₀ W (W.putObj l o') :=
  ⟨(Below.refl n₀ W).grown (grownBy_putObj' W l o') hs (fun k e => by cases e; exact hn), by simp, fun i cs T fr hi hT => World.putObj_heap_other (fun e => by subst e; rw [h] at hi; cases hi; cases ho)⟩
theorem KpT.grown {W W' : World} {row : Option Nat} (hg : W.grownBy W' row) (hs : n₀ ≤ W.heap.size) (hr : ∀ k, row = some k → n₀ ≤ k ∧ ∃ cs T fr, W.heap[k]? = some (.cells cs T fr) ∧ ¬ own T) : KpT own n₀ W W' :=
  ⟨(Below.refl n₀ W).grown hg hs (fun k e => (hr k e).1), hg.size, fun i cs T fr hi hT => hg.block i (Array.getElem?_eq_some_iff.1 hi).1 (fun e => by
    obtain ⟨_, cs', T', fr', h1, h2⟩ := hr i e.symm
    rw [hi] at h1; cases h1; exact h2 hT)⟩
theorem KpT.alloc (W : World) (o : Obj) (hs : n₀ ≤ W.heap.size) : KpT own n₀ W (W.alloc o) := KpT.grown (World.grownBy_alloc W o none) hs (fun k e => by cases e)
theorem KpT.refl (W : World) : KpT own n₀ W W := ⟨Below.refl _ _, Nat.le_refl _, fun _ _ _ _ _ _ => rfl⟩
theorem Boxed.own_ {W : World} {b : Nat} {t : TypeId} {v : Value} (h : Boxed W b t v) : ∃ cs T fr, W.heap[b]? = some (.cells cs T fr) ∧ (¬ own t → ¬ own T) := ⟨_, _, _, h, fun h => h⟩
end
theorem Own.cellsOf {α : Type} {E : Enc α} {w : World} {base : Nat} {e : TypeId} {S : Nat → Prop} {v : Value} {l : List α} (h : Own E w base e S v l) : ∀ g, v.ownBlock = some g → base ≤ g ∧ ∃ cs fr, w.heap[g]? = some (.cells cs e fr) := by
  obtain ⟨css, h1, h2, h3⟩ := h
  intro g hg
  rcases h1.2 with ⟨rfl, _⟩ | ⟨g', cap, cur, rfl, hb, hh, _⟩
  · simp [Value.ownBlock] at hg
  · have : g' = g := by simpa [Value.ownBlock] using hg
    subst this
    exact ⟨hb, _, _, hh⟩
/-- a box that holds a slice that the caller owns, whose elements hold no memory -/
def BoxOwn {α : Type} (E : Enc α) (n₀ : Nat) (b : Nat) (t e : TypeId) (l : List α) (W : World) : Prop := ∃ v, Boxed W b t v ∧ Own E W n₀ e (fun _ => False) v l
theorem boxOwn_ownT {α β : Type} {E : Enc α} {n₀ b B : Nat} {t e : TypeId} {own : TypeId → Prop} (f : β → List α) (ht : ¬ own t) (he : ¬ own e) : OwnT own B (fun s W => BoxOwn E n₀ b t e (f s) W) := by
  rintro s X Y row ⟨v, hv, hr⟩ hg hrow
  have key : ∀ (k : Nat) (cs : Array Value) (T : TypeId) (fr : Nat × Nat), X.heap[k]? = some (.cells cs T fr) → ¬ own T → Y.heap[k]? = X.heap[k]? := fun k cs T fr hk hT =>
    hg.block k (Array.getElem?_eq_some_iff.1 hk).1 (fun e' => by
      obtain ⟨_, o, ho, hc⟩ := hrow k e'.symm
      rw [hk] at ho; cases ho
      rcases hc with hc | (hc | ⟨_, _, _, hc, hw⟩)
      · cases hc
      · cases hc
      · cases hc; exact hT hw)
  refine ⟨v, (key b _ _ _ hv ht).trans hv, hr.blk (fun g hg' => ?_)⟩
  rcases hg' with hg' | hg'
  · exact hg'.elim
  · obtain ⟨_, cs, fr, h1⟩ := hr.cellsOf g hg'
    exact key g cs e fr h1 he
theorem BoxOwn.kept {α : Type} {E : Enc α} {W W' : World} {row : Option Nat} {n₀ b : Nat} {t e : TypeId} {l : List α} (h : BoxOwn E n₀ b t e l W) (hg : W.grownBy W' row) (hr : ∀ k, row = some k → ∃ o : Obj, W.heap[k]? = some o ∧ o.isCells = false) : BoxOwn E n₀ b t e l W' :=
  boxOwn_ownT (B := 0) (own := fun _ => False) (fun _ : Unit => l) (fun h => h) (fun h => h) () W W' row h hg (fun r e => by obtain ⟨o, h1, h2⟩ := hr r e; exact ⟨Nat.zero_le _, o, h1, Or.inl h2⟩)
theorem BoxOwn.alloc {α : Type} {E : Enc α} {W : World} {n₀ b : Nat} {t e : TypeId} {l : List α} (h : BoxOwn E n₀ b t e l W) (o : Obj) : BoxOwn E n₀ b t e l (W.alloc o) := h.kept (World.grownBy_alloc W o none) (fun k e => by cases e)
theorem cells_own {β : Type} {B k : Nat} {o : Obj} (ho : o.isCells = true) (p : World → Prop) (hp : ∀ W, p W ↔ W.heap[k]? = some o) : OwnFrom B (fun (_ : β) W => p W) := by
  intro s X Y row hs hg hr
  have h := (hp X).1 hs
  refine (hp Y).2 ((hg.block k (Array.getElem?_eq_some_iff.1 h).1 (fun e => ?_)).trans h)
  obtain ⟨_, o', h1, h2⟩ := hr k e.symm
  rw [h] at h1; cases h1; rw [ho] at h2; cases h2
/-- behind 'out = append(out, x)' on such a box -/
theorem BoxOwn.appended {α : Type} {E : Enc α} {W w1 : World} {n₀ b : Nat} {t e : TypeId} {own : TypeId → Prop} {l l' : List α} {v v' : Value} {tmp : Obj} (hv : Boxed W b t v) (hte : t ≠ e) (ht : ¬ own t) (he : ¬ own e) (hrow : Own E W n₀ e (fun _ => False) v l) (hn₀ : n₀ ≤ W.heap.size) (hb : n₀ ≤ b)
    (hown : Own E w1 n₀ e (fun _ => False) v' l') (hgrow : (W.alloc tmp).grownBy w1 v.ownBlock) :
    Boxed w1 b t v ∧ BoxOwn E n₀ b t e l' (w1.setCell ⟨b, 0, none⟩ v') ∧ KeepsOthers W (w1.setCell ⟨b, 0, none⟩ v') ∧ KpT own n₀ W (w1.setCell ⟨b, 0, none⟩ v') := by
  have hne : some b ≠ v.ownBlock := fun e' => by
    obtain ⟨_, cs, fr, h1⟩ := hrow.cellsOf b e'.symm
    rw [show W.heap[b]? = _ from hv] at h1; cases h1; exact hte rfl
  have hv1 : Boxed w1 b t v := (hv.alloc tmp).kept hgrow hne
  have hne' : v'.ownBlock ≠ some b := fun e' => by
    obtain ⟨_, cs, fr, h1⟩ := hown.cellsOf b e'
    rw [show w1.heap[b]? = _ from hv1] at h1; cases h1; exact hte rfl
  have hw : Own E (W.alloc tmp) n₀ e (fun _ => False) v l := hrow.alloc (fun _ h => h.elim) tmp
  refine ⟨hv1, ⟨v', hv1.set v', hown.blk (fun g hg => ?_)⟩, ?_, ?_⟩
  · rcases hg with hg | hg
    · exact hg.elim
    · exact Below.heap_setCell _ _ _ _ (fun e' => hne' (by rw [hg, e']))
  · refine ((KeepsOthers.alloc W tmp).trans (KeepsOthers.of_grownBy hgrow fun j o ej hj => ?_)).trans (KeepsOthers.setCell _ _ _)
    obtain ⟨_, cs, fr, h1⟩ := hw.cellsOf j ej
    rw [h1] at hj; cases hj; rfl
  · refine KpT.trans (KpT.trans (KpT.grown (World.grownBy_alloc W tmp none) hn₀ (fun k e => by cases e)) (KpT.grown hgrow (by simp; omega) (fun k ek => ?_))) (KpT.grown (grownBy_setCell' w1 b v') (by have := hgrow.size; simp at this; omega) (fun k ek => ?_))
    · obtain ⟨h0, cs, fr, h1⟩ := hw.cellsOf k ek
      exact ⟨h0, cs, e, fr, h1, he⟩
    · cases ek
      exact ⟨hb, _, _, _, hv1, ht⟩
theorem bUn {B : Nat} {w w1 : World} (h : Below B w.drew w1) : Below B w w1 := ⟨h.os, h.tape, h.output, h.size, h.block⟩
/-- a function that returns a slice -/
def RetSl {α : Type} (E : Enc α) (l : List α) (w : World) (e : Ending) (w' : World) : Prop :=
  ∃ A c, e = .returned (.slice A l.length c) ∧ l.length ≤ c ∧ c ≤ maxLen ∧ SlAt E w' (Nw w.heap.size w'.heap.size) A l ∧ Below w.heap.size w w'
theorem Ret.sl {α : Type} {E : Enc α} {l : List α} {w : World} {e : Ending} {w' : World} (h : Ret (encSl E) l w e w') : RetSl E l w e w' := by
  obtain ⟨v, rfl, ⟨A, c, he, h1, h2, h3⟩, hb⟩ := h
  simp only [List.cons.injEq, and_true] at he
  subst he
  exact ⟨A, c, rfl, h1, h2, h3, hb⟩
/-- a slice and the number of an error -/
def RetSlN {α : Type} (E : Enc α) (l : List α) (n : Int) (w : World) (e : Ending) (w' : World) : Prop :=
  ∃ A c, e = .returned (.tuple #[.slice A l.length c, .int .i64 n]) ∧ l.length ≤ c ∧ c ≤ maxLen ∧ SlAt E w' (Nw w.heap.size w'.heap.size) A l ∧ Below w.heap.size w w'
end Go.Proofs.YtnkmklnlaepdeaaGreat
