/-
  append onto a slice that the call owns, whatever its elements: one law for elements that were just laid, one for a slice that reads as a list. No program in sight.
-/
import Derived.Test.YtfahbhjlkdcnpaaTy
set_option linter.unusedVariables false
set_option linter.unusedSimpArgs false
set_option linter.unusedSectionVars false
set_option linter.unnecessarySimpa false
namespace Go.Proofs.Ytfahbhjlkdcnpaa
open Go.RowKit

theorem heap_new2 (w : World) (o1 o2 : Obj) : ((w.alloc o1).alloc o2).heap[w.heap.size + 1]? = some o2 := by
  have := heap_alloc_new (w.alloc o1) o2
  simpa using this
theorem heap_new3 (w : World) (o1 o2 o3 : Obj) : (((w.alloc o1).alloc o2).alloc o3).heap[w.heap.size + 1 + 1]? = some o3 := by
  have := heap_alloc_new ((w.alloc o1).alloc o2) o3
  simpa using this
theorem grown_below {a w w' : World} {row : Option Nat} (h : a.grownBy w row) (hb : Below w.heap.size w w') : a.grownBy w' row :=
  ⟨hb.os.trans h.os, hb.tape.trans h.tape, hb.output.trans h.output, Nat.le_trans h.size hb.size, fun i hi hne => (hb.block i (Nat.lt_of_lt_of_le hi h.size)).trans (h.block i hi hne)⟩
theorem grown_alloc {a w : World} {row : Option Nat} (h : a.grownBy w row) (o : Obj) : a.grownBy (w.alloc o) row := grown_below h ((Below.refl _ _).alloc (Nat.le_refl _) o)
theorem grown_setNew {a w : World} {row : Option Nat} (h : a.grownBy w row) {p : Addr} (hp : a.heap.size ≤ p.block) (u : Value) : a.grownBy (w.setCell p u) row :=
  ⟨h.os, h.tape, h.output, by simpa [World.setCell] using h.size, fun i hi hne => (Below.heap_setCell w p u i (by omega)).trans (h.block i hi hne)⟩
theorem grown_Below {B : Nat} {a w w' : World} {row : Option Nat} (hb : Below B a w) (h : w.grownBy w' row) (hB : B ≤ w.heap.size) (hr : ∀ k, row = some k → B ≤ k) : Below B a w' := hb.grown h hB hr
/-- a slice type and its element type -/
structure SliceTy (P : Program) (t e : TypeId) (size bytes : Nat) : Prop where
  und : P.underlying t = some (.slice e)
  info : ∃ i z, P.info? e = some i ∧ i.zero = some z ∧ i.size = size ∧ i.bytes = bytes ∧ z.cells.size = size
  pos : 0 < size
theorem sliceTy_mk {P : Program} {t e : TypeId} {z : Value} {size bytes : Nat} (hu : P.underlying t = some (.slice e)) (h : (P.info? e).map (fun i => (i.zero, i.size, i.bytes)) = some (some z, size, bytes)) (hz : z.cells.size = size) (hp : 0 < size) : SliceTy P t e size bytes := by
  obtain ⟨i, h1, h2, h3, h4⟩ := info_parts h
  exact ⟨hu, ⟨i, z, h1, h2, h3, h4, hz⟩, hp⟩

section
variable {α : Type} {E : Enc α} {w w' : World} {base : Nat} {e : TypeId} {S S' : Nat → Prop} {v v' : Value} {l : List α}
theorem Own.form (h : Own E w base e S v l) : ∃ A c, v = .slice A l.length c := by
  obtain ⟨css, ⟨_, h2⟩, _⟩ := h
  rcases h2 with ⟨rfl, h0⟩ | ⟨g, cap, cur, rfl, _⟩
  · exact ⟨none, 0, by rw [h0]⟩
  · exact ⟨_, _, rfl⟩
theorem Own.rd (h : Own E w base e S v l) (hS : ∀ b, S b → Nw base w.heap.size b) : (encSl E).rd w (Nw base w.heap.size) [v] l := h.reads hS (fun g hg => h.lt g hg)
theorem Own.rd0 (h : Own E w base e S v l) (hS : ∀ b, S b → b < w.heap.size) : (encSl E).rd w (Bl w.heap.size) [v] l := h.reads hS (fun g hg => (h.lt g hg).2)
/-- the same slice in a later world, in whose old blocks nothing has turned -/
theorem Own.below (h : Own E w base e S v l) (hb : Below w.heap.size w w') (hS : ∀ b, S b → b < w.heap.size) : Own E w' base e S v l :=
  h.blk fun b hb' => hb.block b (by
    rcases hb' with hb' | hb'
    · exact hS b hb'
    · exact (h.lt b hb').2)
theorem Own.alloc (h : Own E w base e S v l) (hS : ∀ b, S b → b < w.heap.size) (o : Obj) : Own E (w.alloc o) base e S v l := h.below ((Below.refl _ _).alloc (Nat.le_refl _) o) hS
end

theorem flatten_set {α : Type} (size : Nat) : ∀ (l : List (List α)) (i j : Nat) (x : List α) (v : α), (∀ x ∈ l, x.length = size) → l[i]? = some x → j < size → l.flatten.set (i * size + j) v = (l.set i (x.set j v)).flatten
  | [], _, _, _, _, _, h, _ => by simp at h
  | y :: l, 0, j, x, v, hs, h, hj => by
    simp at h; subst h
    have hy := hs y (by simp)
    simp [List.set_append, hy, hj]
  | y :: l, i + 1, j, x, v, hs, h, hj => by
    have hy := hs y (by simp)
    have ih := flatten_set size l i j x v (fun z hz => hs z (by simp [hz])) (by simpa using h) hj
    rw [List.flatten_cons, List.set_append_right _ _ (by rw [hy, Nat.succ_mul]; omega), List.set_cons_succ, List.flatten_cons, ← ih, hy]
    congr 2
    rw [Nat.succ_mul]; omega
section
variable {α : Type} {E : Enc α} {w : World} {base g n c : Nat} {e : TypeId} {S : Nat → Prop} {l : List α}
/-- one element of an owned slice: its cells -/
theorem Own.elem {A : Option Addr} (h : Own E w base e S (.slice A n c) l) {i : Nat} (hi : i < l.length) :
    ∃ g cs, A = some ⟨g, 0, none⟩ ∧ base ≤ g ∧ g < w.heap.size ∧ ¬ S g ∧ (∀ j v, cs[j]? = some v → w.cell? ⟨g, i * E.size + j, none⟩ = some v) ∧ (∀ j, w.frozen? ⟨g, j, none⟩ = false) ∧ E.rd w S cs l[i] := by
  have hrow := h
  obtain ⟨css, h1, h2, h3⟩ := h
  obtain ⟨cs, hc1, hc2⟩ := h2.get (i := i) (b := l[i]) (List.getElem?_eq_getElem hi)
  rcases h1.2 with ⟨he, h0⟩ | ⟨g, cap, cur, he, hb, hg, hnc, hcm, hcs, htake⟩
  · omega
  · injection he with e1 e2 e3
    subst e1 e2 e3
    refine ⟨g, cs, rfl, hb, (Array.getElem?_eq_some_iff.1 hg).1, h3 g rfl, fun j u hu => ?_, fun j => by simp [World.frozen?, hg], hc2⟩
    have := h1.cells (g := g) rfl (i * E.size + j) u (flatten_at _ _ _ _ _ _ h2.sizes hc1 hu)
    have hadd : (⟨g, 0, none⟩ : Addr).add (i * E.size + j) = ⟨g, i * E.size + j, none⟩ := by unfold Addr.add; split <;> simp_all
    rw [hadd] at this
    exact this
/-- one cell of an element stored -/
theorem Own.stored (h : Own E w base e S (.slice (some ⟨g, 0, none⟩) n c) l) {i j : Nat} (hi : i < l.length) (hj : j < E.size) (u : Value) (y : α) (hr : ∀ cs, E.rd w S cs l[i] → E.rd w S (cs.set j u) y) :
    Own E (w.setCell ⟨g, i * E.size + j, none⟩ u) base e S (.slice (some ⟨g, 0, none⟩) n c) (l.set i y) := by
  obtain ⟨css, h1, h2, h3⟩ := h
  have hg : ¬ S g := h3 g rfl
  obtain ⟨cs, hc1, hc2⟩ := h2.get (i := i) (b := l[i]) (List.getElem?_eq_getElem hi)
  have hn : n = l.length := by
    rcases h1.2 with ⟨he, _⟩ | ⟨g', cap, cur, he, _⟩
    · cases he
    · injection he
  subst hn
  have hk : ∀ b, S b → (w.setCell ⟨g, i * E.size + j, none⟩ u).heap[b]? = w.heap[b]? := fun b hb => Below.heap_setCell _ _ _ _ (fun e => hg (by rw [show g = b from e.symm]; exact hb))
  refine ⟨css.set i (cs.set j u), ?_, (h2.set (hr cs hc2)).mono (fun _ _ hx => Enc.blk hx hk), h3⟩
  rw [← flatten_set E.size css i j cs u h2.sizes hc1 hj, List.length_set]
  exact (h1.stored _ u).1
end
/-- an owned slice whose elements' memory is anything from a block on but its own row -/
def OwnW {α : Type} (E : Enc α) (w : World) (base lo : Nat) (e : TypeId) (v : Value) (l : List α) : Prop := Own E w base e (fun b => Nw lo w.heap.size b ∧ v.ownBlock ≠ some b) v l
section
variable {α : Type} {E : Enc α} {w w' : World} {base lo : Nat} {e : TypeId} {v v' : Value} {l l' : List α}
theorem OwnW.nil_ : OwnW E w base lo e (.slice none 0 0) [] := Own.nil_
theorem OwnW.below (h : OwnW E w base lo e v l) (hb : Below w.heap.size w w') : OwnW E w' base lo e v l :=
  (Own.below h hb (fun _ h => h.1.2)).more (fun _ h => ⟨h.1.mono (Nat.le_refl _) hb.size, h.2⟩) (fun _ hg h => h.2 hg)
theorem OwnW.rd (h : OwnW E w base base e v l) : (encSl E).rd w (Nw base w.heap.size) [v] l := Own.rd h (fun _ h => h.1)
theorem OwnW.rd0 (h : OwnW E w base lo e v l) : (encSl E).rd w (Bl w.heap.size) [v] l := Own.rd0 h (fun _ h => h.1.2)
theorem OwnW.lt (h : OwnW E w base lo e v l) : ∀ g, v.ownBlock = some g → base ≤ g ∧ g < w.heap.size := Own.lt h
theorem OwnW.app (h : Own E w' base e (fun b => Nw lo w.heap.size b ∧ v.ownBlock ≠ some b) v' l') (hg : w.grownBy w' v.ownBlock) (hat : v'.ownBlock = v.ownBlock ∨ v'.ownBlock = some w.heap.size) : OwnW E w' base lo e v' l' :=
  h.more (fun b hb => ⟨hb.1.mono (Nat.le_refl _) hg.size, fun e => by
    rcases hat with hat | hat
    · exact hb.2 (by rw [← hat]; exact e)
    · rw [hat] at e
      injection e with e
      have := hb.1.2
      omega⟩) (fun _ hg h => h.2 hg)
theorem OwnW.form (h : OwnW E w base lo e v l) : ∃ A c, v = .slice A l.length c := Own.form h
theorem OwnW.parts {A : Option Addr} {n c : Nat} (h : OwnW E w base base e (.slice A n c) l) : n = l.length ∧ l.length ≤ c ∧ c ≤ maxLen ∧ SlAt E w (Nw base w.heap.size) A l := by
  obtain ⟨A', c', he, h1, h2, h3⟩ := h.rd
  simp only [List.cons.injEq, Value.slice.injEq, and_true] at he
  obtain ⟨rfl, rfl, rfl⟩ := he
  exact ⟨rfl, h1, h2, h3⟩
/-- what was made since B is not the row of a slice that lay below B -/
theorem OwnW.since {β : Type} {F : Enc β} {A : Option Addr} {m : List β} {B : Nat} (h : SlAt F w (Nw B w.heap.size) A m) (hlo : lo ≤ B) (hv : ∀ g, v.ownBlock = some g → g < B) : SlAt F w (fun b => Nw lo w.heap.size b ∧ v.ownBlock ≠ some b) A m :=
  h.more fun b hb => ⟨hb.mono hlo (Nat.le_refl _), fun e => by have := hv b e; have := hb.1; omega⟩
end
section
variable {P : Program} {w : World} {α : Type} {E : Enc α} {t e : TypeId} {bytes : Nat} {ops : Array Oper} {rest : List Oper} {o : Oper} {a : Act} {Q : Exit → Act → World → Prop}
/-- what append does to an owned slice: the run -/
theorem run_app (hT : SliceTy P t e E.size bytes) (ty : TypeId) {base : Nat} {S : Nat → Prop} {v : Value} {l : List α} (hown : Own E w base e S v l) {ad : Option Addr} {c m : Nat} {news : List α} {css : List (List Value)}
    (hm : m = news.length) (hcs : All2 (E.rd w S) css news) (hnews : news ≠ [] → ∃ x, ad = some x ∧ ∀ j u, css.flatten[j]? = some u → w.cell? (x.add j) = some u) (hS : ∀ b, S b → b < w.heap.size) (hbase : base ≤ w.heap.size)
    (h63 : l.length + m ≤ maxLen) (hbytes : (l.length + m) * bytes ≤ 140737488355328) :
    ∃ A c' w', (Builtin.append_ #[t, t] ty #[v, .slice ad m c]).run P w = .ok (.slice A (l.length + m) c') w' ∧ Own E w' base e S (.slice A (l.length + m) c') (l ++ news) ∧ w.grownBy w' v.ownBlock ∧
      ((Value.slice A (l.length + m) c').ownBlock = v.ownBlock ∨ (Value.slice A (l.length + m) c').ownBlock = some w.heap.size) := by
  obtain ⟨i, z, hi, hz, hsz, hby, hzs⟩ := hT.info
  have hpos := hT.pos
  subst hm
  have fin : ∀ (v' : Value) (w' : World) (xs : List Value), w.ownsRow base e E.size v l.length xs → w'.ownsRow base e E.size v' (l.length + news.length) (xs ++ css.flatten) → w.grownBy w' v.ownBlock → (v'.ownBlock = v.ownBlock ∨ v'.ownBlock = some w.heap.size) → Own E w' base e S v' (l ++ news) := by
    intro v' w' xs hx h2 h3 h5
    refine hown.appended hcs h3 hS h5 (fun xs' h' => ?_)
    have hxs : xs' = xs := by
      rcases h'.2 with ⟨rfl, hl0⟩ | ⟨g, cap, cur, rfl, _, hh, _, _, _, ht⟩
      · have e1 := h'.1
        have e2 := hx.1
        rw [hl0, Nat.zero_mul] at e1 e2
        rw [List.eq_nil_of_length_eq_zero e1, List.eq_nil_of_length_eq_zero e2]
      · rcases hx.2 with ⟨he, _⟩ | ⟨g', cap', cur', he, _, hh', _, _, _, ht'⟩
        · cases he
        · injection he with e1 e2 e3
          injection e1 with e1
          injection e1 with e1
          subst e1
          rw [hh] at hh'
          injection hh' with hh'
          injection hh' with e4
          subst e4
          exact ht.symm.trans ht'
    rw [hxs]
    exact h2
  obtain ⟨css0, h0, h1, h2⟩ := hown
  by_cases hn : news = []
  · subst hn
    have hc : css = [] := List.eq_nil_of_length_eq_zero (by simpa using hcs.length)
    subst hc
    have hrun : (Builtin.append_ #[t, t] ty #[v, .slice ad 0 c]).run P w = .ok v w := by
      rcases h0.2 with ⟨rfl, hl0⟩ | ⟨g, cap, cur, rfl, _, _, hnc, _⟩
      · cases ad with
        | none => simp [Builtin.append_, run_underlying hT.und, sizeOf, typeInfo, hi, Builtin.lenOf, Builtin.firstCells]
        | some x => simp [Builtin.append_, run_underlying hT.und, sizeOf, typeInfo, hi, Builtin.lenOf, Builtin.firstCells, loadCells, loadCellsFrom]
      · cases ad with
        | none => simp [Builtin.append_, run_underlying hT.und, sizeOf, typeInfo, hi, Builtin.lenOf, Builtin.firstCells, hnc, storeCells]
        | some x => simp [Builtin.append_, run_underlying hT.und, sizeOf, typeInfo, hi, Builtin.lenOf, Builtin.firstCells, loadCells, loadCellsFrom, hnc, storeCells]
    obtain ⟨A, c', rfl⟩ : ∃ A c', v = .slice A l.length c' := by
      rcases h0.2 with ⟨rfl, hl0⟩ | ⟨g, cap, cur, rfl, _⟩
      · exact ⟨none, 0, by rw [hl0]⟩
      · exact ⟨_, _, rfl⟩
    exact ⟨A, c', w, hrun, fin _ _ _ h0 (by simpa using h0) (World.grownBy.refl w _) (.inl rfl), World.grownBy.refl w _, .inl rfl⟩
  · obtain ⟨x, rfl, hcells⟩ := hnews hn
    have hl : css.flatten.length = news.length * E.size := by rw [flatten_len E.size css hcs.sizes, hcs.length]
    have hone : ∀ u ∈ css.flatten, u.oneCell' = true := by
      intro u hu
      obtain ⟨cs, hc1, hc2⟩ := List.mem_flatten.1 hu
      obtain ⟨k, hk, rfl⟩ := List.mem_iff_getElem.1 hc1
      obtain ⟨cs', hcs', hr⟩ := hcs.get (i := k) (b := news[k]'(by rw [← hcs.length]; exact hk)) (List.getElem?_eq_getElem _)
      rw [List.getElem?_eq_getElem hk, Option.some.injEq] at hcs'
      subst hcs'
      exact E.one hr u hc2
    obtain ⟨v', w', hrun, h3, h4, _, h6⟩ := run_append_own_at (P := P) w base t ty e i z E.size bytes hT.und hi hz hsz hby hzs hpos v l.length css0.flatten h0 x news.length c css.flatten hl hcells hone h63 hbytes hbase
    obtain ⟨g, cap, rfl, _, _⟩ := h3.form (by have : 0 < news.length := List.length_pos_iff.2 hn; omega)
    exact ⟨_, cap, w', hrun, fin _ _ _ h0 h3 h4 h6, h4, h6⟩
/-- append at a plain region's list: elements whose cells lie from an address on -/
theorem wpList_app (hT : SliceTy P t e E.size bytes) (hgd : o.guard = none) (s x : Operand) (ho : o.op = .call { callee := .builtin .append, args := #[s, x], argTypes := #[t, t] })
    {base : Nat} {S : Nat → Prop} {v : Value} {l : List α} (hs : a.eval s = v) (hown : Own E w base e S v l) {ad : Option Addr} {c m : Nat} {news : List α} {css : List (List Value)} (hx : a.eval x = .slice ad m c)
    (hm : m = news.length) (hcs : All2 (E.rd w S) css news) (hnews : news ≠ [] → ∃ x, ad = some x ∧ ∀ j u, css.flatten[j]? = some u → w.cell? (x.add j) = some u) (hS : ∀ b, S b → b < w.heap.size) (hbase : base ≤ w.heap.size)
    (h63 : l.length + m ≤ maxLen) (hbytes : (l.length + m) * bytes ≤ 140737488355328)
    (h : ∀ A c' w', Own E w' base e S (.slice A (l.length + m) c') (l ++ news) → w.grownBy w' v.ownBlock → ((Value.slice A (l.length + m) c').ownBlock = v.ownBlock ∨ (Value.slice A (l.length + m) c').ownBlock = some w.heap.size) → wpList P ops Q rest (a.put o.dst (.slice A (l.length + m) c')) w') :
    wpList P ops Q (o :: rest) a w := by
  refine wpList_plain hgd fun K hK => ?_
  obtain ⟨A, c', w', hr, h2, h3, h4⟩ := run_app (P := P) (c := c) hT o.type hown hm hcs hnews hS hbase h63 hbytes
  unfold Oper.wp execOp
  simp only [ho, resolve, invoke, builtin, Sem.run_bind, Sem.run_pure, Result.andThen_ok, List.map_toArray, List.map_cons, List.map_nil, hs, hx, hr]
  exact hK _ _ (h A c' w' h2 h3 h4)
/-- the same at a step of a region that draws its order -/
theorem step_app1 {K : Act → World → Prop} {X : Prop} (hT : SliceTy P t e E.size bytes) (hgd : o.guard = none) (s x : Operand) (ho : o.op = .call { callee := .builtin .append, args := #[s, x], argTypes := #[t, t] })
    {base : Nat} {S : Nat → Prop} {v : Value} {l : List α} (hs : a.eval s = v) (hown : Own E w base e S v l) {b c : Nat} (y : α) (cs : List Value) (hx : a.eval x = .slice (some ⟨b, 0, none⟩) 1 c)
    (hcs : E.rd w S cs y) (hnews : w.heap[b]? = some (.cells cs.toArray e (0, 0))) (hS : ∀ b, S b → b < w.heap.size) (hbase : base ≤ w.heap.size)
    (h63 : l.length + 1 ≤ maxLen) (hbytes : (l.length + 1) * bytes ≤ 140737488355328)
    (h : ∀ A c' w', Own E w' base e S (.slice A (l.length + 1) c') (l ++ [y]) → w.grownBy w' v.ownBlock → ((Value.slice A (l.length + 1) c').ownBlock = v.ownBlock ∨ (Value.slice A (l.length + 1) c').ownBlock = some w.heap.size) → K (a.put o.dst (.slice A (l.length + 1) c')) w') :
    if Region.wanted o (yielded ops a.tmps) = true then Oper.wp P o a w K Q else X := by
  have hw : Region.wanted o (yielded ops a.tmps) = true := by simp [Region.wanted, hgd]
  rw [if_pos hw]
  obtain ⟨A, c', w', hr, h2, h3, h4⟩ := run_app (P := P) (c := c) (m := 1) (news := [y]) (css := [cs]) (ad := some ⟨b, 0, none⟩) hT o.type hown rfl ⟨hcs, trivial⟩ (fun _ => ⟨_, rfl, fun j u hu => by
    have hadd : (⟨b, 0, none⟩ : Addr).add j = ⟨b, j, none⟩ := by unfold Addr.add; split <;> simp_all
    rw [hadd, cell_of_row w b j _ e (0, 0) hnews]
    simpa using hu⟩) hS hbase h63 hbytes
  unfold Oper.wp execOp
  simp only [ho, resolve, invoke, builtin, Sem.run_bind, Sem.run_pure, Result.andThen_ok, List.map_toArray, List.map_cons, List.map_nil, hs, hx, hr]
  exact h A c' w' h2 h3 h4
/-- append of one element that was just laid into a block of its own -/
theorem wpList_app1 (hT : SliceTy P t e E.size bytes) (hgd : o.guard = none) (s x : Operand) (ho : o.op = .call { callee := .builtin .append, args := #[s, x], argTypes := #[t, t] })
    {base : Nat} {S : Nat → Prop} {v : Value} {l : List α} (hs : a.eval s = v) (hown : Own E w base e S v l) {b c : Nat} (y : α) (cs : List Value) (hx : a.eval x = .slice (some ⟨b, 0, none⟩) 1 c)
    (hcs : E.rd w S cs y) (hnews : w.heap[b]? = some (.cells cs.toArray e (0, 0))) (hS : ∀ b, S b → b < w.heap.size) (hbase : base ≤ w.heap.size)
    (h63 : l.length + 1 ≤ maxLen) (hbytes : (l.length + 1) * bytes ≤ 140737488355328)
    (h : ∀ A c' w', Own E w' base e S (.slice A (l.length + 1) c') (l ++ [y]) → w.grownBy w' v.ownBlock → ((Value.slice A (l.length + 1) c').ownBlock = v.ownBlock ∨ (Value.slice A (l.length + 1) c').ownBlock = some w.heap.size) → wpList P ops Q rest (a.put o.dst (.slice A (l.length + 1) c')) w') :
    wpList P ops Q (o :: rest) a w := by
  refine wpList_app hT hgd s x ho hs hown (news := [y]) (css := [cs]) hx rfl ⟨hcs, trivial⟩ (fun _ => ⟨_, rfl, fun j u hu => ?_⟩) hS hbase h63 hbytes h
  have hadd : (⟨b, 0, none⟩ : Addr).add j = ⟨b, j, none⟩ := by unfold Addr.add; split <;> simp_all
  rw [hadd, cell_of_row w b j _ e (0, 0) hnews]
  simpa using hu
/-- append of all elements of a slice that reads as a list -/
theorem wpList_appAll (hT : SliceTy P t e E.size bytes) (hgd : o.guard = none) (s x : Operand) (ho : o.op = .call { callee := .builtin .append, args := #[s, x], argTypes := #[t, t] })
    {base : Nat} {S : Nat → Prop} {v : Value} {l : List α} (hs : a.eval s = v) (hown : Own E w base e S v l) {ad : Option Addr} {c m : Nat} {news : List α} (hx : a.eval x = .slice ad m c)
    (hm : m = news.length) (hr : SlAt E w S ad news) (hS : ∀ b, S b → b < w.heap.size) (hbase : base ≤ w.heap.size)
    (h63 : l.length + m ≤ maxLen) (hbytes : (l.length + m) * bytes ≤ 140737488355328)
    (h : ∀ A c' w', Own E w' base e S (.slice A (l.length + m) c') (l ++ news) → w.grownBy w' v.ownBlock → ((Value.slice A (l.length + m) c').ownBlock = v.ownBlock ∨ (Value.slice A (l.length + m) c').ownBlock = some w.heap.size) → wpList P ops Q rest (a.put o.dst (.slice A (l.length + m) c')) w') :
    wpList P ops Q (o :: rest) a w := by
  by_cases hn : news = []
  · subst hn
    exact wpList_app hT hgd s x ho hs hown (news := []) (css := []) hx hm trivial (fun h => absurd rfl h) hS hbase h63 hbytes h
  · obtain ⟨b, off, rfl, _⟩ := hr.some_ hn
    obtain ⟨css, h1, h2, h3, h4⟩ := hr.row
    exact wpList_app hT hgd s x ho hs hown (news := news) (css := css) hx hm h3 (fun _ => ⟨_, rfl, h4⟩) hS hbase h63 hbytes h
end
end Go.Proofs.Ytfahbhjlkdcnpaa
