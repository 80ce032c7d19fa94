/-
  slices.Backward over writes, and Lookup.
-/
import Derived.Test.YtnkmklnlaepdeaaGreatLaws
import Derived.Test.YtnkmklnlaepdeaaGreatPe
set_option linter.unusedVariables false
set_option linter.unusedSimpArgs false
set_option linter.unusedSectionVars false
set_option linter.unnecessarySimpa false
namespace Go.Proofs.YtnkmklnlaepdeaaGreat
open Go.RowKit Go.Shelf
attribute [local go_sem] Oper.semAt_some

/-- the indices n - 1, .., k -/
def bk (n k : Nat) : List Nat := (List.range' k (n - k)).reverse
theorem bk_top (n : Nat) : bk n n = [] := by simp [bk]
theorem bk_step {n k : Nat} (h : k < n) : bk n k = bk n (k + 1) ++ [k] := by
  unfold bk
  rw [show n - k = (n - (k + 1)) + 1 from by omega, List.range'_succ, List.reverse_cons]
theorem bk_len (n k : Nat) : (bk n k).length = n - k := by simp [bk]
theorem bk_mem {n k j : Nat} : j ∈ bk n k ↔ k ≤ j ∧ j < n := by
  unfold bk
  rw [List.mem_reverse, List.mem_range'_1]
  omega
abbrev IdxN (n : Nat) := { k : Nat // k < n }
def wrAt (l : List Wr) (f : Nat → Option Addr × Nat) (k : IdxN l.length) : Array Value := #[.int .i64 (k.1 : Int), .agg #[.int .i64 (l[k.1]'k.2).1, .int .i64 (l[k.1]'k.2).2.1, .slice (f k.1).1 (l[k.1]'k.2).2.2.length (f k.1).2]]
/-- where the elements of a slice of writes lie -/
def WrsAt (l : List Wr) (f : Nat → Option Addr × Nat) (A : Option Addr) (w : World) (B : Nat) : Prop :=
  ∀ k (hk : k < l.length), ∃ b off, A = some ⟨b, off, none⟩ ∧ b < B ∧ w.cell? ⟨b, off + k * 3, none⟩ = some (.int .i64 l[k].1) ∧ w.cell? ⟨b, off + k * 3 + 1, none⟩ = some (.int .i64 l[k].2.1) ∧ w.cell? ⟨b, off + k * 3 + 2, none⟩ = some (.slice (f k).1 l[k].2.2.length (f k).2)
theorem WrsAt.below {l : List Wr} {f : Nat → Option Addr × Nat} {A : Option Addr} {w w' : World} {B : Nat} (h : WrsAt l f A w B) (hb : Below B w w') : WrsAt l f A w' B := fun k hk => by
  obtain ⟨b, off, e, h0, h1, h2, h3⟩ := h k hk
  exact ⟨b, off, e, h0, (hb.cell (p := ⟨b, _, none⟩) h0).trans h1, (hb.cell (p := ⟨b, _, none⟩) h0).trans h2, (hb.cell (p := ⟨b, _, none⟩) h0).trans h3⟩
theorem SlAt.wrs {l : List Wr} {A : Option Addr} {w : World} {B : Nat} (h : SlAt encWr w (Bl B) A l) : ∃ f, WrsAt l f A w B ∧ ∀ k (hk : k < l.length), SlAt encSec w (Bl B) (f k).1 l[k].2.2 ∧ l[k].2.2.length ≤ (f k).2 ∧ (f k).2 ≤ maxLen ∧ I64 l[k].1 ∧ I64 l[k].2.1 := by
  have key : ∀ k, ∃ p : Option Addr × Nat, ∀ hk : k < l.length, (∃ b off, A = some ⟨b, off, none⟩ ∧ b < B ∧ w.cell? ⟨b, off + k * 3, none⟩ = some (.int .i64 l[k].1) ∧ w.cell? ⟨b, off + k * 3 + 1, none⟩ = some (.int .i64 l[k].2.1) ∧ w.cell? ⟨b, off + k * 3 + 2, none⟩ = some (.slice p.1 l[k].2.2.length p.2)) ∧
      SlAt encSec w (Bl B) p.1 l[k].2.2 ∧ l[k].2.2.length ≤ p.2 ∧ p.2 ≤ maxLen ∧ I64 l[k].1 ∧ I64 l[k].2.1 := by
    intro k
    by_cases hk : k < l.length
    · obtain ⟨b, off, D, c, e, hb, h0, h1, h2, h3, h4, h5, h6, h7⟩ := h.wr hk
      exact ⟨(D, c), fun _ => ⟨⟨b, off, e, hb, h0, h1, h2⟩, h3, h4, h5, h6, h7⟩⟩
    · exact ⟨(none, 0), fun h => absurd h hk⟩
  obtain ⟨f, hf⟩ := Classical.axiomOfChoice key
  exact ⟨f, fun k hk => (hf k hk).1, fun k hk => (hf k hk).2⟩
/-- the cells of a look-up -/
def LkI (V S : Int) (w W : World) : Prop :=
  W.heap[w.heap.size + 1 + 1]? = some (.cells zrow 54 (0, 0)) ∧ W.heap[w.heap.size + 1 + 1 + 1]? = some (.cells #[.bool false] 4 (0, 0)) ∧ W.heap[w.heap.size]? = some (.cells #[.int .i64 V] 3 (0, 0)) ∧ W.heap[w.heap.size + 1]? = some (.cells #[.int .i64 S] 3 (0, 0))
theorem LkI.below {V S : Int} {w W W' : World} (h : LkI V S w W) (hb : Below W.heap.size W W') : LkI V S w W' :=
  ⟨(hb.block _ (Array.getElem?_eq_some_iff.1 h.1).1).trans h.1, (hb.block _ (Array.getElem?_eq_some_iff.1 h.2.1).1).trans h.2.1, (hb.block _ (Array.getElem?_eq_some_iff.1 h.2.2.1).1).trans h.2.2.1, (hb.block _ (Array.getElem?_eq_some_iff.1 h.2.2.2).1).trans h.2.2.2⟩
theorem look_at (l : List Wr) (k : Nat) (hk : k < l.length) (V S : Int) (hh : hits l[k] V S) (h : ∀ j (hj : j < l.length), k < j → ¬ hits l[j] V S) : look l V S = some (datum l[k] S) := by
  rw [look_take l k hk V S h, List.take_succ_eq_append_getElem hk, look_snoc, if_pos hh]
def NoHits (l : List Wr) (V S : Int) (pre : List (IdxN l.length)) : Prop := ∀ k ∈ pre, ¬ hits (l[k.1]'k.2) V S
theorem NoHits.snoc {l : List Wr} {V S : Int} {pre : List (IdxN l.length)} {x : IdxN l.length} (h : NoHits l V S pre) (hx : ¬ hits (l[x.1]'x.2) V S) : NoHits l V S (pre ++ [x]) := fun k hk => by
  rcases List.mem_append.1 hk with hk | hk
  · exact h k hk
  · rw [List.mem_singleton.1 hk]; exact hx
theorem u64_diff {S s : Int} {k : Nat} (h1 : -9223372036854775808 ≤ S ∧ S ≤ 9223372036854775807) (h2 : -9223372036854775808 ≤ s ∧ s ≤ 9223372036854775807) (hk : S - s = k) : IntKind.u64.wrap (IntKind.u64.wrap S - IntKind.u64.wrap s) = k := by
  unfold IntKind.wrap
  simp only [IntKind.signed, IntKind.bits]
  simp
  omega
/-- what it leaves by a hit -/
def LkX (ws : List Wr) (V S : Int) (w : World) (c : Code) (pre : List (IdxN ws.length)) (W : World) : Prop :=
  c = .ret ∧ ∃ ini last, pre = ini ++ [last] ∧ NoHits ws V S ini ∧ hits (ws[last.1]'last.2) V S ∧ ∃ x0 x1 x2 x3 x4 x5 x6 x7, datum (ws[last.1]'last.2) S = [x0, x1, x2, x3, x4, x5, x6, x7] ∧ OkSec [x0, x1, x2, x3, x4, x5, x6, x7] ∧
    W.heap[w.heap.size + 1 + 1]? = some (.cells #[.int .u8 x0, .int .u8 x1, .int .u8 x2, .int .u8 x3, .int .u8 x4, .int .u8 x5, .int .u8 x6, .int .u8 x7] 54 (0, 0)) ∧ W.heap[w.heap.size + 1 + 1 + 1]? = some (.cells #[.bool true] 4 (0, 0))
theorem heap_ownT {W W' : World} {B : Nat} {row : Option Nat} (hg : W.grownBy W' row) (hr : ∀ r, row = some r → B ≤ r ∧ ∃ o : Obj, W.heap[r]? = some o ∧ (o.isCells = false ∨ ItObj (fun _ => False) o)) {k : Nat} {cs : Array Value} {T : TypeId} {fr : Nat × Nat} (h : W.heap[k]? = some (.cells cs T fr)) : W'.heap[k]? = some (.cells cs T fr) :=
  (hg.block k (Array.getElem?_eq_some_iff.1 h).1 (fun e => by
    obtain ⟨_, o, h1, h2⟩ := hr k e.symm
    rw [h] at h1; cases h1
    rcases h2 with h2 | (h2 | ⟨_, _, _, _, h2⟩)
    · cases h2
    · cases h2
    · exact h2)).trans h
theorem LkX.own {ws : List Wr} {V S : Int} {w : World} {B : Nat} (c : Code) : OwnT (fun _ => False) B (LkX ws V S w c) := fun s W W' row h hg hr => by
  obtain ⟨h1, ini, last, h2, h3, h4, x0, x1, x2, x3, x4, x5, x6, x7, h5, h6, h7, h8⟩ := h
  exact ⟨h1, ini, last, h2, h3, h4, x0, x1, x2, x3, x4, x5, x6, x7, h5, h6, heap_ownT hg hr h7, heap_ownT hg hr h8⟩
theorem set8_keeps (W : World) (b : Nat) (x0 x1 x2 x3 x4 x5 x6 x7 : Value) : KeepsOthers W (set8 W b x0 x1 x2 x3 x4 x5 x6 x7) :=
  (((((((KeepsOthers.setCell _ _ _).trans (KeepsOthers.setCell _ _ _)).trans (KeepsOthers.setCell _ _ _)).trans (KeepsOthers.setCell _ _ _)).trans (KeepsOthers.setCell _ _ _)).trans (KeepsOthers.setCell _ _ _)).trans (KeepsOthers.setCell _ _ _)).trans (KeepsOthers.setCell _ _ _)
theorem set8_other {W : World} {b b' : Nat} (h : b' ≠ b) (x0 x1 x2 x3 x4 x5 x6 x7 : Value) : (set8 W b x0 x1 x2 x3 x4 x5 x6 x7).heap[b']? = W.heap[b']? := by
  unfold set8
  rw [Below.heap_setCell _ _ _ _ h, Below.heap_setCell _ _ _ _ h, Below.heap_setCell _ _ _ _ h, Below.heap_setCell _ _ _ _ h, Below.heap_setCell _ _ _ _ h, Below.heap_setCell _ _ _ _ h, Below.heap_setCell _ _ _ _ h, Below.heap_setCell _ _ _ _ h]
/-- both results of a look-up stored -/
theorem lkSet {w W : World} {b : Nat} {c0 c1 c2 c3 c4 c5 c6 c7 : Value} {T TB : TypeId} {q0 : Bool} (h : W.heap[b]? = some (.cells #[c0, c1, c2, c3, c4, c5, c6, c7] T (0, 0))) (h2 : W.heap[b + 1]? = some (.cells #[.bool q0] TB (0, 0))) (x0 x1 x2 x3 x4 x5 x6 x7 : Value) (q : Bool) {B : Nat} (hb : Below B w W) (hB : B ≤ b) :
    let W' := (set8 W b x0 x1 x2 x3 x4 x5 x6 x7).setCell ⟨b + 1, 0, none⟩ (.bool q)
    KeepsOthers W W' ∧ W'.heap[b]? = some (.cells #[x0, x1, x2, x3, x4, x5, x6, x7] T (0, 0)) ∧ W'.heap[b + 1]? = some (.cells #[.bool q] TB (0, 0)) ∧ Below B w W' := by
  refine ⟨(set8_keeps _ _ _ _ _ _ _ _ _ _).trans (KeepsOthers.setCell _ _ _), ?_, ?_, ?_⟩
  · exact (Below.heap_setCell _ _ _ _ (by simp)).trans (set8_row h _ _ _ _ _ _ _ _)
  · have hb1 : Boxed (set8 W b x0 x1 x2 x3 x4 x5 x6 x7) (b + 1) TB (.bool q0) := (set8_other (by omega) _ _ _ _ _ _ _ _).trans h2
    exact hb1.set _
  · exact (set8_below hb hB _ _ _ _ _ _ _ _).setCell (p := ⟨b + 1, 0, none⟩) (by simp; omega) _
theorem lkRes {W : World} {D : Nat} {ob o' : Obj} (hD : W.heap[D]? = some ob) (ho : ob.isCells = false) {k : Nat} {cs : Array Value} {T : TypeId} {fr : Nat × Nat} (h : W.heap[k]? = some (.cells cs T fr)) : (W.putObj D o').heap[k]? = some (.cells cs T fr) :=
  (World.putObj_heap_other (fun e => by subst e; rw [hD] at h; cases h; cases ho)).trans h
end Go.Proofs.YtnkmklnlaepdeaaGreat
