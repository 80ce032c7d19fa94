/-
  slices.Backward over writes, and Lookup.
-/
import Derived.Test.YtfahbhjlkdcnpaaLaws
import Derived.Test.YtfahbhjlkdcnpaaPe
set_option linter.unusedVariables false
set_option linter.unusedSimpArgs false
set_option linter.unusedSectionVars false
set_option linter.unnecessarySimpa false
namespace Go.Proofs.Ytfahbhjlkdcnpaa
open Go.RowKit Go.Shelf
attribute [local go_sem] Oper.semAt_some

/-- the indices n - 1, .., k -/
def bk (n k : Nat) : List Nat := (List.range' k (n - k)).reverse
theorem bk_top (n : Nat) : bk n n = [] := by simp [bk]
theorem bk_step {n k : Nat} (h : k < n) : bk n k = bk n (k + 1) ++ [k] := by
  unfold bk
  rw [show n - k = (n - (k + 1)) + 1 from by omega, List.range'_succ, List.reverse_cons]
theorem bk_len (n k : Nat) : (bk n k).length = n - k := by simp [bk]
theorem bk_mem {n k j : Nat} : j ∈ bk n k ↔ k ≤ j ∧ j < n := by
  unfold bk
  rw [List.mem_reverse, List.mem_range'_1]
  omega
abbrev IdxN (n : Nat) := { k : Nat // k < n }
def wrAt (l : List Wr) (f : Nat → Option Addr × Nat) (k : IdxN l.length) : Array Value := #[.int .i64 (k.1 : Int), .agg #[.int .i64 (l[k.1]'k.2).1, .int .i64 (l[k.1]'k.2).2.1, .slice (f k.1).1 (l[k.1]'k.2).2.2.length (f k.1).2]]
/-- where the elements of a slice of writes lie -/
def WrsAt (l : List Wr) (f : Nat → Option Addr × Nat) (A : Option Addr) (w : World) (B : Nat) : Prop :=
  ∀ k (hk : k < l.length), ∃ b off, A = some ⟨b, off, none⟩ ∧ b < B ∧ w.cell? ⟨b, off + k * 3, none⟩ = some (.int .i64 l[k].1) ∧ w.cell? ⟨b, off + k * 3 + 1, none⟩ = some (.int .i64 l[k].2.1) ∧ w.cell? ⟨b, off + k * 3 + 2, none⟩ = some (.slice (f k).1 l[k].2.2.length (f k).2)
theorem WrsAt.below {l : List Wr} {f : Nat → Option Addr × Nat} {A : Option Addr} {w w' : World} {B : Nat} (h : WrsAt l f A w B) (hb : Below B w w') : WrsAt l f A w' B := fun k hk => by
  obtain ⟨b, off, e, h0, h1, h2, h3⟩ := h k hk
  exact ⟨b, off, e, h0, (hb.cell (p := ⟨b, _, none⟩) h0).trans h1, (hb.cell (p := ⟨b, _, none⟩) h0).trans h2, (hb.cell (p := ⟨b, _, none⟩) h0).trans h3⟩
theorem SlAt.wrs {l : List Wr} {A : Option Addr} {w : World} {B : Nat} (h : SlAt encWr w (Bl B) A l) : ∃ f, WrsAt l f A w B ∧ ∀ k (hk : k < l.length), SlAt encSec w (Bl B) (f k).1 l[k].2.2 ∧ l[k].2.2.length ≤ (f k).2 ∧ (f k).2 ≤ maxLen ∧ I64 l[k].1 ∧ I64 l[k].2.1 := by
  have key : ∀ k, ∃ p : Option Addr × Nat, ∀ hk : k < l.length, (∃ b off, A = some ⟨b, off, none⟩ ∧ b < B ∧ w.cell? ⟨b, off + k * 3, none⟩ = some (.int .i64 l[k].1) ∧ w.cell? ⟨b, off + k * 3 + 1, none⟩ = some (.int .i64 l[k].2.1) ∧ w.cell? ⟨b, off + k * 3 + 2, none⟩ = some (.slice p.1 l[k].2.2.length p.2)) ∧
      SlAt encSec w (Bl B) p.1 l[k].2.2 ∧ l[k].2.2.length ≤ p.2 ∧ p.2 ≤ maxLen ∧ I64 l[k].1 ∧ I64 l[k].2.1 := by
    intro k
    by_cases hk : k < l.length
    · obtain ⟨b, off, D, c, e, hb, h0, h1, h2, h3, h4, h5, h6, h7⟩ := h.wr hk
      exact ⟨(D, c), fun _ => ⟨⟨b, off, e, hb, h0, h1, h2⟩, h3, h4, h5, h6, h7⟩⟩
    · exact ⟨(none, 0), fun h => absurd h hk⟩
  obtain ⟨f, hf⟩ := Classical.axiomOfChoice key
  exact ⟨f, fun k hk => (hf k hk).1, fun k hk => (hf k hk).2⟩
set_option maxRecDepth 100000 in
set_option maxHeartbeats 2000000 in
theorem backW_in (n : Nat) (hn : 1 ≤ n) (l Bs n₀ c : Nat) (A : Option Addr) (ws : List Wr) (f : Nat → Option Addr × Nat) (hlen : ws.length ≤ 9223372036854775807) (hBs : Bs < n₀) (J Jx : List (IdxN ws.length) → World → Prop)
    (hY : ∀ pre x W, J pre W → pre.length < ws.length → YieldAt Fence.wide (n - 1) Try.prog l (wrAt ws f x) W fun e W' =>
      (e = .returned (.bool true) ∧ J (pre ++ [x]) W' ∧ Below n₀ W W') ∨ (e = .returned (.bool false) ∧ Jx (pre ++ [x]) W'))
    (W : World) (hc : W.cell? ⟨Bs, 0, none⟩ = some (.slice A ws.length c)) (hw : WrsAt ws f A W n₀) (h0 : J [] W) :
    CallsIn Fence.wide n Try.prog 82 #[.func (.yield l) #[] #[], .pointer (some ⟨Bs, 0, none⟩)] W fun e W' => (∃ v, e = .returned v) ∧
      ((∃ ys : List (IdxN ws.length), ys.map (·.1) = bk ws.length 0 ∧ J ys W') ∨ (∃ pre : List (IdxN ws.length), (∃ k, k ≤ ws.length ∧ pre.map (·.1) = bk ws.length k) ∧ Jx pre W')) := by
  have HW := Lib.hid hw; clear hw
  refine callsIn_of_wp Try.func82 rfl trivial ?_ rfl
  simp only [Try.ntmps82, List.size_toArray, List.length_cons, List.length_nil, Nat.reduceAdd, Nat.reduceSub, Array.replicate_succ, Array.replicate_zero, List.push_toArray, List.append_toArray, List.nil_append, List.cons_append]
  gi_wp2
  gi_loopw [3] (fun i wr => ∃ (k : Nat) (pre : List (IdxN ws.length)), k ≤ ws.length ∧ i = .int .i64 ((k : Int) - 1) ∧ Hid (pre.map (·.1) = bk ws.length k) ∧ J pre wr ∧ Below n₀ W wr) (fun i _ => (intOf i + 1).toNat)
  case atStart => exact ⟨ws.length, [], Nat.le_refl _, rfl, by rw [Hid, bk_top]; rfl, h0, Below.refl _ _⟩
  case round =>
    obtain ⟨k, pre, hk, rfl, hpre, hJs, hB⟩ := hrel
    have hcs := (hB.cell (p := ⟨Bs, 0, none⟩) hBs).trans hc
    clear hc
    cases k with
    | zero =>
      gi_wp2
      go_end0
      exact ⟨⟨_, rfl⟩, .inl ⟨pre, hpre.out, hJs⟩⟩
    | succ k =>
      have hlt : k < ws.length := by omega
      have ek : ((k + 1 : Nat) : Int) - 1 = (k : Int) := by omega
      rw [ek]
      have hpl : pre.length < ws.length := by
        have := congrArg List.length hpre.out
        rw [List.length_map, bk_len] at this
        omega
      obtain ⟨fn, tmps, assign, body, hy, hR⟩ := hY pre ⟨k, hlt⟩ wr hJs hpl
      obtain ⟨b, off, rfl, hb, g0, g1, g2⟩ := (HW.out.below hB) k hlt
      have hnn : (0 : Int) ≤ k := by omega
      have hki : (k : Int) < ws.length := by omega
      simp only [wrAt] at hy
      gi_wp2
      refine hR.mono ?_
      have HY := Lib.hid hy; clear hy g0 g1 g2 hcs
      rintro e W3 (⟨rfl, hJ3, hk3⟩ | ⟨rfl, hJx3⟩)
      · gi_wp2
        go_roundw
        case rel => exact ⟨k, pre ++ [⟨k, hlt⟩], by omega, rfl, by rw [Hid, List.map_append, hpre.out, bk_step hlt]; rfl, hJ3, hB.trans hk3⟩
        case measure => simp [intOf]
      · gi_wp2
        refine bodyPost_ret (results_none rfl _ _ _) rfl ?_
        exact ⟨⟨_, rfl⟩, .inr ⟨pre ++ [⟨k, hlt⟩], ⟨k, by omega, by rw [List.map_append, hpre.out, bk_step hlt]; rfl⟩, hJx3⟩⟩
theorem backward_any (A : Option Addr) (n c : Nat) (w : World) : Calls Try.prog 56 #[.slice A n c] w fun e w' => e = .returned (.func (.func 82) #[] #[.pointer (some ⟨w.heap.size, 0, none⟩)]) ∧ w' = w.alloc (.cells #[.slice A n c] 22) := by
  go_enter Try.func56, Try.ntmps56
  go_wp2
  go_ret
  exact ⟨rfl, rfl⟩
theorem backW_stops (n : Nat) (hn : 1 ≤ n) (Bs c : Nat) (A : Option Addr) (ws : List Wr) (f : Nat → Option Addr × Nat) (hlen : ws.length ≤ 9223372036854775807) (w : World) (hBs : Bs < w.heap.size) (hc : w.cell? ⟨Bs, 0, none⟩ = some (.slice A ws.length c)) (hw : WrsAt ws f A w w.heap.size) :
    SeqStopsT (fun _ => False) Fence.wide n Try.prog 82 #[.pointer (some ⟨Bs, 0, none⟩)] (wrAt ws f) (Below w.heap.size) (fun ys => ys.map (·.1) = bk ws.length 0) (fun pre => ∃ k, k ≤ ws.length ∧ pre.map (·.1) = bk ws.length k) ws.length w :=
  SeqStopsK.toT fun l J Jx W hW _ _ hY h0 => backW_in n hn l Bs w.heap.size c A ws f hlen hBs J Jx hY W ((hW.cell (p := ⟨Bs, 0, none⟩) hBs).trans hc) (hw.below hW) h0
/-- the cells of a look-up -/
def LkI (V S : Int) (w W : World) : Prop :=
  W.heap[w.heap.size + 1 + 1]? = some (.cells zrow 53 (0, 0)) ∧ W.heap[w.heap.size + 1 + 1 + 1]? = some (.cells #[.bool false] 4 (0, 0)) ∧ W.heap[w.heap.size]? = some (.cells #[.int .i64 V] 3 (0, 0)) ∧ W.heap[w.heap.size + 1]? = some (.cells #[.int .i64 S] 3 (0, 0))
theorem LkI.below {V S : Int} {w W W' : World} (h : LkI V S w W) (hb : Below W.heap.size W W') : LkI V S w W' :=
  ⟨(hb.block _ (Array.getElem?_eq_some_iff.1 h.1).1).trans h.1, (hb.block _ (Array.getElem?_eq_some_iff.1 h.2.1).1).trans h.2.1, (hb.block _ (Array.getElem?_eq_some_iff.1 h.2.2.1).1).trans h.2.2.1, (hb.block _ (Array.getElem?_eq_some_iff.1 h.2.2.2).1).trans h.2.2.2⟩
theorem look_at (l : List Wr) (k : Nat) (hk : k < l.length) (V S : Int) (hh : hits l[k] V S) (h : ∀ j (hj : j < l.length), k < j → ¬ hits l[j] V S) : look l V S = some (datum l[k] S) := by
  rw [look_take l k hk V S h, List.take_succ_eq_append_getElem hk, look_snoc, if_pos hh]
def NoHits (l : List Wr) (V S : Int) (pre : List (IdxN l.length)) : Prop := ∀ k ∈ pre, ¬ hits (l[k.1]'k.2) V S
theorem NoHits.snoc {l : List Wr} {V S : Int} {pre : List (IdxN l.length)} {x : IdxN l.length} (h : NoHits l V S pre) (hx : ¬ hits (l[x.1]'x.2) V S) : NoHits l V S (pre ++ [x]) := fun k hk => by
  rcases List.mem_append.1 hk with hk | hk
  · exact h k hk
  · rw [List.mem_singleton.1 hk]; exact hx
theorem u64_diff {S s : Int} {k : Nat} (h1 : -9223372036854775808 ≤ S ∧ S ≤ 9223372036854775807) (h2 : -9223372036854775808 ≤ s ∧ s ≤ 9223372036854775807) (hk : S - s = k) : IntKind.u64.wrap (IntKind.u64.wrap S - IntKind.u64.wrap s) = k := by
  unfold IntKind.wrap
  simp only [IntKind.signed, IntKind.bits]
  simp
  omega
/-- what it leaves by a hit -/
def LkX (ws : List Wr) (V S : Int) (w : World) (c : Code) (pre : List (IdxN ws.length)) (W : World) : Prop :=
  c = .ret ∧ ∃ ini last, pre = ini ++ [last] ∧ NoHits ws V S ini ∧ hits (ws[last.1]'last.2) V S ∧ ∃ x0 x1 x2 x3 x4 x5 x6 x7, datum (ws[last.1]'last.2) S = [x0, x1, x2, x3, x4, x5, x6, x7] ∧ OkSec [x0, x1, x2, x3, x4, x5, x6, x7] ∧
    W.heap[w.heap.size + 1 + 1]? = some (.cells #[.int .u8 x0, .int .u8 x1, .int .u8 x2, .int .u8 x3, .int .u8 x4, .int .u8 x5, .int .u8 x6, .int .u8 x7] 53 (0, 0)) ∧ W.heap[w.heap.size + 1 + 1 + 1]? = some (.cells #[.bool true] 4 (0, 0))
theorem heap_ownT {W W' : World} {B : Nat} {row : Option Nat} (hg : W.grownBy W' row) (hr : ∀ r, row = some r → B ≤ r ∧ ∃ o : Obj, W.heap[r]? = some o ∧ (o.isCells = false ∨ ItObj (fun _ => False) o)) {k : Nat} {cs : Array Value} {T : TypeId} {fr : Nat × Nat} (h : W.heap[k]? = some (.cells cs T fr)) : W'.heap[k]? = some (.cells cs T fr) :=
  (hg.block k (Array.getElem?_eq_some_iff.1 h).1 (fun e => by
    obtain ⟨_, o, h1, h2⟩ := hr k e.symm
    rw [h] at h1; cases h1
    rcases h2 with h2 | (h2 | ⟨_, _, _, _, h2⟩)
    · cases h2
    · cases h2
    · exact h2)).trans h
theorem LkX.own {ws : List Wr} {V S : Int} {w : World} {B : Nat} (c : Code) : OwnT (fun _ => False) B (LkX ws V S w c) := fun s W W' row h hg hr => by
  obtain ⟨h1, ini, last, h2, h3, h4, x0, x1, x2, x3, x4, x5, x6, x7, h5, h6, h7, h8⟩ := h
  exact ⟨h1, ini, last, h2, h3, h4, x0, x1, x2, x3, x4, x5, x6, x7, h5, h6, heap_ownT hg hr h7, heap_ownT hg hr h8⟩
theorem set8_keeps (W : World) (b : Nat) (x0 x1 x2 x3 x4 x5 x6 x7 : Value) : KeepsOthers W (set8 W b x0 x1 x2 x3 x4 x5 x6 x7) :=
  (((((((KeepsOthers.setCell _ _ _).trans (KeepsOthers.setCell _ _ _)).trans (KeepsOthers.setCell _ _ _)).trans (KeepsOthers.setCell _ _ _)).trans (KeepsOthers.setCell _ _ _)).trans (KeepsOthers.setCell _ _ _)).trans (KeepsOthers.setCell _ _ _)).trans (KeepsOthers.setCell _ _ _)
theorem set8_other {W : World} {b b' : Nat} (h : b' ≠ b) (x0 x1 x2 x3 x4 x5 x6 x7 : Value) : (set8 W b x0 x1 x2 x3 x4 x5 x6 x7).heap[b']? = W.heap[b']? := by
  unfold set8
  rw [Below.heap_setCell _ _ _ _ h, Below.heap_setCell _ _ _ _ h, Below.heap_setCell _ _ _ _ h, Below.heap_setCell _ _ _ _ h, Below.heap_setCell _ _ _ _ h, Below.heap_setCell _ _ _ _ h, Below.heap_setCell _ _ _ _ h, Below.heap_setCell _ _ _ _ h]
/-- both results of a look-up stored -/
theorem lkSet {w W : World} {b : Nat} {c0 c1 c2 c3 c4 c5 c6 c7 : Value} {T TB : TypeId} {q0 : Bool} (h : W.heap[b]? = some (.cells #[c0, c1, c2, c3, c4, c5, c6, c7] T (0, 0))) (h2 : W.heap[b + 1]? = some (.cells #[.bool q0] TB (0, 0))) (x0 x1 x2 x3 x4 x5 x6 x7 : Value) (q : Bool) {B : Nat} (hb : Below B w W) (hB : B ≤ b) :
    let W' := (set8 W b x0 x1 x2 x3 x4 x5 x6 x7).setCell ⟨b + 1, 0, none⟩ (.bool q)
    KeepsOthers W W' ∧ W'.heap[b]? = some (.cells #[x0, x1, x2, x3, x4, x5, x6, x7] T (0, 0)) ∧ W'.heap[b + 1]? = some (.cells #[.bool q] TB (0, 0)) ∧ Below B w W' := by
  refine ⟨(set8_keeps _ _ _ _ _ _ _ _ _ _).trans (KeepsOthers.setCell _ _ _), ?_, ?_, ?_⟩
  · exact (Below.heap_setCell _ _ _ _ (by simp)).trans (set8_row h _ _ _ _ _ _ _ _)
  · have hb1 : Boxed (set8 W b x0 x1 x2 x3 x4 x5 x6 x7) (b + 1) TB (.bool q0) := (set8_other (by omega) _ _ _ _ _ _ _ _).trans h2
    exact hb1.set _
  · exact (set8_below hb hB _ _ _ _ _ _ _ _).setCell (p := ⟨b + 1, 0, none⟩) (by simp; omega) _
theorem lkRes {W : World} {D : Nat} {ob o' : Obj} (hD : W.heap[D]? = some ob) (ho : ob.isCells = false) {k : Nat} {cs : Array Value} {T : TypeId} {fr : Nat × Nat} (h : W.heap[k]? = some (.cells cs T fr)) : (W.putObj D o').heap[k]? = some (.cells cs T fr) :=
  (World.putObj_heap_other (fun e => by subst e; rw [hD] at h; cases h; cases ho)).trans h
set_option maxRecDepth 100000 in
set_option maxHeartbeats 4000000 in
theorem lookup_any (A : Option Addr) (c : Nat) (l : List Wr) (V S : Int) (w : World) (h1 : SlAt encWr w (Bl w.heap.size) A l) (hs : l.length ≤ 9223372036854775807) (h3 : I64 V) (h4 : I64 S) :
    Calls Try.prog 27 #[.slice A l.length c, .int .i64 V, .int .i64 S] w (LookRet l V S w) := by
  obtain ⟨f, hf1, hf2⟩ := h1.wrs
  have HF1 := Lib.hid hf1; have HF2 := Lib.hid hf2
  clear h1 hf1 hf2
  obtain ⟨n, hn⟩ : ∃ n : Nat, 4 ≤ n := ⟨4, Nat.le_refl _⟩
  refine (callsIn_wide (n := n)).1 ?_
  refine callsIn_of_wp_marks Try.func27 rfl trivial ?_ rfl
  simp only [Try.ntmps27, List.size_toArray, List.length_cons, List.length_nil, Nat.reduceAdd, Nat.reduceSub, Array.replicate_succ, Array.replicate_zero, List.push_toArray, List.append_toArray, List.nil_append, List.cons_append]
  gi_wp2_with fail
  refine ⟨trivial, fun _ => by omega, CallsIn.mono (callsIn_wide.2 (backward_any A l.length c _)) ?_⟩
  rintro e w1 ⟨rfl, rfl⟩
  have hW0 : Below w.heap.size w (((((w.alloc (.cells #[.int .i64 V] 3)).alloc (.cells #[.int .i64 S] 3)).alloc (.cells #[.int .u8 0, .int .u8 0, .int .u8 0, .int .u8 0, .int .u8 0, .int .u8 0, .int .u8 0, .int .u8 0] 53)).alloc (.cells #[.bool false] 4)).alloc (.cells #[.slice A l.length c] 22)) := (((((Below.refl _ _).alloc (Nat.le_refl _) _).alloc (by simp) _).alloc (by simp <;> omega) _).alloc (by simp <;> omega) _).alloc (by simp <;> omega) _
  have hb4 : ∀ (a : World) (o : Obj), Below a.heap.size a (a.alloc o) := fun a o => (Below.refl _ _).alloc (Nat.le_refl _) o
  have hW1 : LkI V S w (((((w.alloc (.cells #[.int .i64 V] 3)).alloc (.cells #[.int .i64 S] 3)).alloc (.cells #[.int .u8 0, .int .u8 0, .int .u8 0, .int .u8 0, .int .u8 0, .int .u8 0, .int .u8 0, .int .u8 0] 53)).alloc (.cells #[.bool false] 4)).alloc (.cells #[.slice A l.length c] 22)) := by
    have k1 := heap_alloc_new (((w.alloc (.cells #[.int .i64 V] 3)).alloc (.cells #[.int .i64 S] 3)).alloc (.cells zrow 53)) (.cells #[.bool false] 4)
    have k2 := heap_alloc_new ((w.alloc (.cells #[.int .i64 V] 3)).alloc (.cells #[.int .i64 S] 3)) (.cells zrow 53)
    have k3 := heap_alloc_new (w.alloc (.cells #[.int .i64 V] 3)) (.cells #[.int .i64 S] 3)
    have k4 := heap_alloc_new w (.cells #[.int .i64 V] 3)
    simp only [World.size_alloc] at k1 k2 k3
    refine ⟨?_, ?_, ?_, ?_⟩
    · exact ((hb4 _ _).block _ (by simp)).trans (((hb4 _ _).block _ (by simp)).trans k2)
    · exact ((hb4 _ _).block _ (by simp)).trans k1
    · exact ((hb4 _ _).block _ (by simp <;> omega)).trans (((hb4 _ _).block _ (by simp <;> omega)).trans (((hb4 _ _).block _ (by simp <;> omega)).trans (((hb4 _ _).block _ (by simp <;> omega)).trans k4)))
    · exact ((hb4 _ _).block _ (by simp <;> omega)).trans (((hb4 _ _).block _ (by simp <;> omega)).trans (((hb4 _ _).block _ (by simp <;> omega)).trans k3))
  have hWb : (((((w.alloc (.cells #[.int .i64 V] 3)).alloc (.cells #[.int .i64 S] 3)).alloc (.cells #[.int .u8 0, .int .u8 0, .int .u8 0, .int .u8 0, .int .u8 0, .int .u8 0, .int .u8 0, .int .u8 0] 53)).alloc (.cells #[.bool false] 4)).alloc (.cells #[.slice A l.length c] 22)).cell? ⟨w.heap.size + 1 + 1 + 1 + 1, 0, none⟩ = some (.slice A l.length c) := by
    have h := heap_alloc_new ((((w.alloc (.cells #[.int .i64 V] 3)).alloc (.cells #[.int .i64 S] 3)).alloc (.cells #[.int .u8 0, .int .u8 0, .int .u8 0, .int .u8 0, .int .u8 0, .int .u8 0, .int .u8 0, .int .u8 0] 53)).alloc (.cells #[.bool false] 4)) (.cells #[.slice A l.length c] 22)
    simp only [World.size_alloc] at h
    exact cell_of_row _ _ 0 _ _ _ h
  clear hb4
  have hWs : (((((w.alloc (.cells #[.int .i64 V] 3)).alloc (.cells #[.int .i64 S] 3)).alloc (.cells #[.int .u8 0, .int .u8 0, .int .u8 0, .int .u8 0, .int .u8 0, .int .u8 0, .int .u8 0, .int .u8 0] 53)).alloc (.cells #[.bool false] 4)).alloc (.cells #[.slice A l.length c] 22)).heap.size = w.heap.size + 5 := by simp
  have hmx : Try.prog.follows .mixedOrders = true := by kernel_rfl
  gi_wp2
  generalize ((((w.alloc (.cells #[.int .i64 V] 3)).alloc (.cells #[.int .i64 S] 3)).alloc (.cells #[.int .u8 0, .int .u8 0, .int .u8 0, .int .u8 0, .int .u8 0, .int .u8 0, .int .u8 0, .int .u8 0] 53)).alloc (.cells #[.bool false] 4)).alloc (.cells #[.slice A l.length c] 22) = W0 at hW0 hW1 hWb hWs ⊢
  have HWS := Lib.hid hWs; clear hWs
  have hwl : w.heap.size + 5 ≤ W0.heap.size := by rw [HWS.out]; exact Nat.le_refl _
  have hstops := backW_stops (n - 1) (by omega) (w.heap.size + 1 + 1 + 1 + 1) c A l f hs W0 (by omega) hWb (fun k hk => by
    obtain ⟨b, off, e, h0, h5⟩ := (HF1.out.below hW0) k hk
    exact ⟨b, off, e, by omega, h5⟩)
  refine wpIn_rangeFunc_ownT (own := fun _ => False) rfl (by omega) (gf := 82) (lb := #[.pointer (some ⟨w.heap.size + 1 + 1 + 1 + 1, 0, none⟩)]) rfl trivial (enters_of Try.func82 (by kernel_rfl) rfl) hstops belowK_t (belowK_b (Nat.le_refl _)) (Below.refl _ _) (fun _ => rfl)
    (fun pre W => NoHits l V S pre ∧ Below W0.heap.size W0 W)
    (fun c pre W => LkX l V S w c pre W ∧ Below w.heap.size w W)
    (OwnT.and (fun _ _ _ _ h _ _ => h) (ownT_below (Nat.le_refl _) (Nat.le_refl _)))
    (fun c => OwnT.and (LkX.own c) (ownT_below (Nat.le_refl _) (by omega)))
    ⟨fun _ h => by simp at h, Below.refl _ _⟩
    (fun x a' W => ∃ Bx, W0.heap.size ≤ Bx ∧ W.heap[Bx]? = some (.cells #[.int .i64 (l[x.1]'x.2).1, .int .i64 (l[x.1]'x.2).2.1, .slice (f x.1).1 (l[x.1]'x.2).2.2.length (f x.1).2] 35 (0, 0)) ∧ a' = { tmps := #[.slice A l.length c, .int .i64 V, .int .i64 S, undef, .pointer (some ⟨w.heap.size, 0, none⟩), .pointer (some ⟨w.heap.size + 1, 0, none⟩), .pointer (some ⟨w.heap.size + 1 + 1, 0, none⟩), .pointer (some ⟨w.heap.size + 1 + 1 + 1, 0, none⟩), undef, .pointer (some ⟨Bx, 0, none⟩), undef, .slice A l.length c, .func (.func 82) #[] #[.pointer (some ⟨w.heap.size + 1 + 1 + 1 + 1, 0, none⟩)], .int .i64 x.1, .agg #[.int .i64 (l[x.1]'x.2).1, .int .i64 (l[x.1]'x.2).2.1, .slice (f x.1).1 (l[x.1]'x.2).2.2.length (f x.1).2], undef, undef, undef, undef, undef, undef, undef, undef, undef, undef, undef, undef, undef, undef, undef, undef, undef, undef, undef, undef, undef, undef, undef, undef, undef, undef, undef, undef], defers := [] }) ?hAx ?assign ?body ?done ?stop
  case hAx =>
    rintro x a' s X Y row ⟨Bx, hb, hh, he⟩ hg hr
    refine ⟨Bx, hb, (hg.block Bx (Array.getElem?_eq_some_iff.1 hh).1 (fun e => ?_)).trans hh, he⟩
    obtain ⟨_, o', h1, h2⟩ := hr Bx e.symm
    rw [hh] at h1; cases h1; cases h2
  case assign =>
    rintro r pre x W K ⟨hi, hB⟩ hK
    have hsz := hB.size
    have hi2 := Lib.hid hi; clear hi
    simp only [wrAt]
    gi_wp2
    exact hK _ _ ((KeepsOthers.alloc _ _).from _) ((Below.refl _ _).alloc hsz _) ⟨hi2.out, hB.alloc hsz _⟩ ⟨W.heap.size, hsz, heap_alloc_new _ _, rfl⟩
  case body =>
    rintro r pre x a' W _ _ ⟨hp, hB⟩ ⟨Bx, hBx, hbx, rfl⟩ hlen
    have hsz := hB.size
    have hp2 := Lib.hid hp; clear hp
    have HW1 := hW1.below hB
    obtain ⟨q1, q2, q3, q4⟩ := HW1
    obtain ⟨r0, r1, r2, r3, r4, r5, r6, r7, rf⟩ := blk8 q1
    have s0 := cell_of_row _ _ 0 _ _ _ q2
    have sf : ∀ j, W.frozen? ⟨w.heap.size + 1 + 1 + 1, j, none⟩ = false := fun j => by simp [World.frozen?, q2]
    have u0 := cell_of_row _ _ 0 _ _ _ q3
    have v0 := cell_of_row _ _ 0 _ _ _ q4
    have t0 := cell_of_row _ _ 0 _ _ _ hbx
    have t1 := cell_of_row _ _ 1 _ _ _ hbx
    have t2 := cell_of_row _ _ 2 _ _ _ hbx
    obtain ⟨hD, hn1, hn2, hi1, hi2⟩ := HF2.out x.1 x.2
    have HQ1 := Lib.hid q1; have HQ2 := Lib.hid q2
    clear q1 q2 q3 q4 hbx
    obtain ⟨y, hy⟩ : ∃ y, Hid (y = l[x.1]'x.2) := ⟨_, Lib.hid rfl⟩
    obtain ⟨⟨D, dc⟩, hf⟩ : ∃ p, Hid (p = f x.1) := ⟨_, Lib.hid rfl⟩
    rw [← hy.out] at t0 t1 t2 hD hn1 hi1 hi2 ⊢
    rw [← hf.out] at t2 hD hn1 hn2 ⊢
    obtain ⟨v, s, data⟩ := y
    simp only at t0 t1 t2 hD hn1 hn2 hi1 hi2 ⊢
    unfold maxLen at hn2
    by_cases c1 : v = V
    · have c1' : (v != V) = false := by simp [c1]
      have C1 := Lib.hid c1; clear c1
      by_cases c2 : S < s
      · have hno : Hid (¬ hits (l[x.1]'x.2) V S) := by rw [Hid, ← hy.out]; rintro ⟨_, h, _⟩; simp only at h; omega
        gi_wp2
        exact ⟨KeepsFrom.refl _ _, Below.refl _ _, hp2.out.snoc hno.out, hB⟩
      · unfold I64 at h4 hi2
        obtain ⟨kn, hkn⟩ : ∃ kn : Nat, S - s = kn := ⟨(S - s).toNat, by omega⟩
        have hw := u64_diff h4 hi2 hkn
        have HKN := Lib.hid hkn; clear hkn
        have hnn : (0 : Int) ≤ kn := by omega
        by_cases c3 : kn < data.length
        · have hki : (kn : Int) < data.length := by omega
          obtain ⟨b2, off2, x0, x1, x2, x3, x4, x5, x6, x7, rfl, hb2, hx, hok, d0, d1, d2, d3, d4, d5, d6, d7⟩ := (hD.below (hW0.trans (hB.mono hW0.size))).sec c3
          have HX := Lib.hid hx; have HOK := Lib.hid hok; clear hx hok
          have hh : Hid (hits (l[x.1]'x.2) V S) := by rw [Hid, ← hy.out]; exact ⟨C1.out, by have := HKN.out; simp only; omega⟩
          have hset := Lib.hid (lkSet HQ1.out HQ2.out (.int .u8 x0) (.int .u8 x1) (.int .u8 x2) (.int .u8 x3) (.int .u8 x4) (.int .u8 x5) (.int .u8 x6) (.int .u8 x7) true (hW0.trans (hB.mono hW0.size)) (by omega))
          gi_wp2
          obtain ⟨k1, k2, k3, k4⟩ := hset.out
          exact ⟨k1.from _, ⟨rfl, pre, x, rfl, hp2.out, hh.out, x0, x1, x2, x3, x4, x5, x6, x7, by
            rw [← hy.out, ← HX.out]
            have e1 : (S - s).toNat = kn := by have := HKN.out; omega
            simp [datum, e1, c3], by rw [← HX.out]; exact HOK.out, k2, k3⟩, k4⟩
        · have hki : (data.length : Int) ≤ kn := by omega
          have hno : Hid (¬ hits (l[x.1]'x.2) V S) := by rw [Hid, ← hy.out]; rintro ⟨_, _, h⟩; have := HKN.out; simp only at h; omega
          gi_wp2
          exact ⟨KeepsFrom.refl _ _, Below.refl _ _, hp2.out.snoc hno.out, hB⟩
    · have c1' : (v != V) = true := by simp [c1]
      have hno : Hid (¬ hits (l[x.1]'x.2) V S) := by rw [Hid, ← hy.out]; exact fun h => c1 h.1
      have C1 := Lib.hid c1; clear c1
      gi_wp2
      exact ⟨KeepsFrom.refl _ _, Below.refl _ _, hp2.out.snoc hno.out, hB⟩
  case done =>
    rintro D ys W hD hS ⟨hno, hB⟩ hK
    obtain ⟨q1, q2, q3, q4⟩ := hW1.below hB
    obtain ⟨r0, r1, r2, r3, r4, r5, r6, r7, rf⟩ := blk8 q1
    have s0 := cell_of_row _ _ 0 _ _ _ q2
    have sf : ∀ j, W.frozen? ⟨w.heap.size + 1 + 1 + 1, j, none⟩ = false := fun j => by simp [World.frozen?, q2]
    have hset := Lib.hid (lkSet q1 q2 (.int .u8 0) (.int .u8 0) (.int .u8 0) (.int .u8 0) (.int .u8 0) (.int .u8 0) (.int .u8 0) (.int .u8 0) false (hW0.trans (hB.mono hW0.size)) (by omega))
    have HK := Lib.hid hK
    have HNO : Hid (look l V S = none) := look_none l V S (fun x hx => by
      obtain ⟨j, hj, rfl⟩ := List.mem_iff_getElem.1 hx
      have hm : j ∈ ys.map (·.1) := by rw [hS]; exact bk_mem.2 ⟨Nat.zero_le _, hj⟩
      obtain ⟨k, hk, rfl⟩ := List.mem_map.1 hm
      exact hno k hk)
    clear q1 q2 q3 q4 hK hS
    gi_wp2
    obtain ⟨k1, k2, k3, k4⟩ := hset.out
    have hK' := k1.same D _ HK.out rfl
    refine ⟨by simp, .inl ⟨_, _, rfl, run_takeDeferred hK', ?_⟩⟩
    obtain ⟨z0, z1, z2, z3, z4, z5, z6, z7, _⟩ := blk8 (lkRes (o' := .deferred none) hK' rfl k2)
    have z8 := cell_of_row _ _ 0 _ _ _ (lkRes (o' := .deferred none) hK' rfl k3)
    simp only [set8] at z0 z1 z2 z3 z4 z5 z6 z7 z8
    refine ⟨.tuple #[.agg #[.int .u8 0, .int .u8 0, .int .u8 0, .int .u8 0, .int .u8 0, .int .u8 0, .int .u8 0, .int .u8 0], .bool false], ?_, ?_⟩
    · simp [results, Try.results27, Try.f27, go_sem, z0, z1, z2, z3, z4, z5, z6, z7, z8]
    · exact ⟨0, 0, 0, 0, 0, 0, 0, 0, false, rfl, zsec_ok, by rw [HNO.out]; rfl, by rw [HNO.out]; rfl, k4.grown (grownBy_putObj' _ D (.deferred none)) k4.size (fun k e => by cases e; omega)⟩
  case stop =>
    rintro D c' pre W hD ⟨k, hk, hpre⟩ ⟨⟨rfl, ini, last, he, hini, hlast, x0, x1, x2, x3, x4, x5, x6, x7, hdt, hok, k2, k3⟩, hB⟩ hK
    have HPRE := Lib.hid hpre; have HE := Lib.hid he; have HDT := Lib.hid hdt; have HOK := Lib.hid hok; have HK := Lib.hid hK; have HLAST := Lib.hid hlast; have K2 := Lib.hid k2; have K3 := Lib.hid k3; have HINI := Lib.hid hini
    clear hpre he hdt hok hK hlast k2 k3 hini
    gi_wp2
    refine ⟨by simp, .inl ⟨_, _, rfl, run_takeDeferred HK.out, ?_⟩⟩
    obtain ⟨z0, z1, z2, z3, z4, z5, z6, z7, _⟩ := blk8 (lkRes (o' := .deferred none) HK.out rfl K2.out)
    have z8 := cell_of_row _ _ 0 _ _ _ (lkRes (o' := .deferred none) HK.out rfl K3.out)
    have hl : look l V S = some (datum (l[last.1]'last.2) S) := by
      have h1 := HPRE.out
      rw [HE.out, List.map_append] at h1
      cases hkl : decide (k < l.length) with
      | false =>
        have : k = l.length := by have := of_decide_eq_false hkl; omega
        subst this
        rw [bk_top] at h1
        simp at h1
      | true =>
        have hkl' := of_decide_eq_true hkl
        rw [bk_step hkl'] at h1
        obtain ⟨h2, h3⟩ := List.append_inj' h1 rfl
        have h4 : last.1 = k := by simpa using h3
        refine look_at l last.1 last.2 V S HLAST.out (fun j hj hlt => ?_)
        have hm : j ∈ ini.map (·.1) := by rw [h2]; exact bk_mem.2 ⟨by omega, hj⟩
        obtain ⟨i, hi, rfl⟩ := List.mem_map.1 hm
        exact HINI.out i hi
    refine ⟨.tuple #[.agg #[.int .u8 x0, .int .u8 x1, .int .u8 x2, .int .u8 x3, .int .u8 x4, .int .u8 x5, .int .u8 x6, .int .u8 x7], .bool true], ?_, ?_⟩
    · simp [results, Try.results27, Try.f27, go_sem, z0, z1, z2, z3, z4, z5, z6, z7, z8]
    · exact ⟨x0, x1, x2, x3, x4, x5, x6, x7, true, rfl, HOK.out, by rw [hl]; rfl, by rw [hl]; exact HDT.out, hB.grown (grownBy_putObj' _ D (.deferred none)) hB.size (fun k e => by cases e; omega)⟩
end Go.Proofs.Ytfahbhjlkdcnpaa
