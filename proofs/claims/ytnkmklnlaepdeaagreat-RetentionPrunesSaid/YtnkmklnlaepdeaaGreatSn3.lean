/-
  A range over an iterator whose body ranges over another one: its contract assumes more of the caller's word (it abides the turn of whatever is no cells and was laid behind), and the law of the statement. slices.Backward over snapshots.
  snapshot.back: the items from the last one down to an index.
  snapshot.at: the image at an index.
  snapshot.Image.
-/
import Derived.Test.YtnkmklnlaepdeaaGreatSn8
import Derived.Test.YtnkmklnlaepdeaaGreatVl
set_option linter.unusedVariables false
set_option linter.unusedSimpArgs false
set_option linter.unusedSectionVars false
set_option linter.unnecessarySimpa false
namespace Go.Proofs.YtnkmklnlaepdeaaGreat
open Go.RowKit Go.Shelf
attribute [local go_sem] Oper.semAt_some
theorem keepsFrom_mono {B B' : Nat} {W W' : World} (h : KeepsFrom B W W') (hb : B ≤ B') : KeepsFrom B' W W' := ⟨h.size, fun k o hk h1 h2 => h.same k o (by omega) h1 h2⟩
theorem keepsFrom_low {B l : Nat} (W : World) (o : Obj) (h : l < B) : KeepsFrom B W (W.putObj l o) := KeepsFrom.of_grownBy (grownBy_putObj' W l o) (fun j e => by cases e; exact h)
theorem OwnT.up {β : Type} {own : TypeId → Prop} {B B' : Nat} {J : β → World → Prop} (h : OwnT own B J) (hb : B ≤ B') : OwnT own B' J := fun s W W' row hs hg hr => h s W W' row hs hg (fun r e => ⟨Nat.le_trans hb (hr r e).1, (hr r e).2⟩)
theorem RoundIn.anyDepth_ {F : Fence} (hd : F.depth = none) {m m' l' : Nat} {P : Program} {l : Nat} {f : FuncId} {tmps : Array Value} {assign body : Code} {w : World} {R : Ending → World → Prop}
    (h : RoundIn F m P l f tmps assign body w R) : RoundIn (F.inRound l') m' P l f tmps assign body w R := ⟨h.1, fun c cs _ => h.2 c cs (fun d h => by rw [hd] at h; cases h)⟩
section
variable {F : Fence} {n : Nat} {P : Program}
/-- the contract of an iterator that lays walks and loops of its own -/
def SeqStopsU {α : Type} (own : TypeId → Prop) (F : Fence) (n : Nat) (P : Program) (g : Nat) (lb : Array Value) (encs : α → Array Value) (Kp : World → World → Prop) (S Sp : List α → Prop) (N : Nat) (w : World) : Prop :=
  ∀ (l : Nat) (J Jx : List α → World → Prop) (W : World), Below w.heap.size w W → OwnT own W.heap.size J → OwnT own W.heap.size Jx →
    (∀ pre x W1, J pre W1 → pre.length < N → YieldAt F (n - 1) P l (encs x) W1 fun e W' =>
      (e = .returned (.bool true) ∧ J (pre ++ [x]) W' ∧ Kp W1 W' ∧ KeepsFrom W.heap.size W1 W') ∨ (e = .returned (.bool false) ∧ Jx (pre ++ [x]) W' ∧ KeepsFrom W.heap.size W1 W')) →
    J [] W →
    CallsIn F n P g (#[.func (.yield l) #[] #[]] ++ lb) W fun e W' => (∃ v, e = .returned v) ∧ ((∃ xs, S xs ∧ J xs W') ∨ (∃ pre, Sp pre ∧ Jx pre W'))
/-- the statement -/
theorem wpIn_rangeFunc_ownU {α : Type} {own : TypeId → Prop} {g : Operand} {ps : Array Tmp} {assign body : Code} {Q : Exit → Act → World → Prop} {a : Act} {w : World}
    (hro : F.round = none) (h1 : 1 ≤ n) {gf : Nat} {lb : Array Value} (hg : a.eval g = .func (.func gf) #[] lb) (hFg : F.fn gf) (eg : ∀ args w, (callFunc gf args).run P w = .ok (.enter gf args) w)
    {encs : α → Array Value} {Kp : World → World → Prop} {S Sp : List α → Prop} {N : Nat} {w0 : World} (hseq : SeqStopsU own F (n - 1) P gf lb encs Kp S Sp N w0)
    (hKt : ∀ {A B C : World}, Kp A B → Kp B C → Kp A C) (hKb : ∀ (W : World) (l : Nat) (o o' : Obj), w.heap.size ≤ l → W.heap[l]? = some o → o.isCells = false → o.isWalk = false → Kp W (W.putObj l o')) (hb0 : Below w0.heap.size w0 w) (hps : ∀ x, (encs x).size = ps.size)
    (I : List α → World → Prop) (Ix : Code → List α → World → Prop) (hI : OwnT own w.heap.size I) (hIx : ∀ c, OwnT own w.heap.size (Ix c)) (h0 : I [] w) (Ax : α → Act → World → Prop) (hAx : ∀ x a', OwnFrom w.heap.size (fun (_ : Unit) W => Ax x a' W))
    (hassign : ∀ (l : Nat) (pre : List α) (x : α) (W : World) (K : Act → World → Prop), I pre W → (∀ a' W', KeepsFrom w.heap.size W W' → Kp W W' → I pre W' → Ax x a' W' → K a' W') →
      assign.wpIn (F.inRound l) (n - 1 - 1) P (Exit.then K (fun _ _ _ => False)) { tmps := (ps.zip (encs x)).foldl (fun t (p, v) => t.setIfInBounds p v) a.tmps, defers := [] } W)
    (hbody : ∀ (l : Nat) (pre : List α) (x : α) (a' : Act) (W : World), w.heap.size ≤ l → (∃ r, W.heap[l]? = some (.loop r)) → I pre W → Ax x a' W → pre.length < N → body.wpIn (F.inRound l) (n - 1 - 1) P (ownPostG w.heap.size Kp I Ix (pre ++ [x]) W) a' W)
    (hdone : ∀ (D : Nat) (xs : List α) (W : World), w.heap.size ≤ D → S xs → I xs W → W.heap[D]? = some (.deferred (some [])) → Q .normal { a with defers := { target := .collected D, args := #[] } :: a.defers } W)
    (hstop : ∀ (D : Nat) (c : Code) (pre : List α) (W : World), w.heap.size ≤ D → Sp pre → Ix c pre W → W.heap[D]? = some (.deferred (some [])) → c.wpIn F n P Q { a with defers := { target := .collected D, args := #[] } :: a.defers } W) :
    (Code.rangeFunc g ps assign body).wpIn F n P Q a w := by
  refine wpIn_rangeFunc ?_
  intro fn hfn
  rw [hro]
  obtain ⟨rec, hrec⟩ : ∃ rec : LoopState → Option Code → Loop, rec = fun st pe => { state := st, pending := pe, fn, tmps := a.tmps, params := ps, assign, body, defers := w.heap.size } := ⟨_, rfl⟩
  obtain ⟨W1, hW1⟩ : ∃ W1, (w.alloc (.deferred (some []))).alloc (.loop (rec .ready none)) = W1 := ⟨_, rfl⟩
  have hL1 : W1.heap[w.heap.size + 1]? = some (.loop (rec .ready none)) := by
    rw [← hW1]; have := World.alloc_heap_new (w.alloc (.deferred (some []))) (.loop (rec .ready none)); rwa [World.size_alloc] at this
  have hK1 : W1.heap[w.heap.size]? = some (.deferred (some [])) := by
    rw [← hW1]; exact (Below.heap_alloc _ _ _ (by simp)).trans (World.alloc_heap_new w _)
  have hI1 : I [] W1 := by rw [← hW1]; exact hI.alloc _ (hI.alloc _ h0)
  have hb1 : Below w0.heap.size w0 W1 := by
    rw [← hW1]; exact hb0.trans ((((Below.refl _ w).alloc (Nat.le_refl _) _).alloc (by simp) _).mono hb0.size)
  refine ⟨w.heap.size + 1, [{ target := .collected w.heap.size, args := #[] }], W1, { target := .fn (.func gf) lb, args := #[.func (.yield (w.heap.size + 1)) #[] #[]] }, W1, gf,
    #[.func (.yield (w.heap.size + 1)) #[] #[]] ++ lb, W1, ?_, ?_, ?_, ?_, fun _ => h1, ?_⟩
  · rw [← hW1, hrec]; exact run_enterLoop_outer _ _ _ _ _
  · simp only [resolve, hg]
    simp [go_sem]
  · intro f' hf'; simp [Target.leads] at hf'; subst hf'; exact hFg
  · simp [invoke, go_sem, eg]
  · -- THE ITERATOR's CONTRACT, AT THE CALLER's INVARIANT WITH THE TWO FACTS OF BOOK-KEEPING BESIDE IT
    have hnw : ∀ {A B : World} {row : Option Nat}, (∀ r, row = some r → W1.heap.size ≤ r ∧ ∃ o : Obj, A.heap[r]? = some o ∧ (o.isCells = false ∨ ItObj own o)) → (∀ r, row = some r → w.heap.size ≤ r ∧ ∃ o : Obj, A.heap[r]? = some o ∧ (o.isCells = false ∨ ItObj own o)) :=
      fun hr r e => by obtain ⟨hB, o, ho, hw⟩ := hr r e; exact ⟨by rw [← hW1] at hB; simp at hB; omega, o, ho, hw⟩
    have hlow : ∀ k, W1.heap.size ≤ k → k < w.heap.size + 2 → False := fun k h1 h2 => by rw [← hW1] at h1; simp at h1; omega
    refine (hseq (w.heap.size + 1)
      (fun pre W => I pre W ∧ W.heap[w.heap.size + 1]? = some (.loop (rec .ready none)) ∧ W.heap[w.heap.size]? = some (.deferred (some [])))
      (fun pre W => ∃ c, Ix c pre W ∧ W.heap[w.heap.size + 1]? = some (.loop (rec .done (some c))) ∧ W.heap[w.heap.size]? = some (.deferred (some [])))
      W1 hb1
      (fun s A B row hs hg' hr => ⟨hI s A B row hs.1 hg' (hnw (B := B) hr), (hg'.block _ (Array.getElem?_eq_some_iff.1 hs.2.1).1 (fun e => hlow _ (hr _ e.symm).1 (by omega))).trans hs.2.1, (hg'.block _ (Array.getElem?_eq_some_iff.1 hs.2.2).1 (fun e => hlow _ (hr _ e.symm).1 (by omega))).trans hs.2.2⟩)
      (fun s A B row hs hg' hr => by
        obtain ⟨c, hc, hl, hk⟩ := hs
        exact ⟨c, hIx c s A B row hc hg' (hnw (B := B) hr), (hg'.block _ (Array.getElem?_eq_some_iff.1 hl).1 (fun e => hlow _ (hr _ e.symm).1 (by omega))).trans hl, (hg'.block _ (Array.getElem?_eq_some_iff.1 hk).1 (fun e => hlow _ (hr _ e.symm).1 (by omega))).trans hk⟩)
      ?_ ⟨hI1, hL1, hK1⟩).mono ?_
    · -- ONE ROUND
      rintro pre x W ⟨hi, hl, hk⟩ hlen
      have hlt : w.heap.size + 1 < W.heap.size := (Array.getElem?_eq_some_iff.1 hl).1
      have hy := run_yield (P := P) (args := encs x) hl (by rw [hrec]; exact hps x)
      rw [hrec] at hy
      refine ⟨fn, _, assign, body, hy, roundIn_of_wpIn hfn (hassign _ pre x W _ hi ?_)⟩
      clear hy
      intro a' Wa hkfa hkpa hia hax
      -- THE ASSIGN CODE MAY HAVE LAID BLOCKS (a loop variable that an inner function captures is boxed): the two blocks of book-keeping lie as they lay
      replace hl := hkfa.same _ _ (by omega) hl rfl
      replace hk := hkfa.same _ _ (Nat.le_refl _) hk rfl
      replace hlt : w.heap.size + 1 < Wa.heap.size := (Array.getElem?_eq_some_iff.1 hl).1
      replace hi := hia
      clear hia
      revert hkpa hkfa
      generalize W = Wb
      intro hkfa hkpa
      obtain ⟨W, rfl⟩ : ∃ W, W = Wa := ⟨_, rfl⟩
      refine ⟨_, run_beginRound hl (by rw [hrec]), ?_⟩
      have hl2 : (W.putObj (w.heap.size + 1) (.loop { rec .ready none with state := .busy })).heap[w.heap.size + 1]? = some (.loop { rec .ready none with state := .busy }) := World.putObj_heap_same hlt
      have hk2 : (W.putObj (w.heap.size + 1) (.loop { rec .ready none with state := .busy })).heap[w.heap.size]? = some (.deferred (some [])) := (World.putObj_heap_other (by omega)).trans hk
      have hw2 : Kp W (W.putObj (w.heap.size + 1) (.loop { rec .ready none with state := .busy })) := hKb _ _ _ _ (by omega) hl rfl rfl
      refine wpIn_mono (hbody _ pre x a' _ (by omega) ⟨_, hl2⟩ (hI.putObj _ hi (by omega) hl rfl) ((hAx x a').putObj (s := ()) _ hax (by omega) hl rfl) hlen) ?_
      have fin : ∀ (jump : Option Code) (W3 : World), KeepsFrom w.heap.size (W.putObj (w.heap.size + 1) (.loop { rec .ready none with state := .busy })) W3 →
          (Instr.endRound (w.heap.size + 1) jump).run P W3 = .ok (.bool jump.isNone) (W3.putObj (w.heap.size + 1) (.loop (rec (if jump.isNone then .ready else .done) jump))) ∧
          W3.heap[w.heap.size + 1]? = some (.loop { rec .ready none with state := .busy }) ∧
          (W3.putObj (w.heap.size + 1) (.loop (rec (if jump.isNone then .ready else .done) jump))).heap[w.heap.size + 1]? = some (.loop (rec (if jump.isNone then .ready else .done) jump)) ∧
          (W3.putObj (w.heap.size + 1) (.loop (rec (if jump.isNone then .ready else .done) jump))).heap[w.heap.size]? = some (.deferred (some [])) := fun jump W3 hk3 => by
        have hl3 := hk3.same _ _ (by omega) hl2 rfl
        have := run_endRound (P := P) jump hl3
        rw [hrec] at this ⊢
        exact ⟨this, by rw [hrec] at hl3; exact hl3, World.putObj_heap_same (Array.getElem?_eq_some_iff.1 hl3).1, (World.putObj_heap_other (by omega)).trans (hk3.same _ _ (Nat.le_refl _) hk2 rfl)⟩
      have hkk : ∀ (o : Obj) (W3 : World), KeepsFrom w.heap.size (W.putObj (w.heap.size + 1) (.loop { rec .ready none with state := .busy })) W3 → KeepsFrom W1.heap.size Wb (W3.putObj (w.heap.size + 1) o) := fun o W3 hk3 => by
        have hs1 : W1.heap.size = w.heap.size + 2 := by rw [← hW1]; simp
        rw [hs1]
        exact (((keepsFrom_mono hkfa (by omega)).trans (keepsFrom_low _ _ (by omega))).trans (keepsFrom_mono hk3 (by omega))).trans (keepsFrom_low _ _ (by omega))
      rintro e a3 W3 hp
      cases e with
      | normal =>
        obtain ⟨hk3, hkp3, hi3⟩ := hp
        obtain ⟨hr, hl3, hl4, hk4⟩ := fin none W3 hk3
        exact ⟨_, _, hr, .inl ⟨rfl, ⟨hI.putObj _ hi3 (by omega) hl3 rfl, hl4, hk4⟩, hKt hkpa (hKt (hKt hw2 hkp3) (hKb _ _ _ _ (by omega) hl3 rfl rfl)), hkk _ _ hk3⟩⟩
      | ret =>
        obtain ⟨hk3, hi3⟩ := hp
        obtain ⟨hr, hl3, hl4, hk4⟩ := fin (some .ret) W3 hk3
        exact ⟨_, _, hr, .inr ⟨rfl, ⟨.ret, (hIx _).putObj _ hi3 (by omega) hl3 rfl, hl4, hk4⟩, hkk _ _ hk3⟩⟩
      | exit id =>
        obtain ⟨hk3, hi3⟩ := hp
        obtain ⟨hr, hl3, hl4, hk4⟩ := fin (some (.exit id)) W3 hk3
        exact ⟨_, _, hr, .inr ⟨rfl, ⟨.exit id, (hIx _).putObj _ hi3 (by omega) hl3 rfl, hl4, hk4⟩, hkk _ _ hk3⟩⟩
      | goto t =>
        obtain ⟨hk3, hi3⟩ := hp
        obtain ⟨hr, hl3, hl4, hk4⟩ := fin (some (.goto t)) W3 hk3
        exact ⟨_, _, hr, .inr ⟨rfl, ⟨.goto t, (hIx _).putObj _ hi3 (by omega) hl3 rfl, hl4, hk4⟩, hkk _ _ hk3⟩⟩
      | panic ch => exact hp.elim
      | outgrown => exact hp.elim
    · -- BEHIND THE ITERATOR
      rintro e W2 ⟨⟨v, rfl⟩, (⟨xs, hS, hi, hl, hk⟩ | ⟨pre, hSp, c, hi, hl, hk⟩)⟩
      · exact ⟨none, _, by have := run_endLoop (P := P) hl (by rw [hrec]; simp); rw [hrec] at this; exact this, hdone _ xs _ (Nat.le_refl _) hS (hI.putObj _ hi (by omega) hl rfl) ((World.putObj_heap_other (by omega)).trans hk)⟩
      · exact ⟨some c, _, by have := run_endLoop (P := P) hl (by rw [hrec]; simp); rw [hrec] at this; exact this, hstop _ c pre _ (Nat.le_refl _) hSp ((hIx c).putObj _ hi (by omega) hl rfl) ((World.putObj_heap_other (by omega)).trans hk)⟩
end
def snAt (l : List Snp) (f : Nat → Option Addr × Nat) (k : IdxN l.length) : Array Value := #[.int .i64 (k.1 : Int), .agg #[.int .i64 (l[k.1]'k.2).1, .int .i64 (l[k.1]'k.2).2.1, .slice (f k.1).1 (l[k.1]'k.2).2.2.length (f k.1).2]]
/-- where the elements of a slice of writes lie -/
def SnsAt (l : List Snp) (f : Nat → Option Addr × Nat) (A : Option Addr) (w : World) (B : Nat) : Prop :=
  ∀ k (hk : k < l.length), ∃ b off, A = some ⟨b, off, none⟩ ∧ b < B ∧ w.cell? ⟨b, off + k * 3, none⟩ = some (.int .i64 l[k].1) ∧ w.cell? ⟨b, off + k * 3 + 1, none⟩ = some (.int .i64 l[k].2.1) ∧ w.cell? ⟨b, off + k * 3 + 2, none⟩ = some (.slice (f k).1 l[k].2.2.length (f k).2)
theorem SnsAt.below {l : List Snp} {f : Nat → Option Addr × Nat} {A : Option Addr} {w w' : World} {B : Nat} (h : SnsAt l f A w B) (hb : Below B w w') : SnsAt l f A w' B := fun k hk => by
  obtain ⟨b, off, e, h0, h1, h2, h3⟩ := h k hk
  exact ⟨b, off, e, h0, (hb.cell (p := ⟨b, _, none⟩) h0).trans h1, (hb.cell (p := ⟨b, _, none⟩) h0).trans h2, (hb.cell (p := ⟨b, _, none⟩) h0).trans h3⟩
theorem SlAt.snps {l : List Snp} {A : Option Addr} {w : World} {B : Nat} (h : SlAt encSnp w (Bl B) A l) : ∃ f, SnsAt l f A w B ∧ ∀ k (hk : k < l.length), SlAt encWr w (Bl B) (f k).1 l[k].2.2 ∧ l[k].2.2.length ≤ (f k).2 ∧ (f k).2 ≤ maxLen ∧ I64 l[k].1 ∧ I64 l[k].2.1 := by
  have key : ∀ k, ∃ p : Option Addr × Nat, ∀ hk : k < l.length, (∃ b off, A = some ⟨b, off, none⟩ ∧ b < B ∧ w.cell? ⟨b, off + k * 3, none⟩ = some (.int .i64 l[k].1) ∧ w.cell? ⟨b, off + k * 3 + 1, none⟩ = some (.int .i64 l[k].2.1) ∧ w.cell? ⟨b, off + k * 3 + 2, none⟩ = some (.slice p.1 l[k].2.2.length p.2)) ∧
      SlAt encWr w (Bl B) p.1 l[k].2.2 ∧ l[k].2.2.length ≤ p.2 ∧ p.2 ≤ maxLen ∧ I64 l[k].1 ∧ I64 l[k].2.1 := by
    intro k
    by_cases hk : k < l.length
    · obtain ⟨b, off, D, c, e, hb, h0, h1, h2, h3, h4, h5, h6, h7⟩ := h.snp hk
      exact ⟨(D, c), fun _ => ⟨⟨b, off, e, hb, h0, h1, h2⟩, h3, h4, h5, h6, h7⟩⟩
    · exact ⟨(none, 0), fun h => absurd h hk⟩
  obtain ⟨f, hf⟩ := Classical.axiomOfChoice key
  exact ⟨f, fun k hk => (hf k hk).1, fun k hk => (hf k hk).2⟩
/-- the types of the iterators' own boxes -/
def bkOwn (T : TypeId) : Prop := T = 27 ∨ T = 110
end Go.Proofs.YtnkmklnlaepdeaaGreat

namespace Go.Proofs.YtnkmklnlaepdeaaGreat
open Go.RowKit Go.Shelf
attribute [local go_sem] Oper.semAt_some

def snOne (l : List Snp) (f : Nat → Option Addr × Nat) (k : IdxN l.length) : Array Value := #[.agg #[.int .i64 (l[k.1]'k.2).1, .int .i64 (l[k.1]'k.2).2.1, .slice (f k.1).1 (l[k.1]'k.2).2.2.length (f k.1).2]]
end Go.Proofs.YtnkmklnlaepdeaaGreat

namespace Go.Proofs.YtnkmklnlaepdeaaGreat
open Go.RowKit Go.Shelf
attribute [local go_sem] Oper.semAt_some

/-- blocks of cells -/
def CS (w : World) (S : Nat → Prop) (b : Nat) : Prop := S b ∧ ∃ cs T fr, w.heap[b]? = some (.cells cs T fr)
theorem SlAt.onCells {α : Type} {E : Enc α} {w : World} {S : Nat → Prop} {A : Option Addr} {l : List α} (h : SlAt E w S A l) (hs : 0 < E.size) (hE : ∀ {cs x}, E.rd w S cs x → E.rd w (CS w S) cs x) : SlAt E w (CS w S) A l := fun hn => by
  obtain ⟨b, off, e, hb, hc⟩ := h hn
  refine ⟨b, off, e, ⟨hb, ?_⟩, fun i x hx => ?_⟩
  · obtain ⟨x, hx⟩ : ∃ x, l[0]? = some x := ⟨l[0]'(List.length_pos_iff.2 hn), List.getElem?_eq_getElem _⟩
    obtain ⟨cs, h1, h2⟩ := hc 0 x hx
    have hl := E.len h2
    have h3 := h1 0 (cs[0]'(by omega)) (List.getElem?_eq_getElem _)
    unfold World.cell? at h3
    cases ho : w.heap[b]? with
    | none => simp [ho] at h3
    | some o =>
      cases o with
      | cells cs T fr => exact ⟨cs, T, fr, rfl⟩
      | _ => simp [ho] at h3
  · obtain ⟨cs, h1, h2⟩ := hc i x hx
    exact ⟨cs, h1, hE h2⟩
theorem img_onCells {w : World} {S : Nat → Prop} {A : Option Addr} {im : Img} (h : SlAt (encSl encSec) w S A im) : SlAt (encSl encSec) w (CS w S) A im :=
  h.onCells (by decide) (fun {cs x} ⟨A, c, h1, h2, h3, h4⟩ => ⟨A, c, h1, h2, h3, h4.onCells (by decide) (fun h => h)⟩)
theorem errOf_all36 {α : Type} {f : α → Int} {l : List α} (h : ∀ x ∈ l, f x = 0) : errOf f l = 0 := by
  unfold errOf
  rw [List.find?_eq_none.2 (fun x hx => by simp [h x hx])]
  rfl
theorem applyErr_zero {im : Img} {l : List Wr} (h1 : sizesN (lens im) = 0) (h2 : ∀ x ∈ l, fitsN (lens im) x = 0) : applyErr im l = 0 := by
  unfold applyErr
  rw [if_neg (by simp [h1])]
  exact errOf_all36 h2
/-- the image behind the items that have come -/
def runI (im : Img) (L : List Snp) (pre : List (IdxN L.length)) : Img := pre.foldl (fun im x => putAll im (L[x.1]'x.2).2.2) im
theorem runI_snoc (im : Img) (L : List Snp) (pre : List (IdxN L.length)) (x : IdxN L.length) : runI im L (pre ++ [x]) = putAll (runI im L pre) (L[x.1]'x.2).2.2 := by simp [runI]
theorem runI_lens {im : Img} {L : List Snp} (h : ∀ x ∈ L, ∀ y ∈ x.2.2, fitsN (lens im) y = 0) (pre : List (IdxN L.length)) : lens (runI im L pre) = lens im := by
  induction pre using snocRec with
  | h0 => rfl
  | h1 l x ih =>
    rw [runI_snoc, putAll_lens (fun y hy => by rw [ih]; exact h _ (List.getElem_mem x.2) y hy), ih]
theorem runI_all {im : Img} {L : List Snp} {ys : List (IdxN L.length)} (h : ys.map (·.1) = bk L.length 0) : runI im L ys = atL im L := by
  have h1 : runI im L ys = (ys.map (·.1)).foldl (fun im j => putAll im (L.getD j (0, 0, [])).2.2) im := by
    unfold runI
    rw [List.foldl_map]
    congr 1
    funext im x
    rw [List.getD_eq_getElem?_getD, List.getElem?_eq_getElem x.2]; rfl
  have h2 : atL im L = ((List.range' 0 L.length).reverse).foldl (fun im j => putAll im (L.getD j (0, 0, [])).2.2) im := by
    unfold atL
    have : L.reverse = ((List.range' 0 L.length).reverse).map (fun j => L.getD j (0, 0, [])) := by
      rw [List.map_reverse]
      congr 1
      apply List.ext_getElem
      · simp
      · intro i h1 h2
        simp [List.getElem?_eq_getElem h1]
    rw [this, List.foldl_map]
  rw [h1, h2, h, bk]
  rfl
theorem CS.turn {w w' : World} {S : Nat → Prop} {row : Option Nat} {A : Option Addr} {im : Img} {B : Nat} (h : SlAt (encSl encSec) w (CS w S) A im) (hg : w.grownBy w' row) (hr : ∀ r, row = some r → B ≤ r ∧ ∃ o : Obj, w.heap[r]? = some o ∧ (o.isCells = false ∨ ItObj (fun _ => False) o)) : SlAt (encSl encSec) w' (CS w' S) A im := by
  have hk : ∀ b, CS w S b → w'.heap[b]? = w.heap[b]? := fun b ⟨_, cs, T, fr, hb⟩ => (heap_ownT hg hr hb).trans hb.symm
  exact (h.blk hk).more (fun b hb => ⟨hb.1, by
    obtain ⟨cs, T, fr, e⟩ := hb.2
    exact ⟨cs, T, fr, (hk b hb).trans e⟩⟩)
/-- what at holds between two rounds -/
def AtI (im : Img) (L : List Snp) (ib n0 hz : Nat) (w : World) (pre : List (IdxN L.length)) (V : World) : Prop :=
  (∃ B vc, V.heap[ib]? = some (.cells #[.slice B im.length vc] 26 (0, 0)) ∧ im.length ≤ vc ∧ vc ≤ maxLen ∧ SlAt (encSl encSec) V (CS V (fun g => n0 + 3 ≤ g ∧ g ≠ ib)) B (runI im L pre)) ∧
  V.heap[n0 + 1]? = some (.cells #[.slice none 0 0] 26 (0, 0)) ∧ V.heap[n0 + 1 + 1]? = some (.cells #[.int .i64 0] 34 (0, 0)) ∧ Below n0 w V ∧ hz ≤ V.heap.size
theorem AtI.own {im : Img} {L : List Snp} {ib n0 hz : Nat} {w : World} {B : Nat} (hB : n0 ≤ B) (hw : n0 ≤ w.heap.size) : OwnT (fun _ => False) B (AtI im L ib n0 hz w) := fun s X Y row h hg hr => by
  obtain ⟨⟨B', vc, h1, h2, h3, h4⟩, h5, h6, h7, h8⟩ := h
  exact ⟨⟨B', vc, heap_ownT hg hr h1, h2, h3, CS.turn h4 hg hr⟩, heap_ownT hg hr h5, heap_ownT hg hr h6, h7.grown hg (Nat.le_trans hw h7.size) (fun k e => Nat.le_trans hB (hr k e).1), Nat.le_trans h8 hg.size⟩
theorem KpT.ofBelow {own : TypeId → Prop} {n₀ : Nat} {W W' : World} (h : Below W.heap.size W W') (hn : n₀ ≤ W.heap.size) : KpT own n₀ W W' := ⟨h.mono hn, h.size, fun i cs T fr hi _ => h.block i (Array.getElem?_eq_some_iff.1 hi).1⟩
theorem keepsFrom_below {B : Nat} {W W' : World} (h : Below W.heap.size W W') : KeepsFrom B W W' := ⟨h.size, fun k o _ hk _ => (h.block k (Array.getElem?_eq_some_iff.1 hk).1).trans hk⟩
/-- one round's store -/
theorem AtI.step {im : Img} {L : List Snp} {ib n0 hz : Nat} {w V w2 : World} {pre : List (IdxN L.length)} {x : IdxN L.length} (h : AtI im L ib n0 hz w pre V) (hb : Below V.heap.size V w2) {A4 : Option Addr} {c4 : Nat} (h1 : im.length ≤ c4) (h2 : c4 ≤ maxLen) (h3 : SlAt (encSl encSec) w2 (Nw V.heap.size w2.heap.size) A4 (runI im L (pre ++ [x]))) (hib : n0 + 1 + 1 < ib) (hz0 : hz ≤ V.heap.size) :
    KeepsFrom hz V (w2.setCell ⟨ib, 0, none⟩ (.slice A4 im.length c4)) ∧ KpT bkOwn n0 V (w2.setCell ⟨ib, 0, none⟩ (.slice A4 im.length c4)) ∧ AtI im L ib n0 hz w (pre ++ [x]) (w2.setCell ⟨ib, 0, none⟩ (.slice A4 im.length c4)) := by
  obtain ⟨⟨B', vc, k1, k2, k3, k4⟩, k5, k6, k7, k8⟩ := h
  have hlt := (Array.getElem?_eq_some_iff.1 k1).1
  have hz2 := hb.size
  have r1 := (hb.block ib hlt).trans k1
  have r5 := (hb.block _ (Array.getElem?_eq_some_iff.1 k5).1).trans k5
  have r6 := (hb.block _ (Array.getElem?_eq_some_iff.1 k6).1).trans k6
  have hbx : Boxed w2 ib 26 (.slice B' im.length vc) := r1
  have hn0 : n0 ≤ V.heap.size := by omega
  refine ⟨(keepsFrom_below hb).trans ((KeepsOthers.setCell _ _ _).from _), KpT.trans (KpT.ofBelow hb hn0) (KpT.grown (grownBy_setCell' w2 ib _) (by omega) (fun k e => ?_)), ⟨A4, c4, hbx.set _, h1, h2, ?_⟩, (Below.heap_setCell _ _ _ _ (by show n0 + 1 ≠ ib; omega)).trans r5, (Below.heap_setCell _ _ _ _ (by show n0 + 1 + 1 ≠ ib; omega)).trans r6, (k7.trans (hb.mono hn0)).setCell (p := ⟨ib, 0, none⟩) (by show n0 ≤ ib; omega) _, by simp [World.setCell]; omega⟩
  · injection e with e
    subst e
    exact ⟨by omega, _, _, _, r1, by unfold bkOwn; decide⟩
  · exact (img_onCells (h3.blk (w' := w2.setCell ⟨ib, 0, none⟩ (.slice A4 im.length c4)) (fun g hg => Below.heap_setCell _ _ _ _ (by have := hg.1; show g ≠ ib; omega)))).more (fun g hg => ⟨⟨by have := hg.1.1; omega, by have := hg.1.1; omega⟩, hg.2⟩)
theorem fieldCurrent (a b : Value) (w : World) : (Instr.field 29 (.agg #[a, b]) 0).run Tryz.prog w = .ok a w := by kernel_rfl
end Go.Proofs.YtnkmklnlaepdeaaGreat

namespace Go.Proofs.YtnkmklnlaepdeaaGreat
open Go.RowKit Go.Shelf
attribute [local go_sem] Oper.semAt_some

theorem snpsE_all {sz : List Int} : ∀ {l : List Snp} {a b : Int}, snpsE sz a b l = 0 → ∀ x ∈ l, chkS x.2.2 sz = 0
  | [], _, _, _ => fun x hx => by cases hx
  | y :: l, a, b, h => by
    have h1 : snpE sz a b y = 0 := by
      by_cases h1 : snpE sz a b y = 0
      · exact h1
      · simp [snpsE, h1] at h
    have h2 : snpsE sz y.1 y.2.1 l = 0 := by simpa [snpsE, h1] using h
    intro x hx
    rcases List.mem_cons.1 hx with rfl | hx
    · unfold snpE at h1
      split at h1
      · cases h1
      · split at h1
        · cases h1
        · split at h1
          · cases h1
          · exact h1
    · exact snpsE_all h2 x hx
theorem snE_ok {im : Img} {l : List Snp} (h : snE (im, l) = 0) : sizesN (lens im) = 0 ∧ ∀ x ∈ l, ∀ y ∈ x.2.2, fitsN (lens im) y = 0 := by
  unfold snE at h
  by_cases h1 : sizesN (lens im) = 0
  · rw [if_neg (by simp [h1])] at h
    split at h
    · cases h
    · refine ⟨h1, fun x hx y hy => ?_⟩
      have h2 := snpsE_all h x hx
      unfold chkS at h2
      rw [if_neg (by simp [h1])] at h2
      exact chk_all h2 y hy
  · rw [if_pos h1] at h; exact absurd h h1
theorem findE_ok {im : Img} {l : List Snp} {num : Int} (h : findE (im, l) num = 0) : snE (im, l) = 0 ∧ findN (im, l) num < l.length := by
  have h0 := h
  unfold findE at h
  by_cases h1 : snE (im, l) = 0
  · rw [if_neg (by simp [h1])] at h
    refine ⟨h1, ?_⟩
    unfold findN
    rw [if_pos h0]
    cases hq : findI l num with
    | none => simp [hq] at h
    | some k =>
      unfold findI at hq
      have := (List.findIdx?_eq_some_iff_getElem.1 hq).1
      simpa using this
  · rw [if_pos h1] at h; exact absurd h h1
end Go.Proofs.YtnkmklnlaepdeaaGreat
