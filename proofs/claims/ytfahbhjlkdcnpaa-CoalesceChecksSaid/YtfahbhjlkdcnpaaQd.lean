/-
  canonical: the last write of a list under construction.
-/
import Derived.Test.YtfahbhjlkdcnpaaQb
set_option linter.unusedVariables false
set_option linter.unusedSimpArgs false
set_option linter.unusedSectionVars false
set_option linter.unnecessarySimpa false
namespace Go.Proofs.Ytfahbhjlkdcnpaa
open Go.RowKit Go.ChangeMaps

theorem CanOwn.last {w : World} {base : Nat} {A : Option Addr} {n c : Nat} {L : List Wr} (h : CanOwn w base (.slice A n c) L) (hne : L ≠ []) :
    ∃ init vol st d D dc css g, L = init ++ [(vol, st, d)] ∧ A = some ⟨g, 0, none⟩ ∧ n = init.length + 1 ∧ I64 vol ∧ I64 st ∧
      w.ownsRow base 35 3 (.slice (some ⟨g, 0, none⟩) (init.length + 1) c) (init.length + 1) (css.flatten ++ [.int .i64 vol, .int .i64 st, .slice D d.length dc]) ∧
      All2 (encWr.rd w (fun b => Nw base w.heap.size b ∧ g ≠ b ∧ (Value.slice D d.length dc).ownBlock ≠ some b)) css init ∧
      Own encSec w base 53 (fun _ => False) (.slice D d.length dc) d ∧
      w.cell? ⟨g, init.length * 3 + 2, none⟩ = some (.slice D d.length dc) ∧ (∀ j, w.frozen? ⟨g, j, none⟩ = false) ∧ base ≤ g ∧ g < w.heap.size ∧ (Value.slice D d.length dc).ownBlock ≠ some g := by
  rcases h with ⟨h, _⟩ | ⟨init, vol, st, d, D, dc, css, g, c', h1, h2, h3, h4, h5, h6, h7⟩
  · exact absurd h hne
  · injection h2 with e1 e2 e3
    subst e1 e2 e3
    have hlen : css.flatten.length = init.length * 3 := by rw [flatten_len 3 css (All2.sizes h6), h6.length]
    refine ⟨init, vol, st, d, D, dc, css, g, h1, rfl, rfl, h3, h4, h5, h6, h7, ?_, fun j => h5.frozenAt j, (h5.lt g rfl).1, (h5.lt g rfl).2, rows_ne (m := 0) h5 h7 rfl rfl⟩
    rw [h5.cellAt _ (by omega), List.getElem?_append_right (by omega), show init.length * 3 + 2 - css.flatten.length = 2 from by omega]
    rfl
theorem row_ne_blk {w : World} {base n size b : Nat} {e t : TypeId} {v : Value} {xs : List Value} {cs : Array Value} {m : Nat × Nat} (h : w.ownsRow base e size v n xs) (hb : w.heap[b]? = some (.cells cs t m)) (hne : e ≠ t) : v.ownBlock ≠ some b := by
  intro he
  rcases h.2 with ⟨rfl, _⟩ | ⟨g, cap, cur, rfl, _, hh, _⟩
  · simp [Value.ownBlock] at he
  · have : g = b := by simpa [Value.ownBlock] using he
    subst this
    rw [hb] at hh
    injection hh with hh
    injection hh with _ ht
    exact hne ht.symm
theorem Own.ne_blk {w : World} {base b : Nat} {e t : TypeId} {α : Type} {E : Enc α} {S : Nat → Prop} {v : Value} {l : List α} {cs : Array Value} {m : Nat × Nat} (h : Own E w base e S v l) (hb : w.heap[b]? = some (.cells cs t m)) (hne : e ≠ t) : v.ownBlock ≠ some b := by
  obtain ⟨css, h1, _⟩ := h
  exact row_ne_blk h1 hb hne
theorem CanOwn.keep {w w' : World} {base : Nat} {v : Value} {L : List Wr} (h : CanOwn w base v L) (hk : ∀ b, base ≤ b → b < w.heap.size → w'.heap[b]? = w.heap[b]?) (hs : w.heap.size ≤ w'.heap.size) : CanOwn w' base v L := by
  rcases h with h | ⟨init, vol, st, d, D, dc, css, g, c, h1, h2, h3, h4, h5, h6, h7⟩
  · exact Or.inl h
  · refine Or.inr ⟨init, vol, st, d, D, dc, css, g, c, h1, h2, h3, h4, ?_, ?_, ?_⟩
    · refine ⟨h5.1, ?_⟩
      rcases h5.2 with h8 | ⟨g', cap, cur, e1, e2, e3, r⟩
      · exact Or.inl h8
      · exact Or.inr ⟨g', cap, cur, e1, e2, (hk g' e2 (Array.getElem?_eq_some_iff.1 e3).1).trans e3, r⟩
    · exact h6.mono fun _ _ hr => Enc.more (Enc.blk hr (fun b hb' => hk b hb'.1.1 hb'.1.2)) (fun b hb' => ⟨hb'.1.mono (Nat.le_refl _) hs, hb'.2⟩)
    · exact Own.blk h7 (fun b hb => by
        rcases hb with hb | hb
        · exact hb.elim
        · exact hk b (h7.lt b hb).1 (h7.lt b hb).2)
theorem CanOwn.grow2 {w0 w w' : World} {base : Nat} {init : List Wr} {vol st : Int} {d : List Sec} {D D' : Option Addr} {dc dc' : Nat} {css : List (List Value)} {g c : Nat} {s : Sec} (hb : Below w0.heap.size w0 w) (h3 : I64 vol) (h4 : I64 st)
    (h5 : w0.ownsRow base 35 3 (.slice (some ⟨g, 0, none⟩) (init.length + 1) c) (init.length + 1) (css.flatten ++ [.int .i64 vol, .int .i64 st, .slice D d.length dc]))
    (h6 : All2 (encWr.rd w0 (fun b => Nw base w0.heap.size b ∧ g ≠ b ∧ (Value.slice D d.length dc).ownBlock ≠ some b)) css init) (h7 : Own encSec w0 base 53 (fun _ => False) (.slice D d.length dc) d)
    (hg : w.grownBy w' (Value.slice D d.length dc).ownBlock) (h8 : Own encSec w' base 53 (fun _ => False) (.slice D' (d.length + 1) dc') (d ++ [s]))
    (hat : (Value.slice D' (d.length + 1) dc').ownBlock = (Value.slice D d.length dc).ownBlock ∨ (Value.slice D' (d.length + 1) dc').ownBlock = some w.heap.size) :
    CanOwn (w'.setCell ⟨g, init.length * 3 + 2, none⟩ (.slice D' (d.length + 1) dc')) base (.slice (some ⟨g, 0, none⟩) (init.length + 1) c) (init ++ [(vol, st, d ++ [s])]) := by
  refine CanOwn.grow (w := w) (css := css) h3 h4 (h5.kept (row := none) ⟨hb.os, hb.tape, hb.output, hb.size, fun k hk _ => hb.block k hk⟩ (Or.inr (by simp [Value.ownBlock]))) ?_ (Own.below h7 hb (fun _ h => h.elim)) hg h8 hat
  exact h6.mono fun _ _ hr => Enc.more (Enc.blk hr (fun b hb' => hb.block b hb'.1.2)) (fun b hb' => ⟨hb'.1.mono (Nat.le_refl _) hb.size, hb'.2⟩)
end Go.Proofs.Ytfahbhjlkdcnpaa
