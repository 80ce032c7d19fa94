/-
  Two slices that a call owns side by side.
-/
import Derived.Test.YtnkmklnlaepdeaaLaws
set_option linter.unusedVariables false
set_option linter.unusedSimpArgs false
set_option linter.unusedSectionVars false
set_option linter.unnecessarySimpa false
namespace Go.Proofs.Ytnkmklnlaepdeaa
open Go.RowKit

/-- two owned slices, apart, whose elements' memory is neither's row -/
def Own2 {α : Type} (E : Enc α) (w : World) (lo : Nat) (e : TypeId) (v1 v2 : Value) (l1 l2 : List α) : Prop :=
  Own E w lo e (fun b => Nw lo w.heap.size b ∧ v1.ownBlock ≠ some b ∧ v2.ownBlock ≠ some b) v1 l1 ∧ Own E w lo e (fun b => Nw lo w.heap.size b ∧ v1.ownBlock ≠ some b ∧ v2.ownBlock ≠ some b) v2 l2 ∧ ∀ g, v1.ownBlock = some g → v2.ownBlock ≠ some g
section
variable {α : Type} {E : Enc α} {w w' : World} {lo : Nat} {e : TypeId} {v1 v2 v' : Value} {l1 l2 l' : List α}
theorem Own2.nil_ : Own2 E w lo e (.slice none 0 0) (.slice none 0 0) [] [] := ⟨Own.nil_, Own.nil_, fun _ h => by simp [Value.ownBlock] at h⟩
theorem Own2.swap (h : Own2 E w lo e v1 v2 l1 l2) : Own2 E w lo e v2 v1 l2 l1 := by
  obtain ⟨h1, h2, h3⟩ := h
  have hS : ∀ b, (Nw lo w.heap.size b ∧ v1.ownBlock ≠ some b ∧ v2.ownBlock ≠ some b) → (Nw lo w.heap.size b ∧ v2.ownBlock ≠ some b ∧ v1.ownBlock ≠ some b) := fun b h => ⟨h.1, h.2.2, h.2.1⟩
  exact ⟨h2.more hS (fun g hg h => h.2.1 hg), h1.more hS (fun g hg h => h.2.2 hg), fun g hg hg' => h3 g hg' hg⟩
theorem Own2.below (h : Own2 E w lo e v1 v2 l1 l2) (hb : Below w.heap.size w w') : Own2 E w' lo e v1 v2 l1 l2 := by
  obtain ⟨h1, h2, h3⟩ := h
  have hS : ∀ b, (Nw lo w.heap.size b ∧ v1.ownBlock ≠ some b ∧ v2.ownBlock ≠ some b) → (Nw lo w'.heap.size b ∧ v1.ownBlock ≠ some b ∧ v2.ownBlock ≠ some b) := fun b h => ⟨h.1.mono (Nat.le_refl _) hb.size, h.2⟩
  exact ⟨(Own.below h1 hb (fun _ h => h.1.2)).more hS (fun g hg h => h.2.1 hg), (Own.below h2 hb (fun _ h => h.1.2)).more hS (fun g hg h => h.2.2 hg), h3⟩
/-- behind an append to the first -/
theorem Own2.app (h : Own2 E w lo e v1 v2 l1 l2) (hn : Own E w' lo e (fun b => Nw lo w.heap.size b ∧ v1.ownBlock ≠ some b ∧ v2.ownBlock ≠ some b) v' l') (hg : w.grownBy w' v1.ownBlock) (hat : v'.ownBlock = v1.ownBlock ∨ v'.ownBlock = some w.heap.size) : Own2 E w' lo e v' v2 l' l2 := by
  obtain ⟨h1, h2, h3⟩ := h
  have h2lt := h2.lt
  have hne : ∀ b, (Nw lo w.heap.size b ∧ v1.ownBlock ≠ some b) → v'.ownBlock ≠ some b := fun b hb e => by
    rcases hat with hat | hat
    · exact hb.2 (by rw [← hat]; exact e)
    · rw [hat] at e
      injection e with e
      have := hb.1.2
      omega
  have hS : ∀ b, (Nw lo w.heap.size b ∧ v1.ownBlock ≠ some b ∧ v2.ownBlock ≠ some b) → (Nw lo w'.heap.size b ∧ v'.ownBlock ≠ some b ∧ v2.ownBlock ≠ some b) := fun b h => ⟨h.1.mono (Nat.le_refl _) hg.size, hne b ⟨h.1, h.2.1⟩, h.2.2⟩
  refine ⟨hn.more hS (fun g hg h => h.2.1 hg), (h2.blk (w' := w') (fun b hb => ?_)).more hS (fun g hg h => h.2.2 hg), fun g hg hg' => ?_⟩
  · rcases hb with hb | hb
    · exact hg.block b hb.1.2 (fun e => hb.2.1 e.symm)
    · exact hg.block b (h2lt b hb).2 (fun e => h3 b e.symm hb)
  · rcases hat with hat | hat
    · exact h3 g (by rw [← hat]; exact hg) hg'
    · rw [hat] at hg
      injection hg with hg
      have := (h2lt g hg').2
      omega
theorem Own2.parts1 {A : Option Addr} {n c : Nat} (h : Own2 E w lo e (.slice A n c) v2 l1 l2) : n = l1.length ∧ l1.length ≤ c ∧ c ≤ maxLen ∧ SlAt E w (Bl w.heap.size) A l1 := by
  obtain ⟨A', c', he, h1, h2, h3⟩ := Own.rd0 h.1 (fun _ h => h.1.2)
  simp only [List.cons.injEq, Value.slice.injEq, and_true] at he
  obtain ⟨rfl, rfl, rfl⟩ := he
  exact ⟨rfl, h1, h2, h3⟩
/-- what was made since B is in the set -/
theorem Own2.since {β : Type} {F : Enc β} {A : Option Addr} {m : List β} {B : Nat} (h : SlAt F w (Nw B w.heap.size) A m) (hlo : lo ≤ B) (h1 : ∀ g, v1.ownBlock = some g → g < B) (h2 : ∀ g, v2.ownBlock = some g → g < B) : SlAt F w (fun b => Nw lo w.heap.size b ∧ v1.ownBlock ≠ some b ∧ v2.ownBlock ≠ some b) A m :=
  h.more fun b hb => ⟨hb.mono hlo (Nat.le_refl _), fun e => by have := h1 b e; have := hb.1; omega, fun e => by have := h2 b e; have := hb.1; omega⟩
end
end Go.Proofs.Ytnkmklnlaepdeaa
