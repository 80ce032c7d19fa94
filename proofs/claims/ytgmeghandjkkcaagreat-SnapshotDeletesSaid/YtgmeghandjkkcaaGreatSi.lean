/-
  The examples of the chapter, in plain words: what Fold, Merge and Restrict give for them.
  The walk of awake.
-/
import Derived.Test.YtgmeghandjkkcaaGreatSg
import Derived.Test.YtgmeghandjkkcaaGreatSh
import Derived.Test.YtgmeghandjkkcaaGreatOpen
set_option linter.unusedVariables false
set_option linter.unusedSimpArgs false
set_option linter.unusedSectionVars false
set_option linter.unnecessarySimpa false
namespace Go.Proofs.YtgmeghandjkkcaaGreat

def exA : List Wr := [(0, 2, [1, 2].map secOf), (0, 3, [3].map secOf), (0, 4, [4].map secOf)]
def exA' : List Wr := [(0, 2, [1, 3, 4].map secOf)]
def exB : List Wr := [(1, 5, [1].map secOf), (0, 0, [2].map secOf), (0, 2, [3].map secOf)]
def exB' : List Wr := [(0, 0, [2].map secOf), (0, 2, [3].map secOf), (1, 5, [1].map secOf)]
def exC1 : List Wr := [(0, 2, [1, 2].map secOf)]
def exC2 : List Wr := [(0, 1, [3].map secOf)]
def exC : List Wr := [(0, 1, [3, 1, 2].map secOf)]
def exK : List Ext := [(2, 1), (9, 1)]
def exD : List Wr := [(0, 2, [1].map secOf)]
theorem exA_err : errOf placedN exA = 0 := by decide +kernel
theorem exB_err : errOf placedN exB = 0 := by decide +kernel
theorem exC_err : mergeErr exC1 exC2 = 0 := by decide +kernel
theorem exD_err : chkN placedN exC = 0 := by decide +kernel
theorem exA_ok : foldL exA = exA' := by decide +kernel
theorem exB_ok : foldL exB = exB' := by decide +kernel
theorem exC_ok : mergeL exC1 exC2 = exC := by decide +kernel
theorem exD_ok : restrictL exC 0 exK = exD := by decide +kernel
end Go.Proofs.YtgmeghandjkkcaaGreat

namespace Go.Proofs.YtgmeghandjkkcaaGreat
open Go.RowKit Go.ChangeMaps

theorem ext_below {B : Nat} {w w1 w2 : World} (h : Below B w w1) (hB : B ≤ w1.heap.size) (h2 : Below w1.heap.size w1 w2) : Below B w w2 := h.trans (h2.mono hB)
theorem RetSlN.bl {α : Type} {E : Enc α} {l : List α} {n : Int} {w : World} {e : Ending} {w' : World} (h : RetSlN E l n w e w') : ∃ A c, e = .returned (.tuple #[.slice A l.length c, .int .i64 n]) ∧ (l.length ≤ c ∧ c ≤ maxLen ∧ SlAt E w' (Bl w'.heap.size) A l) ∧ Below w.heap.size w w' := by
  obtain ⟨A, c, he, h1, h2, h3, h4⟩ := h
  exact ⟨A, c, he, ⟨h1, h2, h3.more (fun _ h => h.2)⟩, h4⟩
theorem i64_lit {x : Int} (h : -1000 ≤ x ∧ x ≤ 1000) : I64 x := by unfold I64; omega
theorem sectorsX (A : Option Addr) (c n t : Nat) (l : List Wr) (w : World) (hn : l.length = n) (ht : sectsL l = t) (h1 : SlAt encWr w (Bl w.heap.size) A l) (hs : n ≤ 9223372036854775807) (hs2 : t ≤ 9223372036854775807 := by decide) :
    Calls Tryz.prog 61 #[.slice A n c] w fun e w' => e = .returned (.int .i64 t) ∧ Below w.heap.size w w' := by
  subst hn ht
  exact sectors_any A c l w h1 hs hs2
end Go.Proofs.YtgmeghandjkkcaaGreat
