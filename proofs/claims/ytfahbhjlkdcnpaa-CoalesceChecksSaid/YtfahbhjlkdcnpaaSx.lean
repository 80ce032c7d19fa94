/-
  The examples of the chapter, in plain words: what Fold, Merge and Restrict give for them.
-/
import Derived.Test.YtfahbhjlkdcnpaaSg
set_option linter.unusedVariables false
set_option linter.unusedSimpArgs false
set_option linter.unusedSectionVars false
set_option linter.unnecessarySimpa false
namespace Go.Proofs.Ytfahbhjlkdcnpaa

def exA : List Wr := [(0, 2, [1, 2].map secOf), (0, 3, [3].map secOf), (0, 4, [4].map secOf)]
def exA' : List Wr := [(0, 2, [1, 3, 4].map secOf)]
def exB : List Wr := [(1, 5, [1].map secOf), (0, 0, [2].map secOf), (0, 2, [3].map secOf)]
def exB' : List Wr := [(0, 0, [2].map secOf), (0, 2, [3].map secOf), (1, 5, [1].map secOf)]
def exC1 : List Wr := [(0, 2, [1, 2].map secOf)]
def exC2 : List Wr := [(0, 1, [3].map secOf)]
def exC : List Wr := [(0, 1, [3, 1, 2].map secOf)]
def exK : List Ext := [(2, 1), (9, 1)]
def exD : List Wr := [(0, 2, [1].map secOf)]
theorem exA_err : errOf placedN exA = 0 := by decide +kernel
theorem exB_err : errOf placedN exB = 0 := by decide +kernel
theorem exC_err : mergeErr exC1 exC2 = 0 := by decide +kernel
theorem exD_err : chkN placedN exC = 0 := by decide +kernel
theorem exA_ok : foldL exA = exA' := by decide +kernel
theorem exB_ok : foldL exB = exB' := by decide +kernel
theorem exC_ok : mergeL exC1 exC2 = exC := by decide +kernel
theorem exD_ok : restrictL exC 0 exK = exD := by decide +kernel
end Go.Proofs.Ytfahbhjlkdcnpaa
