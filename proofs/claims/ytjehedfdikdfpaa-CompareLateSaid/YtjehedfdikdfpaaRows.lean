/-
  No cell of these rows narrows 'for every input' (looked for: loops, veiled, ifaces, maps, wideKeys, modest, calm, conditions, laid).
  DERIVED. THE GIVEN ROWS OF THIS SEAT. 8 by the template 'for every input the law returns true; each argument reads behind the call as it read before'; 0 by the template 'total and deterministic' (their statements: YtjehedfdikdfpaaTotals.lean).
  GIVEN WITH THE SEED: the statements are not yours to turn. If you find one false, say at which input.
  Laid BY PROGRAM, IN A SANDBOX (cutbox-rows.mjs): the forced cells as the released guide's own fill.sh prints them over the translation 8fda8068ef4086cb… (all of the seat's roots in one cut). By AI agents, Wed Nov 11 2026. No macro, syntax, notation, axiom, sorry.
-/
import Derived.Test.YtjehedfdikdfpaaChecked
import GoSem.Claim
import GoSem.ClaimJoined
import GoSem.ClaimMapViews
import Derived.JoinedTies
import Derived.KernelRfl
namespace Go.Proofs.Ytjehedfdikdfpaa
/- THE CELL 'sum', in the pinned program and in every row, IS THE sha256 OF THE DUMP (.gsa) THAT YtjehedfdikdfpaaProg.lean LOADS. Nothing in Lean hashes anything: it is a label: what it is worth is what the hold of that sum in a sandbox is worth. -/
noncomputable def Try.pinned : Pinned := { name := "ytjehedfdikdfpaa", sum := "8fda8068ef4086cbc9e5fff79e0a2d765faa8d2a8eeffabb3d25af7c40de12e4", checked := Try.checked }
namespace Rows
def none {H : Type} : Left H := { results := [], args := [] }

/-- 'standbylaw44.CompareBegins': WHATEVER THE INPUT: true; the input reads as it did. -/
def compareBeginsSpec : ChangeSpec := { name := "compareBegins", fn := fun _ => fun
  | [d1, d2] => { results := [.lit (.bool true)], args := [d1, d2] }
  | _ => none }
def compareBeginsRow : OpenClaim := { program := "ytjehedfdikdfpaa", sum := "8fda8068ef4086cbc9e5fff79e0a2d765faa8d2a8eeffabb3d25af7c40de12e4", func := "standby/standbylaw44.CompareBegins", spec := "compareBegins", unfollowed := true, recurses := true, apart := false }
def CompareBeginsSaid : Prop := compareBeginsRow.holds Try.pinned (OpenSpec.ofChange compareBeginsSpec)

/-- ITS FALSE NEIGHBOUR: 'it returns false'. Refute it at one input. -/
def compareBeginsWrong : ChangeSpec := { name := "compareBegins", fn := fun _ => fun
  | [d1, d2] => { results := [.lit (.bool false)], args := [d1, d2] }
  | _ => none }
def CompareBeginsWrongFalsely : Prop := compareBeginsRow.holds Try.pinned (OpenSpec.ofChange compareBeginsWrong)

/-- 'standbylaw44.CompareAnswers': WHATEVER THE INPUT: true; the input reads as it did. -/
def compareAnswersSpec : ChangeSpec := { name := "compareAnswers", fn := fun _ => fun
  | [d1, d2] => { results := [.lit (.bool true)], args := [d1, d2] }
  | _ => none }
def compareAnswersRow : OpenClaim := { program := "ytjehedfdikdfpaa", sum := "8fda8068ef4086cbc9e5fff79e0a2d765faa8d2a8eeffabb3d25af7c40de12e4", func := "standby/standbylaw44.CompareAnswers", spec := "compareAnswers", unfollowed := true, recurses := true, apart := false }
def CompareAnswersSaid : Prop := compareAnswersRow.holds Try.pinned (OpenSpec.ofChange compareAnswersSpec)

/-- ITS FALSE NEIGHBOUR: 'it returns false'. Refute it at one input. -/
def compareAnswersWrong : ChangeSpec := { name := "compareAnswers", fn := fun _ => fun
  | [d1, d2] => { results := [.lit (.bool false)], args := [d1, d2] }
  | _ => none }
def CompareAnswersWrongFalsely : Prop := compareAnswersRow.holds Try.pinned (OpenSpec.ofChange compareAnswersWrong)

/-- 'standbylaw44.CompareLearns': WHATEVER THE INPUT: true; the input reads as it did. -/
def compareLearnsSpec : ChangeSpec := { name := "compareLearns", fn := fun _ => fun
  | [d1, d2] => { results := [.lit (.bool true)], args := [d1, d2] }
  | _ => none }
def compareLearnsRow : OpenClaim := { program := "ytjehedfdikdfpaa", sum := "8fda8068ef4086cbc9e5fff79e0a2d765faa8d2a8eeffabb3d25af7c40de12e4", func := "standby/standbylaw44.CompareLearns", spec := "compareLearns", unfollowed := true, recurses := true, apart := false }
def CompareLearnsSaid : Prop := compareLearnsRow.holds Try.pinned (OpenSpec.ofChange compareLearnsSpec)

/-- ITS FALSE NEIGHBOUR: 'it returns false'. Refute it at one input. -/
def compareLearnsWrong : ChangeSpec := { name := "compareLearns", fn := fun _ => fun
  | [d1, d2] => { results := [.lit (.bool false)], args := [d1, d2] }
  | _ => none }
def CompareLearnsWrongFalsely : Prop := compareLearnsRow.holds Try.pinned (OpenSpec.ofChange compareLearnsWrong)

/-- 'standbylaw44.CompareRuns': WHATEVER THE INPUT: true; the input reads as it did. -/
def compareRunsSpec : ChangeSpec := { name := "compareRuns", fn := fun _ => fun
  | [d1, d2, d3] => { results := [.lit (.bool true)], args := [d1, d2, d3] }
  | _ => none }
def compareRunsRow : OpenClaim := { program := "ytjehedfdikdfpaa", sum := "8fda8068ef4086cbc9e5fff79e0a2d765faa8d2a8eeffabb3d25af7c40de12e4", func := "standby/standbylaw44.CompareRuns", spec := "compareRuns", unfollowed := true, recurses := true, apart := false }
def CompareRunsSaid : Prop := compareRunsRow.holds Try.pinned (OpenSpec.ofChange compareRunsSpec)

/-- ITS FALSE NEIGHBOUR: 'it returns false'. Refute it at one input. -/
def compareRunsWrong : ChangeSpec := { name := "compareRuns", fn := fun _ => fun
  | [d1, d2, d3] => { results := [.lit (.bool false)], args := [d1, d2, d3] }
  | _ => none }
def CompareRunsWrongFalsely : Prop := compareRunsRow.holds Try.pinned (OpenSpec.ofChange compareRunsWrong)

/-- 'standbylaw44.CompareBounded': WHATEVER THE INPUT: true; the input reads as it did. -/
def compareBoundedSpec : ChangeSpec := { name := "compareBounded", fn := fun _ => fun
  | [d1, d2, d3] => { results := [.lit (.bool true)], args := [d1, d2, d3] }
  | _ => none }
def compareBoundedRow : OpenClaim := { program := "ytjehedfdikdfpaa", sum := "8fda8068ef4086cbc9e5fff79e0a2d765faa8d2a8eeffabb3d25af7c40de12e4", func := "standby/standbylaw44.CompareBounded", spec := "compareBounded", unfollowed := true, recurses := true, apart := false }
def CompareBoundedSaid : Prop := compareBoundedRow.holds Try.pinned (OpenSpec.ofChange compareBoundedSpec)

/-- ITS FALSE NEIGHBOUR: 'it returns false'. Refute it at one input. -/
def compareBoundedWrong : ChangeSpec := { name := "compareBounded", fn := fun _ => fun
  | [d1, d2, d3] => { results := [.lit (.bool false)], args := [d1, d2, d3] }
  | _ => none }
def CompareBoundedWrongFalsely : Prop := compareBoundedRow.holds Try.pinned (OpenSpec.ofChange compareBoundedWrong)

/-- 'standbylaw44.CompareLate': WHATEVER THE INPUT: true; the input reads as it did. -/
def compareLateSpec : ChangeSpec := { name := "compareLate", fn := fun _ => fun
  | [d1, d2, d3] => { results := [.lit (.bool true)], args := [d1, d2, d3] }
  | _ => none }
def compareLateRow : OpenClaim := { program := "ytjehedfdikdfpaa", sum := "8fda8068ef4086cbc9e5fff79e0a2d765faa8d2a8eeffabb3d25af7c40de12e4", func := "standby/standbylaw44.CompareLate", spec := "compareLate", unfollowed := true, recurses := true, apart := false }
def CompareLateSaid : Prop := compareLateRow.holds Try.pinned (OpenSpec.ofChange compareLateSpec)

/-- ITS FALSE NEIGHBOUR: 'it returns false'. Refute it at one input. -/
def compareLateWrong : ChangeSpec := { name := "compareLate", fn := fun _ => fun
  | [d1, d2, d3] => { results := [.lit (.bool false)], args := [d1, d2, d3] }
  | _ => none }
def CompareLateWrongFalsely : Prop := compareLateRow.holds Try.pinned (OpenSpec.ofChange compareLateWrong)

/-- 'standbylaw44.CompareSymmetric': WHATEVER THE INPUT: true; the input reads as it did. -/
def compareSymmetricSpec : ChangeSpec := { name := "compareSymmetric", fn := fun _ => fun
  | [d1, d2, d3] => { results := [.lit (.bool true)], args := [d1, d2, d3] }
  | _ => none }
def compareSymmetricRow : OpenClaim := { program := "ytjehedfdikdfpaa", sum := "8fda8068ef4086cbc9e5fff79e0a2d765faa8d2a8eeffabb3d25af7c40de12e4", func := "standby/standbylaw44.CompareSymmetric", spec := "compareSymmetric", unfollowed := true, recurses := true, apart := false }
def CompareSymmetricSaid : Prop := compareSymmetricRow.holds Try.pinned (OpenSpec.ofChange compareSymmetricSpec)

/-- ITS FALSE NEIGHBOUR: 'it returns false'. Refute it at one input. -/
def compareSymmetricWrong : ChangeSpec := { name := "compareSymmetric", fn := fun _ => fun
  | [d1, d2, d3] => { results := [.lit (.bool false)], args := [d1, d2, d3] }
  | _ => none }
def CompareSymmetricWrongFalsely : Prop := compareSymmetricRow.holds Try.pinned (OpenSpec.ofChange compareSymmetricWrong)

/-- 'standbylaw44.CompareFinds': WHATEVER THE INPUT: true; the input reads as it did. -/
def compareFindsSpec : ChangeSpec := { name := "compareFinds", fn := fun _ => fun
  | [d1, d2, d3] => { results := [.lit (.bool true)], args := [d1, d2, d3] }
  | _ => none }
def compareFindsRow : OpenClaim := { program := "ytjehedfdikdfpaa", sum := "8fda8068ef4086cbc9e5fff79e0a2d765faa8d2a8eeffabb3d25af7c40de12e4", func := "standby/standbylaw44.CompareFinds", spec := "compareFinds", unfollowed := true, recurses := true, apart := false }
def CompareFindsSaid : Prop := compareFindsRow.holds Try.pinned (OpenSpec.ofChange compareFindsSpec)

/-- ITS FALSE NEIGHBOUR: 'it returns false'. Refute it at one input. -/
def compareFindsWrong : ChangeSpec := { name := "compareFinds", fn := fun _ => fun
  | [d1, d2, d3] => { results := [.lit (.bool false)], args := [d1, d2, d3] }
  | _ => none }
def CompareFindsWrongFalsely : Prop := compareFindsRow.holds Try.pinned (OpenSpec.ofChange compareFindsWrong)

/- THE SECOND FORM. 'bulk': how many values and letters a reading holds, each counted each time it is reached (what is shared counts as often as it is met; a slice's spare places count too). A statement '..UptoSaid' is the law's where the arguments, and the package variables that the reading takes, are together of bulk at most 1048576: NARROWER than '..Said'. Prove '..Said' where nothing that the law and all that it calls make is longer than what came in: it says more and counts as full. Else prove '..UptoSaid'. A law counts once. -/
mutual
def uptoBulk {H : Type} : DataW H → Nat
  | .lit (.string bytes) => bytes.length + 1
  | .lit _ => 1
  | .nil => 1
  | .ptr d => uptoBulk d + 1
  | .slice elems spare => uptoBulkAll elems + uptoBulkAll spare + 1
  | .agg parts => uptoBulkAll parts + 1
  | .iface _ d => uptoBulk d + 1
  | .map entries => uptoBulkEntries entries + 1
  | .held _ => 1
def uptoBulkAll {H : Type} : List (DataW H) → Nat
  | [] => 0
  | d :: r => uptoBulk d + uptoBulkAll r
def uptoBulkEntries {H : Type} : List (Lit × DataW H) → Nat
  | [] => 0
  | x :: r => uptoBulkEntry x + uptoBulkEntries r
def uptoBulkEntry {H : Type} : Lit × DataW H → Nat
  | (.string bytes, d) => bytes.length + uptoBulk d + 1
  | (_, d) => uptoBulk d + 1
 end
def uptoSmall : (H : Type) → List (DataW H) → Bool := fun _ ds => decide (uptoBulkAll ds ≤ 1048576)
def OpenSpec.upto (s : _root_.Go.ChangeSpec) : _root_.Go.OpenSpec := { _root_.Go.OpenSpec.ofChange s with cond := some uptoSmall }

/-- 'standbylaw44.CompareBegins', WHERE WHAT IT READS IS OF BULK AT MOST 1048576: true; the input reads as it did. -/
def compareBeginsUptoRow : OpenClaim := { program := "ytjehedfdikdfpaa", sum := "8fda8068ef4086cbc9e5fff79e0a2d765faa8d2a8eeffabb3d25af7c40de12e4", func := "standby/standbylaw44.CompareBegins", spec := "compareBegins", unfollowed := true, recurses := true, apart := false, narrowed := true }
def CompareBeginsUptoSaid : Prop := compareBeginsUptoRow.holds Try.pinned (OpenSpec.upto compareBeginsSpec)

/-- 'standbylaw44.CompareAnswers', WHERE WHAT IT READS IS OF BULK AT MOST 1048576: true; the input reads as it did. -/
def compareAnswersUptoRow : OpenClaim := { program := "ytjehedfdikdfpaa", sum := "8fda8068ef4086cbc9e5fff79e0a2d765faa8d2a8eeffabb3d25af7c40de12e4", func := "standby/standbylaw44.CompareAnswers", spec := "compareAnswers", unfollowed := true, recurses := true, apart := false, narrowed := true }
def CompareAnswersUptoSaid : Prop := compareAnswersUptoRow.holds Try.pinned (OpenSpec.upto compareAnswersSpec)

/-- 'standbylaw44.CompareLearns', WHERE WHAT IT READS IS OF BULK AT MOST 1048576: true; the input reads as it did. -/
def compareLearnsUptoRow : OpenClaim := { program := "ytjehedfdikdfpaa", sum := "8fda8068ef4086cbc9e5fff79e0a2d765faa8d2a8eeffabb3d25af7c40de12e4", func := "standby/standbylaw44.CompareLearns", spec := "compareLearns", unfollowed := true, recurses := true, apart := false, narrowed := true }
def CompareLearnsUptoSaid : Prop := compareLearnsUptoRow.holds Try.pinned (OpenSpec.upto compareLearnsSpec)

/-- 'standbylaw44.CompareRuns', WHERE WHAT IT READS IS OF BULK AT MOST 1048576: true; the input reads as it did. -/
def compareRunsUptoRow : OpenClaim := { program := "ytjehedfdikdfpaa", sum := "8fda8068ef4086cbc9e5fff79e0a2d765faa8d2a8eeffabb3d25af7c40de12e4", func := "standby/standbylaw44.CompareRuns", spec := "compareRuns", unfollowed := true, recurses := true, apart := false, narrowed := true }
def CompareRunsUptoSaid : Prop := compareRunsUptoRow.holds Try.pinned (OpenSpec.upto compareRunsSpec)

/-- 'standbylaw44.CompareBounded', WHERE WHAT IT READS IS OF BULK AT MOST 1048576: true; the input reads as it did. -/
def compareBoundedUptoRow : OpenClaim := { program := "ytjehedfdikdfpaa", sum := "8fda8068ef4086cbc9e5fff79e0a2d765faa8d2a8eeffabb3d25af7c40de12e4", func := "standby/standbylaw44.CompareBounded", spec := "compareBounded", unfollowed := true, recurses := true, apart := false, narrowed := true }
def CompareBoundedUptoSaid : Prop := compareBoundedUptoRow.holds Try.pinned (OpenSpec.upto compareBoundedSpec)

/-- 'standbylaw44.CompareLate', WHERE WHAT IT READS IS OF BULK AT MOST 1048576: true; the input reads as it did. -/
def compareLateUptoRow : OpenClaim := { program := "ytjehedfdikdfpaa", sum := "8fda8068ef4086cbc9e5fff79e0a2d765faa8d2a8eeffabb3d25af7c40de12e4", func := "standby/standbylaw44.CompareLate", spec := "compareLate", unfollowed := true, recurses := true, apart := false, narrowed := true }
def CompareLateUptoSaid : Prop := compareLateUptoRow.holds Try.pinned (OpenSpec.upto compareLateSpec)

/-- 'standbylaw44.CompareSymmetric', WHERE WHAT IT READS IS OF BULK AT MOST 1048576: true; the input reads as it did. -/
def compareSymmetricUptoRow : OpenClaim := { program := "ytjehedfdikdfpaa", sum := "8fda8068ef4086cbc9e5fff79e0a2d765faa8d2a8eeffabb3d25af7c40de12e4", func := "standby/standbylaw44.CompareSymmetric", spec := "compareSymmetric", unfollowed := true, recurses := true, apart := false, narrowed := true }
def CompareSymmetricUptoSaid : Prop := compareSymmetricUptoRow.holds Try.pinned (OpenSpec.upto compareSymmetricSpec)

/-- 'standbylaw44.CompareFinds', WHERE WHAT IT READS IS OF BULK AT MOST 1048576: true; the input reads as it did. -/
def compareFindsUptoRow : OpenClaim := { program := "ytjehedfdikdfpaa", sum := "8fda8068ef4086cbc9e5fff79e0a2d765faa8d2a8eeffabb3d25af7c40de12e4", func := "standby/standbylaw44.CompareFinds", spec := "compareFinds", unfollowed := true, recurses := true, apart := false, narrowed := true }
def CompareFindsUptoSaid : Prop := compareFindsUptoRow.holds Try.pinned (OpenSpec.upto compareFindsSpec)

end Rows
end Go.Proofs.Ytjehedfdikdfpaa
