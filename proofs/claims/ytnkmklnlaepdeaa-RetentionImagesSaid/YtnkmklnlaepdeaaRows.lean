/-
  No cell of these rows narrows 'for every input' (looked for: loops, veiled, ifaces, maps, wideKeys, modest, calm, conditions, laid).
  DERIVED. THE GIVEN ROWS OF THIS SEAT. 7 by the template 'for every input the law returns true; each argument reads behind the call as it read before'; 0 by the template 'total and deterministic' (their statements: YtnkmklnlaepdeaaTotals.lean).
  GIVEN WITH THE SEED: the statements are not yours to turn. If you find one false, say at which input.
  Laid BY PROGRAM, IN A SANDBOX (cutbox-rows.mjs): the forced cells as the released guide's own fill.sh prints them over the translation 932dc82a585bfc7f… (all of the seat's roots in one cut). By AI agents, Wed Nov 11 2026. No macro, syntax, notation, axiom, sorry.
-/
import Derived.Test.YtnkmklnlaepdeaaChecked
import GoSem.Claim
import GoSem.ClaimJoined
import GoSem.ClaimMapViews
import Derived.JoinedTies
import Derived.KernelRfl
namespace Go.Proofs.Ytnkmklnlaepdeaa
/- THE CELL 'sum', in the pinned program and in every row, IS THE sha256 OF THE DUMP (.gsa) THAT YtnkmklnlaepdeaaProg.lean LOADS. Nothing in Lean hashes anything: it is a label: what it is worth is what the hold of that sum in a sandbox is worth. -/
noncomputable def Try.pinned : Pinned := { name := "ytnkmklnlaepdeaa", sum := "932dc82a585bfc7fcc35f7718b2ba5f44f521a9abd39e9903eb76b3ed7b95f7a", checked := Try.checked }
namespace Rows
def none {H : Type} : Left H := { results := [], args := [] }

/-- 'standbylaw38.RetentionChecks': WHATEVER THE INPUT: true; the input reads as it did. -/
def retentionChecksSpec : ChangeSpec := { name := "retentionChecks", fn := fun _ => fun
  | [d] => { results := [.lit (.bool true)], args := [d] }
  | _ => none }
def retentionChecksRow : OpenClaim := { program := "ytnkmklnlaepdeaa", sum := "932dc82a585bfc7fcc35f7718b2ba5f44f521a9abd39e9903eb76b3ed7b95f7a", func := "standby/standbylaw38.RetentionChecks", spec := "retentionChecks", unfollowed := true, recurses := true, plainKeys := false, apart := false }
def RetentionChecksSaid : Prop := retentionChecksRow.holds Try.pinned (OpenSpec.ofChange retentionChecksSpec)

/-- ITS FALSE NEIGHBOUR: 'it returns false'. Refute it at one input. -/
def retentionChecksWrong : ChangeSpec := { name := "retentionChecks", fn := fun _ => fun
  | [d] => { results := [.lit (.bool false)], args := [d] }
  | _ => none }
def RetentionChecksWrongFalsely : Prop := retentionChecksRow.holds Try.pinned (OpenSpec.ofChange retentionChecksWrong)

/-- 'standbylaw38.RetentionKeeps': WHATEVER THE INPUT: true; the input reads as it did. -/
def retentionKeepsSpec : ChangeSpec := { name := "retentionKeeps", fn := fun _ => fun
  | [d1, d2, d3] => { results := [.lit (.bool true)], args := [d1, d2, d3] }
  | _ => none }
def retentionKeepsRow : OpenClaim := { program := "ytnkmklnlaepdeaa", sum := "932dc82a585bfc7fcc35f7718b2ba5f44f521a9abd39e9903eb76b3ed7b95f7a", func := "standby/standbylaw38.RetentionKeeps", spec := "retentionKeeps", unfollowed := true, recurses := true, plainKeys := false, apart := false }
def RetentionKeepsSaid : Prop := retentionKeepsRow.holds Try.pinned (OpenSpec.ofChange retentionKeepsSpec)

/-- ITS FALSE NEIGHBOUR: 'it returns false'. Refute it at one input. -/
def retentionKeepsWrong : ChangeSpec := { name := "retentionKeeps", fn := fun _ => fun
  | [d1, d2, d3] => { results := [.lit (.bool false)], args := [d1, d2, d3] }
  | _ => none }
def RetentionKeepsWrongFalsely : Prop := retentionKeepsRow.holds Try.pinned (OpenSpec.ofChange retentionKeepsWrong)

/-- 'standbylaw38.RetentionMerges': WHATEVER THE INPUT: true; the input reads as it did. -/
def retentionMergesSpec : ChangeSpec := { name := "retentionMerges", fn := fun _ => fun
  | [d1, d2] => { results := [.lit (.bool true)], args := [d1, d2] }
  | _ => none }
def retentionMergesRow : OpenClaim := { program := "ytnkmklnlaepdeaa", sum := "932dc82a585bfc7fcc35f7718b2ba5f44f521a9abd39e9903eb76b3ed7b95f7a", func := "standby/standbylaw38.RetentionMerges", spec := "retentionMerges", unfollowed := true, recurses := true, plainKeys := false, apart := false }
def RetentionMergesSaid : Prop := retentionMergesRow.holds Try.pinned (OpenSpec.ofChange retentionMergesSpec)

/-- ITS FALSE NEIGHBOUR: 'it returns false'. Refute it at one input. -/
def retentionMergesWrong : ChangeSpec := { name := "retentionMerges", fn := fun _ => fun
  | [d1, d2] => { results := [.lit (.bool false)], args := [d1, d2] }
  | _ => none }
def RetentionMergesWrongFalsely : Prop := retentionMergesRow.holds Try.pinned (OpenSpec.ofChange retentionMergesWrong)

/-- 'standbylaw38.RetentionUnion': WHATEVER THE INPUT: true; the input reads as it did. -/
def retentionUnionSpec : ChangeSpec := { name := "retentionUnion", fn := fun _ => fun
  | [d1, d2, d3] => { results := [.lit (.bool true)], args := [d1, d2, d3] }
  | _ => none }
def retentionUnionRow : OpenClaim := { program := "ytnkmklnlaepdeaa", sum := "932dc82a585bfc7fcc35f7718b2ba5f44f521a9abd39e9903eb76b3ed7b95f7a", func := "standby/standbylaw38.RetentionUnion", spec := "retentionUnion", unfollowed := true, recurses := true, plainKeys := false, apart := false }
def RetentionUnionSaid : Prop := retentionUnionRow.holds Try.pinned (OpenSpec.ofChange retentionUnionSpec)

/-- ITS FALSE NEIGHBOUR: 'it returns false'. Refute it at one input. -/
def retentionUnionWrong : ChangeSpec := { name := "retentionUnion", fn := fun _ => fun
  | [d1, d2, d3] => { results := [.lit (.bool false)], args := [d1, d2, d3] }
  | _ => none }
def RetentionUnionWrongFalsely : Prop := retentionUnionRow.holds Try.pinned (OpenSpec.ofChange retentionUnionWrong)

/-- 'standbylaw38.RetentionStable': WHATEVER THE INPUT: true; the input reads as it did. -/
def retentionStableSpec : ChangeSpec := { name := "retentionStable", fn := fun _ => fun
  | [d1, d2, d3] => { results := [.lit (.bool true)], args := [d1, d2, d3] }
  | _ => none }
def retentionStableRow : OpenClaim := { program := "ytnkmklnlaepdeaa", sum := "932dc82a585bfc7fcc35f7718b2ba5f44f521a9abd39e9903eb76b3ed7b95f7a", func := "standby/standbylaw38.RetentionStable", spec := "retentionStable", unfollowed := true, recurses := true, plainKeys := false, apart := false }
def RetentionStableSaid : Prop := retentionStableRow.holds Try.pinned (OpenSpec.ofChange retentionStableSpec)

/-- ITS FALSE NEIGHBOUR: 'it returns false'. Refute it at one input. -/
def retentionStableWrong : ChangeSpec := { name := "retentionStable", fn := fun _ => fun
  | [d1, d2, d3] => { results := [.lit (.bool false)], args := [d1, d2, d3] }
  | _ => none }
def RetentionStableWrongFalsely : Prop := retentionStableRow.holds Try.pinned (OpenSpec.ofChange retentionStableWrong)

/-- 'standbylaw38.RetentionBounded': WHATEVER THE INPUT: true; the input reads as it did. -/
def retentionBoundedSpec : ChangeSpec := { name := "retentionBounded", fn := fun _ => fun
  | [d1, d2, d3] => { results := [.lit (.bool true)], args := [d1, d2, d3] }
  | _ => none }
def retentionBoundedRow : OpenClaim := { program := "ytnkmklnlaepdeaa", sum := "932dc82a585bfc7fcc35f7718b2ba5f44f521a9abd39e9903eb76b3ed7b95f7a", func := "standby/standbylaw38.RetentionBounded", spec := "retentionBounded", unfollowed := true, recurses := true, plainKeys := false, apart := false }
def RetentionBoundedSaid : Prop := retentionBoundedRow.holds Try.pinned (OpenSpec.ofChange retentionBoundedSpec)

/-- ITS FALSE NEIGHBOUR: 'it returns false'. Refute it at one input. -/
def retentionBoundedWrong : ChangeSpec := { name := "retentionBounded", fn := fun _ => fun
  | [d1, d2, d3] => { results := [.lit (.bool false)], args := [d1, d2, d3] }
  | _ => none }
def RetentionBoundedWrongFalsely : Prop := retentionBoundedRow.holds Try.pinned (OpenSpec.ofChange retentionBoundedWrong)

/-- 'standbylaw38.RetentionImages': WHATEVER THE INPUT: true; the input reads as it did. -/
def retentionImagesSpec : ChangeSpec := { name := "retentionImages", fn := fun _ => fun
  | [d1, d2, d3] => { results := [.lit (.bool true)], args := [d1, d2, d3] }
  | _ => none }
def retentionImagesRow : OpenClaim := { program := "ytnkmklnlaepdeaa", sum := "932dc82a585bfc7fcc35f7718b2ba5f44f521a9abd39e9903eb76b3ed7b95f7a", func := "standby/standbylaw38.RetentionImages", spec := "retentionImages", unfollowed := true, recurses := true, plainKeys := false, apart := false }
def RetentionImagesSaid : Prop := retentionImagesRow.holds Try.pinned (OpenSpec.ofChange retentionImagesSpec)

/-- ITS FALSE NEIGHBOUR: 'it returns false'. Refute it at one input. -/
def retentionImagesWrong : ChangeSpec := { name := "retentionImages", fn := fun _ => fun
  | [d1, d2, d3] => { results := [.lit (.bool false)], args := [d1, d2, d3] }
  | _ => none }
def RetentionImagesWrongFalsely : Prop := retentionImagesRow.holds Try.pinned (OpenSpec.ofChange retentionImagesWrong)

/- THE SECOND FORM. 'bulk': how many values and letters a reading holds, each counted each time it is reached (what is shared counts as often as it is met; a slice's spare places count too). A statement '..UptoSaid' is the law's where the arguments, and the package variables that the reading takes, are together of bulk at most 1048576: NARROWER than '..Said'. Prove '..Said' where nothing that the law and all that it calls make is longer than what came in: it says more and counts as full. Else prove '..UptoSaid'. A law counts once. -/
mutual
def uptoBulk {H : Type} : DataW H → Nat
  | .lit (.string bytes) => bytes.length + 1
  | .lit _ => 1
  | .nil => 1
  | .ptr d => uptoBulk d + 1
  | .slice elems spare => uptoBulkAll elems + uptoBulkAll spare + 1
  | .agg parts => uptoBulkAll parts + 1
  | .iface _ d => uptoBulk d + 1
  | .map entries => uptoBulkEntries entries + 1
  | .held _ => 1
def uptoBulkAll {H : Type} : List (DataW H) → Nat
  | [] => 0
  | d :: r => uptoBulk d + uptoBulkAll r
def uptoBulkEntries {H : Type} : List (Lit × DataW H) → Nat
  | [] => 0
  | x :: r => uptoBulkEntry x + uptoBulkEntries r
def uptoBulkEntry {H : Type} : Lit × DataW H → Nat
  | (.string bytes, d) => bytes.length + uptoBulk d + 1
  | (_, d) => uptoBulk d + 1
 end
def uptoSmall : (H : Type) → List (DataW H) → Bool := fun _ ds => decide (uptoBulkAll ds ≤ 1048576)
def OpenSpec.upto (s : _root_.Go.ChangeSpec) : _root_.Go.OpenSpec := { _root_.Go.OpenSpec.ofChange s with cond := some uptoSmall }

/-- 'standbylaw38.RetentionChecks', WHERE WHAT IT READS IS OF BULK AT MOST 1048576: true; the input reads as it did. -/
def retentionChecksUptoRow : OpenClaim := { program := "ytnkmklnlaepdeaa", sum := "932dc82a585bfc7fcc35f7718b2ba5f44f521a9abd39e9903eb76b3ed7b95f7a", func := "standby/standbylaw38.RetentionChecks", spec := "retentionChecks", unfollowed := true, recurses := true, plainKeys := false, apart := false, narrowed := true }
def RetentionChecksUptoSaid : Prop := retentionChecksUptoRow.holds Try.pinned (OpenSpec.upto retentionChecksSpec)

/-- 'standbylaw38.RetentionKeeps', WHERE WHAT IT READS IS OF BULK AT MOST 1048576: true; the input reads as it did. -/
def retentionKeepsUptoRow : OpenClaim := { program := "ytnkmklnlaepdeaa", sum := "932dc82a585bfc7fcc35f7718b2ba5f44f521a9abd39e9903eb76b3ed7b95f7a", func := "standby/standbylaw38.RetentionKeeps", spec := "retentionKeeps", unfollowed := true, recurses := true, plainKeys := false, apart := false, narrowed := true }
def RetentionKeepsUptoSaid : Prop := retentionKeepsUptoRow.holds Try.pinned (OpenSpec.upto retentionKeepsSpec)

/-- 'standbylaw38.RetentionMerges', WHERE WHAT IT READS IS OF BULK AT MOST 1048576: true; the input reads as it did. -/
def retentionMergesUptoRow : OpenClaim := { program := "ytnkmklnlaepdeaa", sum := "932dc82a585bfc7fcc35f7718b2ba5f44f521a9abd39e9903eb76b3ed7b95f7a", func := "standby/standbylaw38.RetentionMerges", spec := "retentionMerges", unfollowed := true, recurses := true, plainKeys := false, apart := false, narrowed := true }
def RetentionMergesUptoSaid : Prop := retentionMergesUptoRow.holds Try.pinned (OpenSpec.upto retentionMergesSpec)

/-- 'standbylaw38.RetentionUnion', WHERE WHAT IT READS IS OF BULK AT MOST 1048576: true; the input reads as it did. -/
def retentionUnionUptoRow : OpenClaim := { program := "ytnkmklnlaepdeaa", sum := "932dc82a585bfc7fcc35f7718b2ba5f44f521a9abd39e9903eb76b3ed7b95f7a", func := "standby/standbylaw38.RetentionUnion", spec := "retentionUnion", unfollowed := true, recurses := true, plainKeys := false, apart := false, narrowed := true }
def RetentionUnionUptoSaid : Prop := retentionUnionUptoRow.holds Try.pinned (OpenSpec.upto retentionUnionSpec)

/-- 'standbylaw38.RetentionStable', WHERE WHAT IT READS IS OF BULK AT MOST 1048576: true; the input reads as it did. -/
def retentionStableUptoRow : OpenClaim := { program := "ytnkmklnlaepdeaa", sum := "932dc82a585bfc7fcc35f7718b2ba5f44f521a9abd39e9903eb76b3ed7b95f7a", func := "standby/standbylaw38.RetentionStable", spec := "retentionStable", unfollowed := true, recurses := true, plainKeys := false, apart := false, narrowed := true }
def RetentionStableUptoSaid : Prop := retentionStableUptoRow.holds Try.pinned (OpenSpec.upto retentionStableSpec)

/-- 'standbylaw38.RetentionBounded', WHERE WHAT IT READS IS OF BULK AT MOST 1048576: true; the input reads as it did. -/
def retentionBoundedUptoRow : OpenClaim := { program := "ytnkmklnlaepdeaa", sum := "932dc82a585bfc7fcc35f7718b2ba5f44f521a9abd39e9903eb76b3ed7b95f7a", func := "standby/standbylaw38.RetentionBounded", spec := "retentionBounded", unfollowed := true, recurses := true, plainKeys := false, apart := false, narrowed := true }
def RetentionBoundedUptoSaid : Prop := retentionBoundedUptoRow.holds Try.pinned (OpenSpec.upto retentionBoundedSpec)

/-- 'standbylaw38.RetentionImages', WHERE WHAT IT READS IS OF BULK AT MOST 1048576: true; the input reads as it did. -/
def retentionImagesUptoRow : OpenClaim := { program := "ytnkmklnlaepdeaa", sum := "932dc82a585bfc7fcc35f7718b2ba5f44f521a9abd39e9903eb76b3ed7b95f7a", func := "standby/standbylaw38.RetentionImages", spec := "retentionImages", unfollowed := true, recurses := true, plainKeys := false, apart := false, narrowed := true }
def RetentionImagesUptoSaid : Prop := retentionImagesUptoRow.holds Try.pinned (OpenSpec.upto retentionImagesSpec)

end Rows
end Go.Proofs.Ytnkmklnlaepdeaa
