/-
  No cell of these rows narrows 'for every input' (looked for: loops, veiled, ifaces, maps, wideKeys, modest, calm, conditions, laid).
  DERIVED. THE GIVEN ROWS OF THIS SEAT. 4 by the template 'for every input the law returns true; each argument reads behind the call as it read before'; 0 by the template 'total and deterministic' (their statements: YtgmeghandjkkcaaGreatTotals.lean).
  GIVEN WITH THE SEED: the statements are not yours to turn. If you find one false, say at which input.
  Laid BY PROGRAM, IN A SANDBOX (cutbox-rows.mjs): the forced cells as the released guide's own fill.sh prints them over the translation 5a375807d58e8da9… (all of the seat's roots in one cut). By AI agents, Wed Nov 11 2026. No macro, syntax, notation, axiom, sorry.
-/
import Derived.Test.YtgmeghandjkkcaaGreatChecked
import GoSem.Claim
import GoSem.ClaimJoined
import GoSem.ClaimMapViews
import Derived.JoinedTies
import Derived.KernelRfl
namespace Go.Proofs.YtgmeghandjkkcaaGreat
/- THE CELL 'sum', in the pinned program and in every row, IS THE sha256 OF THE DUMP (.gsa) THAT YtgmeghandjkkcaaGreatProg.lean LOADS. Nothing in Lean hashes anything: it is a label: what it is worth is what the hold of that sum in a sandbox is worth. -/
noncomputable def Tryz.pinned : Pinned := { name := "ytgmeghandjkkcaagreat", sum := "5a375807d58e8da9447b669ca266ba00ad4bff67ef1d73a10bd325971a78e144", checked := Tryz.checked }
namespace Rows
def none {H : Type} : Left H := { results := [], args := [] }

/-- 'standbylaw36.SnapshotApplies': WHATEVER THE INPUT: true; the input reads as it did. -/
def snapshotAppliesSpec : ChangeSpec := { name := "snapshotApplies", fn := fun _ => fun
  | [d1, d2, d3] => { results := [.lit (.bool true)], args := [d1, d2, d3] }
  | _ => none }
def snapshotAppliesRow : OpenClaim := { program := "ytgmeghandjkkcaagreat", sum := "5a375807d58e8da9447b669ca266ba00ad4bff67ef1d73a10bd325971a78e144", func := "standby/standbylaw36.SnapshotApplies", spec := "snapshotApplies", unfollowed := true, recurses := true, plainKeys := false, apart := false }
def SnapshotAppliesSaid : Prop := snapshotAppliesRow.holds Tryz.pinned (OpenSpec.ofChange snapshotAppliesSpec)

/-- ITS FALSE NEIGHBOUR: 'it returns false'. Refute it at one input. -/
def snapshotAppliesWrong : ChangeSpec := { name := "snapshotApplies", fn := fun _ => fun
  | [d1, d2, d3] => { results := [.lit (.bool false)], args := [d1, d2, d3] }
  | _ => none }
def SnapshotAppliesWrongFalsely : Prop := snapshotAppliesRow.holds Tryz.pinned (OpenSpec.ofChange snapshotAppliesWrong)

/-- 'standbylaw36.SnapshotDeletes': WHATEVER THE INPUT: true; the input reads as it did. -/
def snapshotDeletesSpec : ChangeSpec := { name := "snapshotDeletes", fn := fun _ => fun
  | [d1, d2] => { results := [.lit (.bool true)], args := [d1, d2] }
  | _ => none }
def snapshotDeletesRow : OpenClaim := { program := "ytgmeghandjkkcaagreat", sum := "5a375807d58e8da9447b669ca266ba00ad4bff67ef1d73a10bd325971a78e144", func := "standby/standbylaw36.SnapshotDeletes", spec := "snapshotDeletes", unfollowed := true, recurses := true, plainKeys := false, apart := false }
def SnapshotDeletesSaid : Prop := snapshotDeletesRow.holds Tryz.pinned (OpenSpec.ofChange snapshotDeletesSpec)

/-- ITS FALSE NEIGHBOUR: 'it returns false'. Refute it at one input. -/
def snapshotDeletesWrong : ChangeSpec := { name := "snapshotDeletes", fn := fun _ => fun
  | [d1, d2] => { results := [.lit (.bool false)], args := [d1, d2] }
  | _ => none }
def SnapshotDeletesWrongFalsely : Prop := snapshotDeletesRow.holds Tryz.pinned (OpenSpec.ofChange snapshotDeletesWrong)

/-- 'standbylaw36.SnapshotImages': WHATEVER THE INPUT: true; the input reads as it did. -/
def snapshotImagesSpec : ChangeSpec := { name := "snapshotImages", fn := fun _ => fun
  | [d1, d2, d3] => { results := [.lit (.bool true)], args := [d1, d2, d3] }
  | _ => none }
def snapshotImagesRow : OpenClaim := { program := "ytgmeghandjkkcaagreat", sum := "5a375807d58e8da9447b669ca266ba00ad4bff67ef1d73a10bd325971a78e144", func := "standby/standbylaw36.SnapshotImages", spec := "snapshotImages", unfollowed := true, recurses := true, plainKeys := false, apart := false }
def SnapshotImagesSaid : Prop := snapshotImagesRow.holds Tryz.pinned (OpenSpec.ofChange snapshotImagesSpec)

/-- ITS FALSE NEIGHBOUR: 'it returns false'. Refute it at one input. -/
def snapshotImagesWrong : ChangeSpec := { name := "snapshotImages", fn := fun _ => fun
  | [d1, d2, d3] => { results := [.lit (.bool false)], args := [d1, d2, d3] }
  | _ => none }
def SnapshotImagesWrongFalsely : Prop := snapshotImagesRow.holds Tryz.pinned (OpenSpec.ofChange snapshotImagesWrong)

/-- 'standbylaw36.SnapshotDiffers': WHATEVER THE INPUT: true; the input reads as it did. -/
def snapshotDiffersSpec : ChangeSpec := { name := "snapshotDiffers", fn := fun _ => fun
  | [d1, d2, d3] => { results := [.lit (.bool true)], args := [d1, d2, d3] }
  | _ => none }
def snapshotDiffersRow : OpenClaim := { program := "ytgmeghandjkkcaagreat", sum := "5a375807d58e8da9447b669ca266ba00ad4bff67ef1d73a10bd325971a78e144", func := "standby/standbylaw36.SnapshotDiffers", spec := "snapshotDiffers", unfollowed := true, recurses := true, plainKeys := false, apart := false }
def SnapshotDiffersSaid : Prop := snapshotDiffersRow.holds Tryz.pinned (OpenSpec.ofChange snapshotDiffersSpec)

/-- ITS FALSE NEIGHBOUR: 'it returns false'. Refute it at one input. -/
def snapshotDiffersWrong : ChangeSpec := { name := "snapshotDiffers", fn := fun _ => fun
  | [d1, d2, d3] => { results := [.lit (.bool false)], args := [d1, d2, d3] }
  | _ => none }
def SnapshotDiffersWrongFalsely : Prop := snapshotDiffersRow.holds Tryz.pinned (OpenSpec.ofChange snapshotDiffersWrong)

/- THE SECOND FORM. 'bulk': how many values and letters a reading holds, each counted each time it is reached (what is shared counts as often as it is met; a slice's spare places count too). A statement '..UptoSaid' is the law's where the arguments, and the package variables that the reading takes, are together of bulk at most 1048576: NARROWER than '..Said'. Prove '..Said' where nothing that the law and all that it calls make is longer than what came in: it says more and counts as full. Else prove '..UptoSaid'. A law counts once. -/
mutual
def uptoBulk {H : Type} : DataW H → Nat
  | .lit (.string bytes) => bytes.length + 1
  | .lit _ => 1
  | .nil => 1
  | .ptr d => uptoBulk d + 1
  | .slice elems spare => uptoBulkAll elems + uptoBulkAll spare + 1
  | .agg parts => uptoBulkAll parts + 1
  | .iface _ d => uptoBulk d + 1
  | .map entries => uptoBulkEntries entries + 1
  | .held _ => 1
def uptoBulkAll {H : Type} : List (DataW H) → Nat
  | [] => 0
  | d :: r => uptoBulk d + uptoBulkAll r
def uptoBulkEntries {H : Type} : List (Lit × DataW H) → Nat
  | [] => 0
  | x :: r => uptoBulkEntry x + uptoBulkEntries r
def uptoBulkEntry {H : Type} : Lit × DataW H → Nat
  | (.string bytes, d) => bytes.length + uptoBulk d + 1
  | (_, d) => uptoBulk d + 1
 end
def uptoSmall : (H : Type) → List (DataW H) → Bool := fun _ ds => decide (uptoBulkAll ds ≤ 1048576)
def OpenSpec.upto (s : _root_.Go.ChangeSpec) : _root_.Go.OpenSpec := { _root_.Go.OpenSpec.ofChange s with cond := some uptoSmall }

/-- 'standbylaw36.SnapshotApplies', WHERE WHAT IT READS IS OF BULK AT MOST 1048576: true; the input reads as it did. -/
def snapshotAppliesUptoRow : OpenClaim := { program := "ytgmeghandjkkcaagreat", sum := "5a375807d58e8da9447b669ca266ba00ad4bff67ef1d73a10bd325971a78e144", func := "standby/standbylaw36.SnapshotApplies", spec := "snapshotApplies", unfollowed := true, recurses := true, plainKeys := false, apart := false, narrowed := true }
def SnapshotAppliesUptoSaid : Prop := snapshotAppliesUptoRow.holds Tryz.pinned (OpenSpec.upto snapshotAppliesSpec)

/-- 'standbylaw36.SnapshotDeletes', WHERE WHAT IT READS IS OF BULK AT MOST 1048576: true; the input reads as it did. -/
def snapshotDeletesUptoRow : OpenClaim := { program := "ytgmeghandjkkcaagreat", sum := "5a375807d58e8da9447b669ca266ba00ad4bff67ef1d73a10bd325971a78e144", func := "standby/standbylaw36.SnapshotDeletes", spec := "snapshotDeletes", unfollowed := true, recurses := true, plainKeys := false, apart := false, narrowed := true }
def SnapshotDeletesUptoSaid : Prop := snapshotDeletesUptoRow.holds Tryz.pinned (OpenSpec.upto snapshotDeletesSpec)

/-- 'standbylaw36.SnapshotImages', WHERE WHAT IT READS IS OF BULK AT MOST 1048576: true; the input reads as it did. -/
def snapshotImagesUptoRow : OpenClaim := { program := "ytgmeghandjkkcaagreat", sum := "5a375807d58e8da9447b669ca266ba00ad4bff67ef1d73a10bd325971a78e144", func := "standby/standbylaw36.SnapshotImages", spec := "snapshotImages", unfollowed := true, recurses := true, plainKeys := false, apart := false, narrowed := true }
def SnapshotImagesUptoSaid : Prop := snapshotImagesUptoRow.holds Tryz.pinned (OpenSpec.upto snapshotImagesSpec)

/-- 'standbylaw36.SnapshotDiffers', WHERE WHAT IT READS IS OF BULK AT MOST 1048576: true; the input reads as it did. -/
def snapshotDiffersUptoRow : OpenClaim := { program := "ytgmeghandjkkcaagreat", sum := "5a375807d58e8da9447b669ca266ba00ad4bff67ef1d73a10bd325971a78e144", func := "standby/standbylaw36.SnapshotDiffers", spec := "snapshotDiffers", unfollowed := true, recurses := true, plainKeys := false, apart := false, narrowed := true }
def SnapshotDiffersUptoSaid : Prop := snapshotDiffersUptoRow.holds Tryz.pinned (OpenSpec.upto snapshotDiffersSpec)

end Rows
end Go.Proofs.YtgmeghandjkkcaaGreat
