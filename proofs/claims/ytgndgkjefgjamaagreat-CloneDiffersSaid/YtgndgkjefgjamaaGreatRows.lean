/-
  No cell of these rows narrows 'for every input' (looked for: loops, veiled, ifaces, maps, wideKeys, modest, calm, conditions, laid).
  DERIVED. THE GIVEN ROWS OF THIS SEAT. 7 by the template 'for every input the law returns true; each argument reads behind the call as it read before'; 0 by the template 'total and deterministic' (their statements: YtgndgkjefgjamaaGreatTotals.lean).
  GIVEN WITH THE SEED: the statements are not yours to turn. If you find one false, say at which input.
  Laid BY PROGRAM, IN A SANDBOX (cutbox-rows.mjs): the forced cells as the released guide's own fill.sh prints them over the translation 0189685bf23a47c7… (all of the seat's roots in one cut). By AI agents, Wed Nov 11 2026. No macro, syntax, notation, axiom, sorry.
-/
import Derived.Test.YtgndgkjefgjamaaGreatChecked
import GoSem.Claim
import GoSem.ClaimJoined
import GoSem.ClaimMapViews
import Derived.JoinedTies
import Derived.KernelRfl
namespace Go.Proofs.YtgndgkjefgjamaaGreat
/- THE CELL 'sum', in the pinned program and in every row, IS THE sha256 OF THE DUMP (.gsa) THAT YtgndgkjefgjamaaGreatProg.lean LOADS. Nothing in Lean hashes anything: it is a label: what it is worth is what the hold of that sum in a sandbox is worth. -/
noncomputable def Tryz.pinned : Pinned := { name := "ytgndgkjefgjamaagreat", sum := "0189685bf23a47c7edb6cda8a28fa9b9c5605f61eafb1f1f97ebb6dd331203e4", checked := Tryz.checked }
namespace Rows
def none {H : Type} : Left H := { results := [], args := [] }

/-- 'standbylaw37.CloneCreates': WHATEVER THE INPUT: true; the input reads as it did. -/
def cloneCreatesSpec : ChangeSpec := { name := "cloneCreates", fn := fun _ => fun
  | [d1, d2, d3] => { results := [.lit (.bool true)], args := [d1, d2, d3] }
  | _ => none }
def cloneCreatesRow : OpenClaim := { program := "ytgndgkjefgjamaagreat", sum := "0189685bf23a47c7edb6cda8a28fa9b9c5605f61eafb1f1f97ebb6dd331203e4", func := "standby/standbylaw37.CloneCreates", spec := "cloneCreates", unfollowed := true, recurses := true, plainKeys := false, apart := false }
def CloneCreatesSaid : Prop := cloneCreatesRow.holds Tryz.pinned (OpenSpec.ofChange cloneCreatesSpec)

/-- ITS FALSE NEIGHBOUR: 'it returns false'. Refute it at one input. -/
def cloneCreatesWrong : ChangeSpec := { name := "cloneCreates", fn := fun _ => fun
  | [d1, d2, d3] => { results := [.lit (.bool false)], args := [d1, d2, d3] }
  | _ => none }
def CloneCreatesWrongFalsely : Prop := cloneCreatesRow.holds Tryz.pinned (OpenSpec.ofChange cloneCreatesWrong)

/-- 'standbylaw37.CloneWrites': WHATEVER THE INPUT: true; the input reads as it did. -/
def cloneWritesSpec : ChangeSpec := { name := "cloneWrites", fn := fun _ => fun
  | [d1, d2, d3] => { results := [.lit (.bool true)], args := [d1, d2, d3] }
  | _ => none }
def cloneWritesRow : OpenClaim := { program := "ytgndgkjefgjamaagreat", sum := "0189685bf23a47c7edb6cda8a28fa9b9c5605f61eafb1f1f97ebb6dd331203e4", func := "standby/standbylaw37.CloneWrites", spec := "cloneWrites", unfollowed := true, recurses := true, plainKeys := false, apart := false }
def CloneWritesSaid : Prop := cloneWritesRow.holds Tryz.pinned (OpenSpec.ofChange cloneWritesSpec)

/-- ITS FALSE NEIGHBOUR: 'it returns false'. Refute it at one input. -/
def cloneWritesWrong : ChangeSpec := { name := "cloneWrites", fn := fun _ => fun
  | [d1, d2, d3] => { results := [.lit (.bool false)], args := [d1, d2, d3] }
  | _ => none }
def CloneWritesWrongFalsely : Prop := cloneWritesRow.holds Tryz.pinned (OpenSpec.ofChange cloneWritesWrong)

/-- 'standbylaw37.CloneDeletes': WHATEVER THE INPUT: true; the input reads as it did. -/
def cloneDeletesSpec : ChangeSpec := { name := "cloneDeletes", fn := fun _ => fun
  | [d1, d2, d3] => { results := [.lit (.bool true)], args := [d1, d2, d3] }
  | _ => none }
def cloneDeletesRow : OpenClaim := { program := "ytgndgkjefgjamaagreat", sum := "0189685bf23a47c7edb6cda8a28fa9b9c5605f61eafb1f1f97ebb6dd331203e4", func := "standby/standbylaw37.CloneDeletes", spec := "cloneDeletes", unfollowed := true, recurses := true, plainKeys := false, apart := false }
def CloneDeletesSaid : Prop := cloneDeletesRow.holds Tryz.pinned (OpenSpec.ofChange cloneDeletesSpec)

/-- ITS FALSE NEIGHBOUR: 'it returns false'. Refute it at one input. -/
def cloneDeletesWrong : ChangeSpec := { name := "cloneDeletes", fn := fun _ => fun
  | [d1, d2, d3] => { results := [.lit (.bool false)], args := [d1, d2, d3] }
  | _ => none }
def CloneDeletesWrongFalsely : Prop := cloneDeletesRow.holds Tryz.pinned (OpenSpec.ofChange cloneDeletesWrong)

/-- 'standbylaw37.CloneReplicates': WHATEVER THE INPUT: true; the input reads as it did. -/
def cloneReplicatesSpec : ChangeSpec := { name := "cloneReplicates", fn := fun _ => fun
  | [d1, d2, d3] => { results := [.lit (.bool true)], args := [d1, d2, d3] }
  | _ => none }
def cloneReplicatesRow : OpenClaim := { program := "ytgndgkjefgjamaagreat", sum := "0189685bf23a47c7edb6cda8a28fa9b9c5605f61eafb1f1f97ebb6dd331203e4", func := "standby/standbylaw37.CloneReplicates", spec := "cloneReplicates", unfollowed := true, recurses := true, plainKeys := false, apart := false }
def CloneReplicatesSaid : Prop := cloneReplicatesRow.holds Tryz.pinned (OpenSpec.ofChange cloneReplicatesSpec)

/-- ITS FALSE NEIGHBOUR: 'it returns false'. Refute it at one input. -/
def cloneReplicatesWrong : ChangeSpec := { name := "cloneReplicates", fn := fun _ => fun
  | [d1, d2, d3] => { results := [.lit (.bool false)], args := [d1, d2, d3] }
  | _ => none }
def CloneReplicatesWrongFalsely : Prop := cloneReplicatesRow.holds Tryz.pinned (OpenSpec.ofChange cloneReplicatesWrong)

/-- 'standbylaw37.CloneKeeps': WHATEVER THE INPUT: true; the input reads as it did. -/
def cloneKeepsSpec : ChangeSpec := { name := "cloneKeeps", fn := fun _ => fun
  | [d1, d2] => { results := [.lit (.bool true)], args := [d1, d2] }
  | _ => none }
def cloneKeepsRow : OpenClaim := { program := "ytgndgkjefgjamaagreat", sum := "0189685bf23a47c7edb6cda8a28fa9b9c5605f61eafb1f1f97ebb6dd331203e4", func := "standby/standbylaw37.CloneKeeps", spec := "cloneKeeps", unfollowed := true, recurses := true, plainKeys := false, apart := false }
def CloneKeepsSaid : Prop := cloneKeepsRow.holds Tryz.pinned (OpenSpec.ofChange cloneKeepsSpec)

/-- ITS FALSE NEIGHBOUR: 'it returns false'. Refute it at one input. -/
def cloneKeepsWrong : ChangeSpec := { name := "cloneKeeps", fn := fun _ => fun
  | [d1, d2] => { results := [.lit (.bool false)], args := [d1, d2] }
  | _ => none }
def CloneKeepsWrongFalsely : Prop := cloneKeepsRow.holds Tryz.pinned (OpenSpec.ofChange cloneKeepsWrong)

/-- 'standbylaw37.CloneSpares': WHATEVER THE INPUT: true; the input reads as it did. -/
def cloneSparesSpec : ChangeSpec := { name := "cloneSpares", fn := fun _ => fun
  | [d1, d2] => { results := [.lit (.bool true)], args := [d1, d2] }
  | _ => none }
def cloneSparesRow : OpenClaim := { program := "ytgndgkjefgjamaagreat", sum := "0189685bf23a47c7edb6cda8a28fa9b9c5605f61eafb1f1f97ebb6dd331203e4", func := "standby/standbylaw37.CloneSpares", spec := "cloneSpares", unfollowed := true, recurses := true, plainKeys := false, apart := false }
def CloneSparesSaid : Prop := cloneSparesRow.holds Tryz.pinned (OpenSpec.ofChange cloneSparesSpec)

/-- ITS FALSE NEIGHBOUR: 'it returns false'. Refute it at one input. -/
def cloneSparesWrong : ChangeSpec := { name := "cloneSpares", fn := fun _ => fun
  | [d1, d2] => { results := [.lit (.bool false)], args := [d1, d2] }
  | _ => none }
def CloneSparesWrongFalsely : Prop := cloneSparesRow.holds Tryz.pinned (OpenSpec.ofChange cloneSparesWrong)

/-- 'standbylaw37.CloneDiffers': WHATEVER THE INPUT: true; the input reads as it did. -/
def cloneDiffersSpec : ChangeSpec := { name := "cloneDiffers", fn := fun _ => fun
  | [d1, d2, d3] => { results := [.lit (.bool true)], args := [d1, d2, d3] }
  | _ => none }
def cloneDiffersRow : OpenClaim := { program := "ytgndgkjefgjamaagreat", sum := "0189685bf23a47c7edb6cda8a28fa9b9c5605f61eafb1f1f97ebb6dd331203e4", func := "standby/standbylaw37.CloneDiffers", spec := "cloneDiffers", unfollowed := true, recurses := true, plainKeys := false, apart := false }
def CloneDiffersSaid : Prop := cloneDiffersRow.holds Tryz.pinned (OpenSpec.ofChange cloneDiffersSpec)

/-- ITS FALSE NEIGHBOUR: 'it returns false'. Refute it at one input. -/
def cloneDiffersWrong : ChangeSpec := { name := "cloneDiffers", fn := fun _ => fun
  | [d1, d2, d3] => { results := [.lit (.bool false)], args := [d1, d2, d3] }
  | _ => none }
def CloneDiffersWrongFalsely : Prop := cloneDiffersRow.holds Tryz.pinned (OpenSpec.ofChange cloneDiffersWrong)

/- THE SECOND FORM. 'bulk': how many values and letters a reading holds, each counted each time it is reached (what is shared counts as often as it is met; a slice's spare places count too). A statement '..UptoSaid' is the law's where the arguments, and the package variables that the reading takes, are together of bulk at most 1048576: NARROWER than '..Said'. Prove '..Said' where nothing that the law and all that it calls make is longer than what came in: it says more and counts as full. Else prove '..UptoSaid'. A law counts once. -/
mutual
def uptoBulk {H : Type} : DataW H → Nat
  | .lit (.string bytes) => bytes.length + 1
  | .lit _ => 1
  | .nil => 1
  | .ptr d => uptoBulk d + 1
  | .slice elems spare => uptoBulkAll elems + uptoBulkAll spare + 1
  | .agg parts => uptoBulkAll parts + 1
  | .iface _ d => uptoBulk d + 1
  | .map entries => uptoBulkEntries entries + 1
  | .held _ => 1
def uptoBulkAll {H : Type} : List (DataW H) → Nat
  | [] => 0
  | d :: r => uptoBulk d + uptoBulkAll r
def uptoBulkEntries {H : Type} : List (Lit × DataW H) → Nat
  | [] => 0
  | x :: r => uptoBulkEntry x + uptoBulkEntries r
def uptoBulkEntry {H : Type} : Lit × DataW H → Nat
  | (.string bytes, d) => bytes.length + uptoBulk d + 1
  | (_, d) => uptoBulk d + 1
 end
def uptoSmall : (H : Type) → List (DataW H) → Bool := fun _ ds => decide (uptoBulkAll ds ≤ 1048576)
def OpenSpec.upto (s : _root_.Go.ChangeSpec) : _root_.Go.OpenSpec := { _root_.Go.OpenSpec.ofChange s with cond := some uptoSmall }

/-- 'standbylaw37.CloneCreates', WHERE WHAT IT READS IS OF BULK AT MOST 1048576: true; the input reads as it did. -/
def cloneCreatesUptoRow : OpenClaim := { program := "ytgndgkjefgjamaagreat", sum := "0189685bf23a47c7edb6cda8a28fa9b9c5605f61eafb1f1f97ebb6dd331203e4", func := "standby/standbylaw37.CloneCreates", spec := "cloneCreates", unfollowed := true, recurses := true, plainKeys := false, apart := false, narrowed := true }
def CloneCreatesUptoSaid : Prop := cloneCreatesUptoRow.holds Tryz.pinned (OpenSpec.upto cloneCreatesSpec)

/-- 'standbylaw37.CloneWrites', WHERE WHAT IT READS IS OF BULK AT MOST 1048576: true; the input reads as it did. -/
def cloneWritesUptoRow : OpenClaim := { program := "ytgndgkjefgjamaagreat", sum := "0189685bf23a47c7edb6cda8a28fa9b9c5605f61eafb1f1f97ebb6dd331203e4", func := "standby/standbylaw37.CloneWrites", spec := "cloneWrites", unfollowed := true, recurses := true, plainKeys := false, apart := false, narrowed := true }
def CloneWritesUptoSaid : Prop := cloneWritesUptoRow.holds Tryz.pinned (OpenSpec.upto cloneWritesSpec)

/-- 'standbylaw37.CloneDeletes', WHERE WHAT IT READS IS OF BULK AT MOST 1048576: true; the input reads as it did. -/
def cloneDeletesUptoRow : OpenClaim := { program := "ytgndgkjefgjamaagreat", sum := "0189685bf23a47c7edb6cda8a28fa9b9c5605f61eafb1f1f97ebb6dd331203e4", func := "standby/standbylaw37.CloneDeletes", spec := "cloneDeletes", unfollowed := true, recurses := true, plainKeys := false, apart := false, narrowed := true }
def CloneDeletesUptoSaid : Prop := cloneDeletesUptoRow.holds Tryz.pinned (OpenSpec.upto cloneDeletesSpec)

/-- 'standbylaw37.CloneReplicates', WHERE WHAT IT READS IS OF BULK AT MOST 1048576: true; the input reads as it did. -/
def cloneReplicatesUptoRow : OpenClaim := { program := "ytgndgkjefgjamaagreat", sum := "0189685bf23a47c7edb6cda8a28fa9b9c5605f61eafb1f1f97ebb6dd331203e4", func := "standby/standbylaw37.CloneReplicates", spec := "cloneReplicates", unfollowed := true, recurses := true, plainKeys := false, apart := false, narrowed := true }
def CloneReplicatesUptoSaid : Prop := cloneReplicatesUptoRow.holds Tryz.pinned (OpenSpec.upto cloneReplicatesSpec)

/-- 'standbylaw37.CloneKeeps', WHERE WHAT IT READS IS OF BULK AT MOST 1048576: true; the input reads as it did. -/
def cloneKeepsUptoRow : OpenClaim := { program := "ytgndgkjefgjamaagreat", sum := "0189685bf23a47c7edb6cda8a28fa9b9c5605f61eafb1f1f97ebb6dd331203e4", func := "standby/standbylaw37.CloneKeeps", spec := "cloneKeeps", unfollowed := true, recurses := true, plainKeys := false, apart := false, narrowed := true }
def CloneKeepsUptoSaid : Prop := cloneKeepsUptoRow.holds Tryz.pinned (OpenSpec.upto cloneKeepsSpec)

/-- 'standbylaw37.CloneSpares', WHERE WHAT IT READS IS OF BULK AT MOST 1048576: true; the input reads as it did. -/
def cloneSparesUptoRow : OpenClaim := { program := "ytgndgkjefgjamaagreat", sum := "0189685bf23a47c7edb6cda8a28fa9b9c5605f61eafb1f1f97ebb6dd331203e4", func := "standby/standbylaw37.CloneSpares", spec := "cloneSpares", unfollowed := true, recurses := true, plainKeys := false, apart := false, narrowed := true }
def CloneSparesUptoSaid : Prop := cloneSparesUptoRow.holds Tryz.pinned (OpenSpec.upto cloneSparesSpec)

/-- 'standbylaw37.CloneDiffers', WHERE WHAT IT READS IS OF BULK AT MOST 1048576: true; the input reads as it did. -/
def cloneDiffersUptoRow : OpenClaim := { program := "ytgndgkjefgjamaagreat", sum := "0189685bf23a47c7edb6cda8a28fa9b9c5605f61eafb1f1f97ebb6dd331203e4", func := "standby/standbylaw37.CloneDiffers", spec := "cloneDiffers", unfollowed := true, recurses := true, plainKeys := false, apart := false, narrowed := true }
def CloneDiffersUptoSaid : Prop := cloneDiffersUptoRow.holds Tryz.pinned (OpenSpec.upto cloneDiffersSpec)

end Rows
end Go.Proofs.YtgndgkjefgjamaaGreat
