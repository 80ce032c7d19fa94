/-
  No cell of these rows narrows 'for every input' (looked for: loops, veiled, ifaces, maps, wideKeys, modest, calm, conditions, laid).
  DERIVED. THE GIVEN ROWS OF THIS SEAT. 4 by the template 'for every input the law returns true; each argument reads behind the call as it read before'; 0 by the template 'total and deterministic' (their statements: YtgmeghandjkkcaaTotals.lean).
  GIVEN WITH THE SEED: the statements are not yours to turn. If you find one false, say at which input.
  Laid BY PROGRAM, IN A SANDBOX (cutbox-rows.mjs): the forced cells as the released guide's own fill.sh prints them over the translation c8a9cbba33c6f038… (all of the seat's roots in one cut). By AI agents, Wed Nov 11 2026. No macro, syntax, notation, axiom, sorry.
-/
import Derived.Test.YtgmeghandjkkcaaChecked
import GoSem.Claim
import GoSem.ClaimJoined
import GoSem.ClaimMapViews
import Derived.JoinedTies
import Derived.KernelRfl
namespace Go.Proofs.Ytgmeghandjkkcaa
/- THE CELL 'sum', in the pinned program and in every row, IS THE sha256 OF THE DUMP (.gsa) THAT YtgmeghandjkkcaaProg.lean LOADS. Nothing in Lean hashes anything: it is a label: what it is worth is what the hold of that sum in a sandbox is worth. -/
noncomputable def Try.pinned : Pinned := { name := "ytgmeghandjkkcaa", sum := "c8a9cbba33c6f038e3e6b9c7d21b973252b39fa704de1a1bcb8b29f453baad6d", checked := Try.checked }
namespace Rows
def none {H : Type} : Left H := { results := [], args := [] }

/-- 'standbylaw36.SnapshotChecks': WHATEVER THE INPUT: true; the input reads as it did. -/
def snapshotChecksSpec : ChangeSpec := { name := "snapshotChecks", fn := fun _ => fun
  | [d] => { results := [.lit (.bool true)], args := [d] }
  | _ => none }
def snapshotChecksRow : OpenClaim := { program := "ytgmeghandjkkcaa", sum := "c8a9cbba33c6f038e3e6b9c7d21b973252b39fa704de1a1bcb8b29f453baad6d", func := "standby/standbylaw36.SnapshotChecks", spec := "snapshotChecks", unfollowed := true, recurses := true, plainKeys := false, apart := false }
def SnapshotChecksSaid : Prop := snapshotChecksRow.holds Try.pinned (OpenSpec.ofChange snapshotChecksSpec)

/-- ITS FALSE NEIGHBOUR: 'it returns false'. Refute it at one input. -/
def snapshotChecksWrong : ChangeSpec := { name := "snapshotChecks", fn := fun _ => fun
  | [d] => { results := [.lit (.bool false)], args := [d] }
  | _ => none }
def SnapshotChecksWrongFalsely : Prop := snapshotChecksRow.holds Try.pinned (OpenSpec.ofChange snapshotChecksWrong)

/-- 'standbylaw36.SnapshotKeeps': WHATEVER THE INPUT: true; the input reads as it did. -/
def snapshotKeepsSpec : ChangeSpec := { name := "snapshotKeeps", fn := fun _ => fun
  | [d] => { results := [.lit (.bool true)], args := [d] }
  | _ => none }
def snapshotKeepsRow : OpenClaim := { program := "ytgmeghandjkkcaa", sum := "c8a9cbba33c6f038e3e6b9c7d21b973252b39fa704de1a1bcb8b29f453baad6d", func := "standby/standbylaw36.SnapshotKeeps", spec := "snapshotKeeps", unfollowed := true, recurses := true, plainKeys := false, apart := false }
def SnapshotKeepsSaid : Prop := snapshotKeepsRow.holds Try.pinned (OpenSpec.ofChange snapshotKeepsSpec)

/-- ITS FALSE NEIGHBOUR: 'it returns false'. Refute it at one input. -/
def snapshotKeepsWrong : ChangeSpec := { name := "snapshotKeeps", fn := fun _ => fun
  | [d] => { results := [.lit (.bool false)], args := [d] }
  | _ => none }
def SnapshotKeepsWrongFalsely : Prop := snapshotKeepsRow.holds Try.pinned (OpenSpec.ofChange snapshotKeepsWrong)

/-- 'standbylaw36.SnapshotReverts': WHATEVER THE INPUT: true; the input reads as it did. -/
def snapshotRevertsSpec : ChangeSpec := { name := "snapshotReverts", fn := fun _ => fun
  | [d1, d2] => { results := [.lit (.bool true)], args := [d1, d2] }
  | _ => none }
def snapshotRevertsRow : OpenClaim := { program := "ytgmeghandjkkcaa", sum := "c8a9cbba33c6f038e3e6b9c7d21b973252b39fa704de1a1bcb8b29f453baad6d", func := "standby/standbylaw36.SnapshotReverts", spec := "snapshotReverts", unfollowed := true, recurses := true, plainKeys := false, apart := false }
def SnapshotRevertsSaid : Prop := snapshotRevertsRow.holds Try.pinned (OpenSpec.ofChange snapshotRevertsSpec)

/-- ITS FALSE NEIGHBOUR: 'it returns false'. Refute it at one input. -/
def snapshotRevertsWrong : ChangeSpec := { name := "snapshotReverts", fn := fun _ => fun
  | [d1, d2] => { results := [.lit (.bool false)], args := [d1, d2] }
  | _ => none }
def SnapshotRevertsWrongFalsely : Prop := snapshotRevertsRow.holds Try.pinned (OpenSpec.ofChange snapshotRevertsWrong)

/-- 'standbylaw36.SnapshotSaves': WHATEVER THE INPUT: true; the input reads as it did. -/
def snapshotSavesSpec : ChangeSpec := { name := "snapshotSaves", fn := fun _ => fun
  | [d] => { results := [.lit (.bool true)], args := [d] }
  | _ => none }
def snapshotSavesRow : OpenClaim := { program := "ytgmeghandjkkcaa", sum := "c8a9cbba33c6f038e3e6b9c7d21b973252b39fa704de1a1bcb8b29f453baad6d", func := "standby/standbylaw36.SnapshotSaves", spec := "snapshotSaves", unfollowed := true, recurses := true, plainKeys := false, apart := false }
def SnapshotSavesSaid : Prop := snapshotSavesRow.holds Try.pinned (OpenSpec.ofChange snapshotSavesSpec)

/-- ITS FALSE NEIGHBOUR: 'it returns false'. Refute it at one input. -/
def snapshotSavesWrong : ChangeSpec := { name := "snapshotSaves", fn := fun _ => fun
  | [d] => { results := [.lit (.bool false)], args := [d] }
  | _ => none }
def SnapshotSavesWrongFalsely : Prop := snapshotSavesRow.holds Try.pinned (OpenSpec.ofChange snapshotSavesWrong)

/- THE SECOND FORM. 'bulk': how many values and letters a reading holds, each counted each time it is reached (what is shared counts as often as it is met; a slice's spare places count too). A statement '..UptoSaid' is the law's where the arguments, and the package variables that the reading takes, are together of bulk at most 1048576: NARROWER than '..Said'. Prove '..Said' where nothing that the law and all that it calls make is longer than what came in: it says more and counts as full. Else prove '..UptoSaid'. A law counts once. -/
mutual
def uptoBulk {H : Type} : DataW H → Nat
  | .lit (.string bytes) => bytes.length + 1
  | .lit _ => 1
  | .nil => 1
  | .ptr d => uptoBulk d + 1
  | .slice elems spare => uptoBulkAll elems + uptoBulkAll spare + 1
  | .agg parts => uptoBulkAll parts + 1
  | .iface _ d => uptoBulk d + 1
  | .map entries => uptoBulkEntries entries + 1
  | .held _ => 1
def uptoBulkAll {H : Type} : List (DataW H) → Nat
  | [] => 0
  | d :: r => uptoBulk d + uptoBulkAll r
def uptoBulkEntries {H : Type} : List (Lit × DataW H) → Nat
  | [] => 0
  | x :: r => uptoBulkEntry x + uptoBulkEntries r
def uptoBulkEntry {H : Type} : Lit × DataW H → Nat
  | (.string bytes, d) => bytes.length + uptoBulk d + 1
  | (_, d) => uptoBulk d + 1
 end
def uptoSmall : (H : Type) → List (DataW H) → Bool := fun _ ds => decide (uptoBulkAll ds ≤ 1048576)
def OpenSpec.upto (s : _root_.Go.ChangeSpec) : _root_.Go.OpenSpec := { _root_.Go.OpenSpec.ofChange s with cond := some uptoSmall }

/-- 'standbylaw36.SnapshotChecks', WHERE WHAT IT READS IS OF BULK AT MOST 1048576: true; the input reads as it did. -/
def snapshotChecksUptoRow : OpenClaim := { program := "ytgmeghandjkkcaa", sum := "c8a9cbba33c6f038e3e6b9c7d21b973252b39fa704de1a1bcb8b29f453baad6d", func := "standby/standbylaw36.SnapshotChecks", spec := "snapshotChecks", unfollowed := true, recurses := true, plainKeys := false, apart := false, narrowed := true }
def SnapshotChecksUptoSaid : Prop := snapshotChecksUptoRow.holds Try.pinned (OpenSpec.upto snapshotChecksSpec)

/-- 'standbylaw36.SnapshotKeeps', WHERE WHAT IT READS IS OF BULK AT MOST 1048576: true; the input reads as it did. -/
def snapshotKeepsUptoRow : OpenClaim := { program := "ytgmeghandjkkcaa", sum := "c8a9cbba33c6f038e3e6b9c7d21b973252b39fa704de1a1bcb8b29f453baad6d", func := "standby/standbylaw36.SnapshotKeeps", spec := "snapshotKeeps", unfollowed := true, recurses := true, plainKeys := false, apart := false, narrowed := true }
def SnapshotKeepsUptoSaid : Prop := snapshotKeepsUptoRow.holds Try.pinned (OpenSpec.upto snapshotKeepsSpec)

/-- 'standbylaw36.SnapshotReverts', WHERE WHAT IT READS IS OF BULK AT MOST 1048576: true; the input reads as it did. -/
def snapshotRevertsUptoRow : OpenClaim := { program := "ytgmeghandjkkcaa", sum := "c8a9cbba33c6f038e3e6b9c7d21b973252b39fa704de1a1bcb8b29f453baad6d", func := "standby/standbylaw36.SnapshotReverts", spec := "snapshotReverts", unfollowed := true, recurses := true, plainKeys := false, apart := false, narrowed := true }
def SnapshotRevertsUptoSaid : Prop := snapshotRevertsUptoRow.holds Try.pinned (OpenSpec.upto snapshotRevertsSpec)

/-- 'standbylaw36.SnapshotSaves', WHERE WHAT IT READS IS OF BULK AT MOST 1048576: true; the input reads as it did. -/
def snapshotSavesUptoRow : OpenClaim := { program := "ytgmeghandjkkcaa", sum := "c8a9cbba33c6f038e3e6b9c7d21b973252b39fa704de1a1bcb8b29f453baad6d", func := "standby/standbylaw36.SnapshotSaves", spec := "snapshotSaves", unfollowed := true, recurses := true, plainKeys := false, apart := false, narrowed := true }
def SnapshotSavesUptoSaid : Prop := snapshotSavesUptoRow.holds Try.pinned (OpenSpec.upto snapshotSavesSpec)

end Rows
end Go.Proofs.Ytgmeghandjkkcaa
