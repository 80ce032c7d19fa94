/-
  The law's write: a list of one write.
  The reference's sizes of an image.
  The reference's copy of an image.
  The reference compares images.
-/
import Derived.Test.YtnkmklnlaepdeaaSn4
import Derived.Test.YtnkmklnlaepdeaaMap
set_option linter.unusedVariables false
set_option linter.unusedSimpArgs false
set_option linter.unusedSectionVars false
set_option linter.unnecessarySimpa false
namespace Go.Proofs.Ytnkmklnlaepdeaa
open Go.RowKit Go.Shelf
attribute [local go_sem] Oper.semAt_some

def sB (k : Int) : Sec := [k, 0, 0, 0, 0, 0, 0, 0]
theorem sB_ok {k : Int} (h : 0 ≤ k ∧ k < 256) : OkSec (sB k) := by
  refine ⟨rfl, fun x hx => ?_⟩
  simp [sB] at hx
  omega
theorem tySecs36 : SliceTy Try.prog 73 72 8 8 := sliceTy_mk (z := .agg #[.int .u8 0, .int .u8 0, .int .u8 0, .int .u8 0, .int .u8 0, .int .u8 0, .int .u8 0, .int .u8 0]) Try.underlying73 (by kernel_rfl) rfl (by decide)
def BytesAt (A : Option Addr) (bs : List Int) (w : World) (B : Nat) : Prop := ∀ k (hk : k < bs.length), ∃ b off, A = some ⟨b, off, none⟩ ∧ b < B ∧ w.cell? ⟨b, off + k, none⟩ = some (.int .u8 bs[k]) ∧ 0 ≤ bs[k] ∧ bs[k] < 256
end Go.Proofs.Ytnkmklnlaepdeaa

namespace Go.Proofs.Ytnkmklnlaepdeaa
open Go.RowKit Go.Shelf
attribute [local go_sem] Oper.semAt_some

end Go.Proofs.Ytnkmklnlaepdeaa

namespace Go.Proofs.Ytnkmklnlaepdeaa
open Go.RowKit Go.Shelf
attribute [local go_sem] Oper.semAt_some

end Go.Proofs.Ytnkmklnlaepdeaa

namespace Go.Proofs.Ytnkmklnlaepdeaa
open Go.RowKit Go.Shelf
attribute [local go_sem] Oper.semAt_some

theorem ne_at07 {l m : Img} {k : Nat} (h1 : k < l.length) (h2 : k < m.length) (h : l[k] ≠ m[k]) : (l == m) = false := by
  rw [beq_eq_false_iff_ne]; intro e; subst e; exact h rfl
end Go.Proofs.Ytnkmklnlaepdeaa
