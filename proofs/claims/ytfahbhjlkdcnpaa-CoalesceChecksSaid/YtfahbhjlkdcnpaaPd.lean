/-
  The walks of Most, holds, Sectors, Sizes, write.
-/
import Derived.Test.YtfahbhjlkdcnpaaMap
import Derived.Test.YtfahbhjlkdcnpaaLaws
set_option linter.unusedVariables false
set_option linter.unusedSimpArgs false
set_option linter.unusedSectionVars false
set_option linter.unnecessarySimpa false
namespace Go.Proofs.Ytfahbhjlkdcnpaa
open Go.RowKit

theorem tyInts : SliceTy Try.prog 38 3 1 8 := sliceTy_mk (z := .int .i64 0) Try.underlying38 (by kernel_rfl) rfl (by decide)
theorem tySecs : SliceTy Try.prog 33 53 8 8 := sliceTy_mk (z := .agg #[.int .u8 0, .int .u8 0, .int .u8 0, .int .u8 0, .int .u8 0, .int .u8 0, .int .u8 0, .int .u8 0]) Try.underlying33 (by kernel_rfl) rfl (by decide)
theorem tyWrs : SliceTy Try.prog 22 35 3 40 := sliceTy_mk (z := .agg #[.int .i64 0, .int .i64 0, .slice none 0 0]) Try.underlying22 (by kernel_rfl) rfl (by decide)

theorem most_any (w : World) :
    Calls Try.prog 41 #[] w (Ret (encSl encInt) (List.replicate 8 4096) w) := by
  go_enter Try.func41, Try.ntmps41
  go_wp2
  go_loopw [1, 2] (fun v i wr => ∃ k : Nat, k ≤ 8 ∧ i = .int .i64 k ∧ Below w.heap.size w wr ∧ Own encInt wr w.heap.size 3 (fun _ => False) v (List.replicate k 4096)) (fun _ i _ => 8 - (intOf i).toNat)
  case atStart => exact ⟨0, by omega, rfl, Below.refl _ _, Own.nil_⟩
  case round =>
    obtain ⟨k, hk, rfl, hb, hown⟩ := hrel
    by_cases hlt : k < 8
    · have hki : (k : Int) < 8 := by omega
      have hown1 := hown.alloc (fun _ h => h.elim) (.cells #[.int .i64 4096] 3)
      have HO := Lib.hid hown1; clear hown1
      have hsz := hb.size
      go_wp2_with (at_builtin; refine wpList_app1 (E := encInt) tyInts rfl _ _ rfl rfl HO.out 4096 [.int .i64 4096] rfl ⟨rfl, by unfold I64; omega⟩ (heap_alloc_new _ _) (fun _ h => h.elim) (by simp; omega) (by simp [maxLen]; omega) (by simp; omega) ?_; intro A c' w1 hown2 hg hat)
      go_roundw
      case rel =>
        refine ⟨k + 1, hlt, by go_num, ?_, ?_⟩
        · exact (hb.alloc hb.size _).grown hg (by have := hb.size; simp; omega) (fun g h => (hown.lt g h).1)
        · rw [List.replicate_succ']
          simpa using hown2
      case measure => simp [intOf]; omega
    · have hkk : k = 8 := by omega
      subst hkk
      go_wp2
      go_ret
      exact ⟨_, rfl, hown.rd (fun _ h => h.elim), hb⟩
end Go.Proofs.Ytfahbhjlkdcnpaa
