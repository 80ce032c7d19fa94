/-
  The walks of FitsSizes, Most, holds, Sectors, Sizes.
-/
import Derived.Test.YtfahbhjlkdcnpaaMap
set_option linter.unusedVariables false
set_option linter.unusedSimpArgs false
set_option linter.unusedSectionVars false
set_option linter.unnecessarySimpa false
namespace Go.Proofs.Ytfahbhjlkdcnpaa
open Go.RowKit

def fitsN (sz : List Int) (x : Wr) : Int := if x.1 < 0 ∨ x.1 ≥ sz.length then 7 else if x.2.2.length = 0 then 1 else if x.2.1 < 0 ∨ x.2.1 ≥ sz.getD x.1.toNat 0 ∨ x.2.2.length > sz.getD x.1.toNat 0 - x.2.1 then 2 else 0

section
variable {sz : List Int} {k : Nat} {s : Int} {data : List Sec}
theorem fitsN_7 {v : Int} (h : v < 0 ∨ sz.length ≤ v) : fitsN sz (v, s, data) = 7 := by unfold fitsN; exact if_pos h
theorem fitsN_1 (hk : k < sz.length) (h : data.length = 0) : fitsN sz ((k : Int), s, data) = 1 := by
  unfold fitsN; rw [if_neg (by simp; omega)]; exact if_pos h
theorem fitsN_2 (hk : k < sz.length) (h : data.length ≠ 0) (h2 : s < 0 ∨ sz[k] ≤ s ∨ sz[k] - s < data.length) : fitsN sz ((k : Int), s, data) = 2 := by
  have hg : sz.getD (k : Int).toNat 0 = sz[k] := by simp [hk]
  unfold fitsN
  simp only [hg]
  rw [if_neg (by omega), if_neg (by simpa using h), if_pos h2]
theorem fitsN_0 (hk : k < sz.length) (h : data.length ≠ 0) (h2 : ¬ (s < 0 ∨ sz[k] ≤ s ∨ sz[k] - s < data.length)) : fitsN sz ((k : Int), s, data) = 0 := by
  have hg : sz.getD (k : Int).toNat 0 = sz[k] := by simp [hk]
  unfold fitsN
  simp only [hg]
  rw [if_neg (by omega), if_neg (by simpa using h), if_neg h2]
end
theorem fits_any (A : Option Addr) (c : Nat) (S : Nat → Prop) (sz : List Int) (v s : Int) (D : Option Addr) (dc : Nat) (data : List Sec) (w : World) (h1 : SlAt encInt w S A sz) (hs : sz.length ≤ 9223372036854775807) (hS : ∀ b, S b → b < w.heap.size) (hn : data.length ≤ 9223372036854775807) (hv : I64 v) (hs2 : I64 s) :
    Calls Try.prog 40 #[.slice A sz.length c, .agg #[.int .i64 v, .int .i64 s, .slice D data.length dc]] w fun e w' => e = .returned (.int .i64 (fitsN sz (v, s, data))) ∧ Below w.heap.size w w' := by
  obtain ⟨hv1, hv2⟩ := hv
  obtain ⟨hs1, hs2⟩ := hs2
  by_cases c1 : v < 0 ∨ sz.length ≤ v
  · go_enter Try.func40, Try.ntmps40
    rcases c1 with c1 | c1
    · go_wp2
      go_ret
      exact ⟨ret_int (fitsN_7 (by omega)).symm, (Below.refl _ _).alloc (Nat.le_refl _) _⟩
    · have : ¬ v < 0 := by omega
      go_wp2
      go_ret
      exact ⟨ret_int (fitsN_7 (by omega)).symm, (Below.refl _ _).alloc (Nat.le_refl _) _⟩
  · have c2 : 0 ≤ v := by omega
    have c3 : v < sz.length := by omega
    obtain ⟨k, rfl⟩ := Int.eq_ofNat_of_zero_le c2
    have hk : k < sz.length := by omega
    obtain ⟨b, off, rfl, hb, hcell, hi1, hi2⟩ := h1.int hk
    have hlt := hS b hb
    clear c1
    by_cases c4 : data.length = 0
    · have c4' : ((data.length : Int) == 0) = true := by simp [c4]
      have C4 := Lib.hid c4; clear c4
      go_enter Try.func40, Try.ntmps40
      go_wp2
      go_ret
      exact ⟨ret_int (fitsN_1 hk C4.out).symm, (Below.refl _ _).alloc (Nat.le_refl _) _⟩
    · have c4' : ((data.length : Int) == 0) = false := by rw [beq_eq_false_iff_ne]; omega
      have C4 := Lib.hid c4
      go_enter Try.func40, Try.ntmps40
      by_cases d1 : s < 0
      · have d1' : decide (s < 0) = true := by simp [d1]
        go_wp2
        go_quiet (fail)
        go_wp2
        go_ret
        exact ⟨ret_int (fitsN_2 hk C4.out (by omega)).symm, bDrew ((Below.refl _ _).alloc (Nat.le_refl _) _) _⟩
      · have d1' : decide (s < 0) = false := by simp; omega
        by_cases d2 : sz[k] ≤ s
        · have d2' : decide (sz[k] ≤ s) = true := by simp [d2]
          go_wp2
          go_quiet (fail)
          go_wp2
          go_ret
          exact ⟨ret_int (fitsN_2 hk C4.out (by omega)).symm, bDrew ((Below.refl _ _).alloc (Nat.le_refl _) _) _⟩
        · have d2' : decide (sz[k] ≤ s) = false := by simp; omega
          by_cases d3 : sz[k] - s < data.length
          · have d3' : decide (sz[k] - s < (data.length : Int)) = true := by simp [d3]
            go_wp2
            go_quiet (fail)
            go_wp2
            go_ret
            exact ⟨ret_int (fitsN_2 hk C4.out (by omega)).symm, bDrew ((Below.refl _ _).alloc (Nat.le_refl _) _) _⟩
          · have d3' : decide (sz[k] - s < (data.length : Int)) = false := by simp; omega
            go_wp2
            go_quiet (fail)
            go_wp2
            go_ret
            exact ⟨ret_int (fitsN_0 hk C4.out (by omega)).symm, bDrew ((Below.refl _ _).alloc (Nat.le_refl _) _) _⟩
end Go.Proofs.Ytfahbhjlkdcnpaa
