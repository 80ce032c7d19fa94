/-
  The walks of Few, FitsSizes, Most, holds, Sectors, Sizes.
-/
import Derived.Test.YtfahbhjlkdcnpaaMap
set_option linter.unusedVariables false
set_option linter.unusedSimpArgs false
set_option linter.unusedSectionVars false
set_option linter.unnecessarySimpa false
namespace Go.Proofs.Ytfahbhjlkdcnpaa
open Go.RowKit

def fewL (l : List Wr) : Bool := l.length ≤ 40 && (l.all fun x => x.2.2.length ≤ 24)
theorem few_any (A : Option Addr) (c : Nat) (S : Nat → Prop) (l : List Wr) (w : World) (h1 : SlAt encWr w S A l) (hs : l.length ≤ 9223372036854775807) :
    Calls Try.prog 12 #[.slice A l.length c] w fun e w' => e = .returned (.bool (fewL l)) ∧ w' = w := by
  go_enter Try.func12, Try.ntmps12
  go_wp2
  go_loopw [3] (fun i wr => wr = w ∧ ∃ k : Nat, k ≤ l.length ∧ k ≤ 60 ∧ i = .int .i64 k ∧ Hid (∀ x ∈ l.take k, x.2.2.length ≤ 24)) (fun i _ => 60 - (intOf i).toNat)
  case atStart => exact ⟨rfl, 0, by omega, by omega, rfl, by simp [Hid]⟩
  case round =>
    obtain ⟨rfl, k, hk, hk2, rfl, hp⟩ := hrel
    have HP := Lib.hid hp.out; clear hp
    by_cases hlt : k < l.length
    · by_cases hlt2 : k < 60
      · obtain ⟨b, off, D, dc, rfl, hb, g0, g1, g2, hD, hn1, hn2, _, _⟩ := h1.wr hlt
        have hnn : (0 : Int) ≤ k := by omega
        have hki : (k : Int) < l.length := by omega
        have hki2 : (k : Int) < 60 := by omega
        unfold maxLen at hn2
        by_cases hd : l[k].2.2.length ≤ 24
        · have hd' : ((24 : Int) < (l[k].2.2.length : Int)) = False := by simp; omega
          have HDD := Lib.hid hd; clear hd
          go_wp2
          go_roundw
          case rel =>
            refine ⟨by trivial, k + 1, hlt, hlt2, by go_num, ?_⟩
            intro x hx
            rw [List.take_succ_eq_append_getElem hlt] at hx
            rcases List.mem_append.1 hx with hx | hx
            · exact HP.out x hx
            · rw [List.mem_singleton.1 hx]; exact HDD.out
          case measure => simp [intOf]; omega
        · have hd' : ((24 : Int) < (l[k].2.2.length : Int)) = True := by simp; omega
          have HDD := Lib.hid hd; clear hd
          go_wp2
          go_ret
          refine ⟨ret_bool ?_, rfl⟩
          rw [eq_comm, fewL, Bool.and_eq_false_iff]
          right
          rw [List.all_eq_false]
          exact ⟨l[k], List.getElem_mem hlt, by have := HDD.out; simpa using this⟩
      · have : ¬ ((k : Int) < 60) := by omega
        have hki : (k : Int) < l.length := by omega
        have hL : ¬ ((l.length : Int) ≤ 40) := by omega
        go_wp2
        go_ret
        refine ⟨ret_bool ?_, rfl⟩
        rw [eq_comm, fewL]
        simp
        omega
    · have hkk : k = l.length := by omega
      have HK := Lib.hid hkk
      have hki : ¬ ((k : Int) < l.length) := by omega
      clear hkk
      go_wp2
      go_ret
      refine ⟨ret_bool ?_, rfl⟩
      have h3 := HP.out
      rw [HK.out, List.take_length] at h3
      have : (l.all fun x => decide (x.2.2.length ≤ 24)) = true := List.all_eq_true.2 (fun x hx => by simpa using h3 x hx)
      simp [fewL, this]
      omega
/-- the sum of the numbers of sectors -/
def sectsL (l : List Wr) : Nat := (l.map (·.2.2.length)).sum
theorem sectsL_snoc (l : List Wr) (x : Wr) : sectsL (l ++ [x]) = sectsL l + x.2.2.length := by simp [sectsL]
theorem refSectors_any (A : Option Addr) (c : Nat) (S : Nat → Prop) (l : List Wr) (w : World) (h1 : SlAt encWr w S A l) (hs : l.length ≤ 9223372036854775807) (ht : sectsL l ≤ 9223372036854775807) :
    Calls Try.prog 31 #[.slice A l.length c] w fun e w' => e = .returned (.int .i64 (sectsL l)) ∧ w' = w := by
  have hmono : ∀ k, sectsL (l.take k) ≤ sectsL l := by
    intro k
    have := congrArg sectsL (List.take_append_drop k l)
    simp only [sectsL, List.map_append, List.sum_append] at this ⊢
    omega
  have HM := Lib.hid hmono; clear hmono
  go_enter Try.func31, Try.ntmps31
  go_wp2
  go_loopw [3, 4] (fun t i wr => wr = w ∧ ∃ k : Nat, k ≤ l.length ∧ i = .int .i64 k ∧ t = .int .i64 (sectsL (l.take k) : Nat)) (fun _ i _ => l.length - (intOf i).toNat)
  case atStart => exact ⟨rfl, 0, by omega, rfl, by simp [sectsL]⟩
  case round =>
    obtain ⟨rfl, k, hk, rfl, rfl⟩ := hrel
    by_cases hlt : k < l.length
    · obtain ⟨b, off, D, dc, rfl, hb, g0, g1, g2, hD, hn1, hn2, _, _⟩ := h1.wr hlt
      have hnn : (0 : Int) ≤ k := by omega
      have hki : (k : Int) < l.length := by omega
      have hb2 := HM.out (k + 1)
      have hsn : Hid (sectsL (l.take (k + 1)) = sectsL (l.take k) + l[k].2.2.length) := by
        rw [List.take_succ_eq_append_getElem hlt]; exact sectsL_snoc _ _
      have hb3 : sectsL (l.take k) + l[k].2.2.length ≤ 9223372036854775807 := by rw [← hsn.out]; omega
      clear hb2
      go_wp2
      go_roundw
      case rel => exact ⟨by trivial, k + 1, hlt, by go_num, by rw [hsn.out]; go_num⟩
      case measure => simp [intOf]; omega
    · have hkk : k = l.length := by omega
      subst hkk
      go_wp2
      go_ret
      exact ⟨ret_int (by rw [List.take_length]), rfl⟩
end Go.Proofs.Ytfahbhjlkdcnpaa
