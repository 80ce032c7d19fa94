/-
  The walks of Sectors and Same.
-/
import Derived.Test.YtgmeghandjkkcaaGreatPl
import Derived.Test.YtgmeghandjkkcaaGreatEb
set_option linter.unusedVariables false
set_option linter.unusedSimpArgs false
set_option linter.unusedSectionVars false
set_option linter.unnecessarySimpa false
namespace Go.Proofs.YtgmeghandjkkcaaGreat
open Go.RowKit Go.ChangeMaps

theorem sectors_any (A : Option Addr) (c : Nat) (l : List Wr) (w : World) (h1 : SlAt encWr w (Bl w.heap.size) A l) (hs : l.length ≤ 9223372036854775807) (ht : sectsL l ≤ 9223372036854775807) :
    Calls Tryz.prog 61 #[.slice A l.length c] w fun e w' => e = .returned (.int .i64 (sectsL l)) ∧ Below w.heap.size w w' := by
  have H2 : Hid (∀ w', Below w.heap.size w w' → SlAt encWr w' (Bl w.heap.size) A l) := fun w' hb => h1.below hb
  clear h1
  have hmono : ∀ k, sectsL (l.take k) ≤ sectsL l := by
    intro k
    have := congrArg sectsL (List.take_append_drop k l)
    simp only [sectsL, List.map_append, List.sum_append] at this ⊢
    omega
  have HM := Lib.hid hmono; clear hmono
  go_enter Tryz.func61, Tryz.ntmps61
  go_wp2
  go_loopw [3, 8] (fun t i wr => ∃ k : Nat, k ≤ l.length ∧ i = .int .i64 k ∧ t = .int .i64 (sectsL (l.take k) : Nat) ∧ Below w.heap.size w wr) (fun _ i _ => l.length - (intOf i).toNat)
  case atStart => exact ⟨0, by omega, rfl, by simp [sectsL], Below.refl _ _⟩
  case round =>
    obtain ⟨k, hk, rfl, rfl, hB⟩ := hrel
    by_cases hlt : k < l.length
    · obtain ⟨b, off, D, dc, rfl, hb, g0, g1, g2, hD, hn1, hn2, _, _⟩ := (H2.out wr hB).wr hlt
      have hnn : (0 : Int) ≤ k := by omega
      have hki : (k : Int) < l.length := by omega
      have hb2 := HM.out (k + 1)
      have hsn : Hid (sectsL (l.take (k + 1)) = sectsL (l.take k) + l[k].2.2.length) := by
        rw [List.take_succ_eq_append_getElem hlt]; exact sectsL_snoc _ _
      have hb3 : sectsL (l.take k) + l[k].2.2.length ≤ 9223372036854775807 := by rw [← hsn.out]; omega
      clear hb2
      go_wp2
      go_roundw
      case rel => exact ⟨k + 1, hlt, by go_num, by rw [hsn.out]; go_num, hB.alloc hB.size _⟩
      case measure => simp [intOf]; omega
    · have hkk : k = l.length := by omega
      subst hkk
      go_wp2
      go_ret
      exact ⟨ret_int (by rw [List.take_length]), hB⟩
theorem same_any (A A' : Option Addr) (c c' : Nat) (S S' : Nat → Prop) (l m : List Wr) (w : World) (h1 : SlAt encWr w S A l) (h2 : SlAt encWr w S' A' m) (hs : l.length ≤ 9223372036854775807) (ht : m.length ≤ 9223372036854775807) (q : Bool) (hq : (l == m) = q) :
    Calls Tryz.prog 32 #[.slice A l.length c, .slice A' m.length c'] w fun e w' => e = .returned (.bool q) ∧ Below w.heap.size w w' := by
  have hc := Lib.hid (sameWrs_any A A' c c' S S' l m w h1 h2 hs ht)
  rw [hq] at hc
  have HQ := Lib.hid hq; clear hq h1 h2
  go_enter Tryz.func32, Tryz.ntmps32
  go_wp2_with fail
  refine hc.out.mono ?_
  rintro e w1 ⟨rfl, hd⟩
  go_wp2
  go_ret
  exact ⟨rfl, hd.below _⟩

end Go.Proofs.YtgmeghandjkkcaaGreat
