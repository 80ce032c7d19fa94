/-
  The walks of write, Sectors, Same, within, Contains and what they call.
-/
import Derived.Test.YtfahbhjlkdcnpaaRb
set_option linter.unusedVariables false
set_option linter.unusedSimpArgs false
set_option linter.unusedSectionVars false
set_option linter.unnecessarySimpa false
namespace Go.Proofs.Ytfahbhjlkdcnpaa
open Go.RowKit Go.ChangeMaps

theorem sectors_any (A : Option Addr) (c : Nat) (l : List Wr) (w : World) (h1 : SlAt encWr w (Bl w.heap.size) A l) (hs : l.length ≤ 9223372036854775807) (ht : sectsL l ≤ 9223372036854775807) :
    Calls Try.prog 25 #[.slice A l.length c] w fun e w' => e = .returned (.int .i64 (sectsL l)) ∧ Below w.heap.size w w' := by
  have H2 : Hid (∀ w', Below w.heap.size w w' → SlAt encWr w' (Bl w.heap.size) A l) := fun w' hb => h1.below hb
  clear h1
  have hmono : ∀ k, sectsL (l.take k) ≤ sectsL l := by
    intro k
    have := congrArg sectsL (List.take_append_drop k l)
    simp only [sectsL, List.map_append, List.sum_append] at this ⊢
    omega
  have HM := Lib.hid hmono; clear hmono
  go_enter Try.func25, Try.ntmps25
  go_wp2
  go_loopw [3, 8] (fun t i wr => ∃ k : Nat, k ≤ l.length ∧ i = .int .i64 k ∧ t = .int .i64 (sectsL (l.take k) : Nat) ∧ Below w.heap.size w wr) (fun _ i _ => l.length - (intOf i).toNat)
  case atStart => exact ⟨0, by omega, rfl, by simp [sectsL], Below.refl _ _⟩
  case round =>
    obtain ⟨k, hk, rfl, rfl, hB⟩ := hrel
    by_cases hlt : k < l.length
    · obtain ⟨b, off, D, dc, rfl, hb, g0, g1, g2, hD, hn1, hn2, _, _⟩ := (H2.out wr hB).wr hlt
      have hnn : (0 : Int) ≤ k := by omega
      have hki : (k : Int) < l.length := by omega
      have hb2 := HM.out (k + 1)
      have hsn : Hid (sectsL (l.take (k + 1)) = sectsL (l.take k) + l[k].2.2.length) := by
        rw [List.take_succ_eq_append_getElem hlt]; exact sectsL_snoc _ _
      have hb3 : sectsL (l.take k) + l[k].2.2.length ≤ 9223372036854775807 := by rw [← hsn.out]; omega
      clear hb2
      go_wp2
      go_roundw
      case rel => exact ⟨k + 1, hlt, by go_num, by rw [hsn.out]; go_num, hB.alloc hB.size _⟩
      case measure => simp [intOf]; omega
    · have hkk : k = l.length := by omega
      subst hkk
      go_wp2
      go_ret
      exact ⟨ret_int (by rw [List.take_length]), hB⟩
theorem same_any (A A' : Option Addr) (c c' : Nat) (S S' : Nat → Prop) (l m : List Wr) (w : World) (h1 : SlAt encWr w S A l) (h2 : SlAt encWr w S' A' m) (hs : l.length ≤ 9223372036854775807) (ht : m.length ≤ 9223372036854775807) (q : Bool) (hq : (l == m) = q) :
    Calls Try.prog 16 #[.slice A l.length c, .slice A' m.length c'] w fun e w' => e = .returned (.bool q) ∧ Below w.heap.size w w' := by
  have hc := Lib.hid (sameWrs_any A A' c c' S S' l m w h1 h2 hs ht)
  rw [hq] at hc
  have HQ := Lib.hid hq; clear hq h1 h2
  go_enter Try.func16, Try.ntmps16
  go_wp2_with fail
  refine hc.out.mono ?_
  rintro e w1 ⟨rfl, hd⟩
  go_wp2
  go_ret
  exact ⟨rfl, hd.below _⟩

def withinN (e : Ext) : Prop := 0 < e.2 ∧ e.1 < 4096 ∧ 0 < e.1 + e.2
/-- what within returns: the part of an extent in 0 to 4096 -/
def WithinRet (e0 : Ext) (w : World) (e : Ending) (w' : World) : Prop :=
  ∃ f t q, e = .returned (.tuple #[.int .i64 f, .int .i64 t, .bool q]) ∧ (q = true ↔ f < t) ∧ 0 ≤ f ∧ t ≤ 4096 ∧ (q = true → ∀ x : Int, (f ≤ x ∧ x < t) ↔ (0 ≤ x ∧ x < 4096 ∧ e0.1 ≤ x ∧ x < e0.1 + e0.2)) ∧ (q = false → ∀ x : Int, ¬ (0 ≤ x ∧ x < 4096 ∧ e0.1 ≤ x ∧ x < e0.1 + e0.2)) ∧ Below w.heap.size w w'
theorem WithinRet.mk {s n f t : Int} {q : Bool} {w w' : World} (hq : q = decide (f < t)) (hf : 0 ≤ f) (ht : t ≤ 4096) (h : ∀ x : Int, (f ≤ x ∧ x < t) ↔ (0 ≤ x ∧ x < 4096 ∧ s ≤ x ∧ x < s + n)) (hb : Below w.heap.size w w') :
    WithinRet (s, n) w (.returned (.tuple #[.int .i64 f, .int .i64 t, .bool q])) w' := by
  subst hq
  refine ⟨f, t, _, rfl, by simp, hf, ht, fun _ => h, fun hq x hx => ?_, hb⟩
  have := (h x).2 hx
  have h2 : ¬ f < t := by simpa using hq
  omega
theorem within_any (s n : Int) (w : World) (hs : I64 s) (hn : I64 n) : Calls Try.prog 62 #[.agg #[.int .i64 s, .int .i64 n]] w (WithinRet (s, n) w) := by
  obtain ⟨hs1, hs2⟩ := hs
  obtain ⟨hn1, hn2⟩ := hn
  have hb1 : Hid (∀ o, Below w.heap.size w (w.alloc o)) := fun o => (Below.refl _ _).alloc (Nat.le_refl _) o
  by_cases c1 : n ≤ 0
  · go_enter Try.func62, Try.ntmps62
    go_wp2
    go_ret3
    exact WithinRet.mk (by simp) (by omega) (by omega) (fun x => by omega) (hb1.out _)
  · by_cases c2 : s < 0
    · by_cases c3 : s + n ≤ 4096
      · go_enter Try.func62, Try.ntmps62
        go_wp2
        go_ret3
        exact WithinRet.mk rfl (by omega) (by omega) (fun x => by omega) (hb1.out _)
      · go_enter Try.func62, Try.ntmps62
        go_wp2
        go_ret3
        exact WithinRet.mk rfl (by omega) (by omega) (fun x => by omega) (hb1.out _)
    · by_cases c3 : n < 4096 - s
      · go_enter Try.func62, Try.ntmps62
        go_wp2
        all_goals go_ret3
        all_goals exact WithinRet.mk rfl (by omega) (by omega) (fun x => by omega) (hb1.out _)
      · go_enter Try.func62, Try.ntmps62
        go_wp2
        all_goals go_ret3
        all_goals exact WithinRet.mk rfl (by omega) (by omega) (fun x => by omega) (hb1.out _)
end Go.Proofs.Ytfahbhjlkdcnpaa
