/-
  The walks of the laws CoalesceFolds and CoalesceMerges.
-/
import Derived.Test.YtfahbhjlkdcnpaaSi
import Derived.Test.YtfahbhjlkdcnpaaTb
set_option linter.unusedVariables false
set_option linter.unusedSimpArgs false
set_option linter.unusedSectionVars false
set_option linter.unnecessarySimpa false
namespace Go.Proofs.Ytfahbhjlkdcnpaa
open Go.RowKit Go.ChangeMaps

theorem fewX (A : Option Addr) (c : Nat) (l : List Wr) (w : World) (q : Bool) (hq : fewL l = q) (h1 : SlAt encWr w (Bl w.heap.size) A l) (hs : l.length ≤ 9223372036854775807) :
    Calls Try.prog 12 #[.slice A l.length c] w fun e w' => e = .returned (.bool q) ∧ w' = w := by
  subst hq
  exact few_any A c _ l w h1 hs
theorem few_len {l : List Wr} (h : fewL l = true) : l.length ≤ 40 := by
  simp [fewL] at h; exact h.1
theorem max_len {n c : Nat} (h1 : n ≤ c) (h2 : c ≤ maxLen) : n ≤ 9223372036854775807 := by unfold maxLen at h2; omega
set_option maxHeartbeats 2000000 in
theorem folds_any (A : Option Addr) (c : Nat) (l : List Wr) (w : World) (h1 : SlAt encWr w (Bl w.heap.size) A l) (h2 : l.length ≤ c) (h3 : c ≤ maxLen) :
    Calls Try.prog 3 #[.slice A l.length c] w (LawRet w) := by
  have H1 := Lib.hid h1; clear h1
  obtain ⟨q, hq⟩ : ∃ q, Hid (fewL l = q) := ⟨_, Lib.hid rfl⟩
  have HQ := hq; clear hq
  have hl64 := max_len h2 h3
  go_enter Try.func3, Try.ntmps3
  go_wp2_with fail
  refine (fewX _ _ _ _ q HQ.out H1.out hl64).mono ?_
  rintro e w' ⟨rfl, rfl⟩
  cases q with
  | false =>
    go_wp2_with fail
    refine (awake_any _).mono ?_
    rintro e w1 ⟨rfl, hb1⟩
    go_wp2
    go_ret
    exact ⟨rfl, hb1⟩
  | true =>
    obtain ⟨r, hr⟩ : ∃ r, Hid (foldL l = r) := ⟨_, Lib.hid rfl⟩
    obtain ⟨en, hen⟩ : ∃ en, Hid (errOf placedN l = en) := ⟨_, Lib.hid rfl⟩
    have hF := Lib.hid (fold_any A c l w' H1.out hl64)
    rw [hr.out, hen.out] at hF
    go_wp2_with fail
    refine (hF.out.mono fun _ _ h => h.bl).mono ?_
    rintro e w1 ⟨A1, c1, rfl, hs1, hb1⟩
    have HS1 := Lib.hid hs1; clear hs1
    go_wp2_with fail
    refine ((refFoldX A c _ l r en rfl hr.out hen.out w1 (H1.out.fwd hb1) hl64).mono fun _ _ h => h.bl).mono ?_
    rintro e w2 ⟨A2, c2, rfl, hs2, hb2⟩
    have HS2 := Lib.hid hs2; clear hs2
    go_wp2_with fail
    refine (sameX _ _ _ _ _ _ r r rfl rfl _ (HS1.out.2.2.fwd hb2) HS2.out.2.2 (max_len HS1.out.1 HS1.out.2.1) (max_len HS2.out.1 HS2.out.2.1) rfl).mono ?_
    rintro e w3 ⟨rfl, hb3⟩
    go_wp2_with fail
    refine (awake_any _).mono ?_
    rintro e w4 ⟨rfl, hb4⟩
    have hend : Below w'.heap.size w' w4 := (by repeat (first | exact Below.refl _ _ | assumption | refine ext_alloc ?_ | refine ext_drew ?_ | refine ext_trans ?_ (by assumption)))
    go_wp2
    go_ret
    exact ⟨rfl, hend⟩
set_option maxHeartbeats 2000000 in
theorem merges_any (A A' : Option Addr) (c c' : Nat) (l m : List Wr) (w : World) (h1 : SlAt encWr w (Bl w.heap.size) A l) (h2 : l.length ≤ c) (h3 : c ≤ maxLen) (h1' : SlAt encWr w (Bl w.heap.size) A' m) (h2' : m.length ≤ c') (h3' : c' ≤ maxLen) :
    Calls Try.prog 4 #[.slice A l.length c, .slice A' m.length c'] w (LawRet w) := by
  have H1 := Lib.hid h1; clear h1
  have H1' := Lib.hid h1'; clear h1'
  obtain ⟨q, HQ⟩ : ∃ q, Hid (fewL l = q) := ⟨_, Lib.hid rfl⟩
  obtain ⟨q', HQ'⟩ : ∃ q, Hid (fewL m = q) := ⟨_, Lib.hid rfl⟩
  have hl64 := max_len h2 h3
  have hm64 := max_len h2' h3'
  go_enter Try.func4, Try.ntmps4
  go_wp2_with fail
  refine (fewX _ _ _ _ q HQ.out H1.out hl64).mono ?_
  rintro e w' ⟨rfl, rfl⟩
  cases q with
  | false =>
    go_wp2_with fail
    refine (awake_any _).mono ?_
    rintro e w1 ⟨rfl, hb1⟩
    go_wp2
    go_ret
    exact ⟨rfl, hb1⟩
  | true =>
    go_wp2_with fail
    refine (fewX _ _ _ _ q' HQ'.out H1'.out hm64).mono ?_
    rintro e w' ⟨rfl, rfl⟩
    cases q' with
    | false =>
      go_wp2_with fail
      refine (awake_any _).mono ?_
      rintro e w1 ⟨rfl, hb1⟩
      go_wp2
      go_ret
      exact ⟨rfl, hb1⟩
    | true =>
      have k1 := few_len HQ.out
      have k2 := few_len HQ'.out
      obtain ⟨r, hr⟩ : ∃ r, Hid (mergeL l m = r) := ⟨_, Lib.hid rfl⟩
      obtain ⟨en, hen⟩ : ∃ en, Hid (mergeErr l m = en) := ⟨_, Lib.hid rfl⟩
      have hF := Lib.hid (merge_any A A' c c' l m w' H1.out H1'.out h2 h3 h2' h3' (by omega))
      rw [hr.out, hen.out] at hF
      go_wp2_with fail
      refine (hF.out.mono fun _ _ h => h.bl).mono ?_
      rintro e w1 ⟨A1, c1, rfl, hs1, hb1⟩
      have HS1 := Lib.hid hs1; clear hs1
      have hG := Lib.hid (refMerge_any A A' c c' l m w1 (H1.out.fwd hb1) (H1'.out.fwd hb1) (by omega))
      rw [hr.out, hen.out] at hG
      go_wp2_with fail
      refine (hG.out.mono fun _ _ h => h.bl).mono ?_
      rintro e w2 ⟨A2, c2, rfl, hs2, hb2⟩
      have HS2 := Lib.hid hs2; clear hs2
      go_wp2_with fail
      refine (sameX _ _ _ _ _ _ r r rfl rfl _ (HS1.out.2.2.fwd hb2) HS2.out.2.2 (max_len HS1.out.1 HS1.out.2.1) (max_len HS2.out.1 HS2.out.2.1) rfl).mono ?_
      rintro e w3 ⟨rfl, hb3⟩
      go_wp2_with fail
      refine (awake_any _).mono ?_
      rintro e w4 ⟨rfl, hb4⟩
      have hend : Below w'.heap.size w' w4 := (by repeat (first | exact Below.refl _ _ | assumption | refine ext_alloc ?_ | refine ext_drew ?_ | refine ext_trans ?_ (by assumption)))
      go_wp2
      go_ret
      exact ⟨rfl, hend⟩
end Go.Proofs.Ytfahbhjlkdcnpaa
