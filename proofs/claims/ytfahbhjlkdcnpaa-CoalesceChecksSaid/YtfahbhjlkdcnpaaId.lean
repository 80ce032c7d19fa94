/-
  The walk of Check (the program), and of the law CoalesceChecks.
-/
import Derived.Test.YtfahbhjlkdcnpaaIc
import Derived.Test.YtfahbhjlkdcnpaaLa
set_option linter.unusedVariables false
set_option linter.unusedSimpArgs false
set_option linter.unusedSectionVars false
set_option linter.unnecessarySimpa false
namespace Go.Proofs.Ytfahbhjlkdcnpaa
open Go.RowKit

set_option maxHeartbeats 2000000 in
theorem check_any (A Z : Option Addr) (c zc : Nat) (l : List Wr) (sz : List Int) (w : World) (h1 : SlAt encWr w (Bl w.heap.size) A l) (hs : l.length ≤ 9223372036854775807) (h2 : SlAt encInt w (Bl w.heap.size) Z sz) (hzl : sz.length ≤ 9223372036854775807) (r : Int) (hr : chkS l sz = r) :
    Calls Try.prog 19 #[.slice A l.length c, .slice Z sz.length zc] w fun e w' => e = .returned (.int .i64 r) ∧ Below w.heap.size w w' := by
  have HR := Lib.hid hr; clear hr
  have H1 := Lib.hid h1; clear h1
  obtain ⟨en, hen⟩ : ∃ en, Hid (sizesN sz = en) := ⟨_, Lib.hid rfl⟩
  obtain ⟨im, him⟩ : ∃ im, Hid (newL sz = im) := ⟨_, Lib.hid rfl⟩
  have hc := Lib.hid (imgNew_any Z zc sz w h2 hzl en hen.out im him.out)
  clear h2
  go_enter Try.func19, Try.ntmps19
  go_wp2_with fail
  refine hc.out.mono ?_
  rintro e w1 ⟨A1, c1, rfl, r1, r2, r3, hb1⟩
  have HS3 := Lib.hid (r3.more (fun _ h => h.2)); clear r1 r2 r3
  by_cases he : en = 0
  · have he1 : (en != 0) = false := by simp [he]
    have HE := Lib.hid he; clear he
    have hlens : lens im = sz := by
      rw [← him.out, newL, if_pos (hen.out.trans HE.out), lens, List.map_map]
      have hp := (sizes_range (hen.out.trans HE.out)).2
      have : ∀ x ∈ sz, (lenI ∘ zimg) x = x := fun x hx => by
        have := hp x hx
        simp only [Function.comp, lenI, zimg_len]; omega
      calc sz.map (lenI ∘ zimg) = sz.map id := List.map_congr_left this
        _ = sz := List.map_id _
    have HL := Lib.hid hlens; clear hlens
    have hB2 : Below w.heap.size w (w1.alloc (.cells #[.slice A1 im.length c1] 60)) := (by repeat (first | exact Below.refl _ _ | assumption | refine ext_alloc ?_ | refine ext_drew ?_ | refine ext_trans ?_ (by assumption)))
    have hk := Lib.hid (checkI_any A c l (w1.alloc (.cells #[.slice A1 im.length c1] 60)) (H1.out.fwd hB2) hs A1 c1 w1.heap.size im (heap_alloc_new _ _) (HS3.out.fwd (ext_alloc (Below.refl _ _))) (by rw [HL.out]; exact hen.out.trans HE.out) _ rfl)
    obtain ⟨k, hkk⟩ : ∃ k, Hid (chkN (fitsN (lens im)) l = k) := ⟨_, Lib.hid rfl⟩
    rw [hkk.out] at hk
    go_wp2_with fail
    refine hk.out.mono ?_
    rintro e w2 ⟨rfl, hb2⟩
    have hB3 : Below w.heap.size w w2 := (by repeat (first | exact Below.refl _ _ | assumption | refine ext_alloc ?_ | refine ext_drew ?_ | refine ext_trans ?_ (by assumption)))
    go_wp2
    go_ret
    refine ⟨ret_int ?_, hB3⟩
    rw [← HR.out, chkS, if_neg (by rw [hen.out, HE.out]; simp), ← hkk.out, HL.out]
  · have he1 : (en != 0) = true := by simp [he]
    have HE := Lib.hid he; clear he
    have hB2 : Below w.heap.size w (w1.alloc (.cells #[.slice A1 im.length c1] 60)) := (by repeat (first | exact Below.refl _ _ | assumption | refine ext_alloc ?_ | refine ext_drew ?_ | refine ext_trans ?_ (by assumption)))
    go_wp2
    go_ret
    refine ⟨ret_int ?_, hB2⟩
    rw [← HR.out, chkS, if_pos (by rw [hen.out]; exact HE.out), hen.out]
set_option maxHeartbeats 2000000 in
theorem checks_any (A Z : Option Addr) (c zc : Nat) (l : List Wr) (sz : List Int) (w : World) (h1 : SlAt encWr w (Bl w.heap.size) A l) (h2 : l.length ≤ c) (h3 : c ≤ maxLen) (h1' : SlAt encInt w (Bl w.heap.size) Z sz) (h2' : sz.length ≤ zc) (h3' : zc ≤ maxLen) :
    Calls Try.prog 7 #[.slice A l.length c, .slice Z sz.length zc] w (LawRet w) := by
  have H1 := Lib.hid h1; clear h1
  have H1' := Lib.hid h1'; clear h1'
  obtain ⟨q, HQ⟩ : ∃ q, Hid (fewL l = q) := ⟨_, Lib.hid rfl⟩
  have hl64 := max_len h2 h3
  have hm64 := max_len h2' h3'
  go_enter Try.func7, Try.ntmps7
  go_wp2_with fail
  refine (fewX _ _ _ _ q HQ.out H1.out hl64).mono ?_
  rintro e w' ⟨rfl, rfl⟩
  cases q with
  | false =>
    go_wp2_with fail
    refine (awake_any _).mono ?_
    rintro e w1 ⟨rfl, hb1⟩
    go_wp2
    go_ret
    exact ⟨rfl, hb1⟩
  | true =>
    by_cases h20 : 20 < sz.length
    · have h20' : decide ((20 : Int) < (sz.length : Int)) = true := by simp; omega
      go_wp2_with fail
      refine (awake_any _).mono ?_
      rintro e w1 ⟨rfl, hb1⟩
      go_wp2
      go_ret
      exact ⟨rfl, hb1⟩
    · have h20' : decide ((20 : Int) < (sz.length : Int)) = false := by simp; omega
      obtain ⟨r, hr⟩ : ∃ r, Hid (chkS l sz = r) := ⟨_, Lib.hid rfl⟩
      go_wp2_with fail
      refine (check_any A Z c zc l sz w' H1.out hl64 H1'.out hm64 r hr.out).mono ?_
      rintro e w1 ⟨rfl, hb1⟩
      go_wp2_with fail
      refine (refCheck_any A Z c zc l sz w1 (H1.out.fwd hb1) hl64 (H1'.out.fwd hb1) hm64 r hr.out).mono ?_
      rintro e w2 ⟨rfl, hb2⟩
      go_wp2_with fail
      refine (awake_any _).mono ?_
      rintro e w3 ⟨rfl, hb3⟩
      have hend : Below w'.heap.size w' w3 := (by repeat (first | exact Below.refl _ _ | assumption | refine ext_alloc ?_ | refine ext_drew ?_ | refine ext_trans ?_ (by assumption)))
      go_wp2
      go_ret
      exact ⟨rfl, hend⟩
end Go.Proofs.Ytfahbhjlkdcnpaa
