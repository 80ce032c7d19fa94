/-
  slices.Equal over digests, slices.EqualFunc over levels.
-/
import Derived.Test.YthneomehfmjbkaaHl
set_option linter.unusedVariables false
set_option linter.unusedSimpArgs false
set_option linter.unusedSectionVars false
set_option linter.unnecessarySimpa false
namespace Go.Proofs.Ythneomehfmjbkaa
open Go.RowKit Go.Shelf
attribute [local go_sem] Oper.semAt_some

set_option maxHeartbeats 4000000 in
theorem eqU64_any (A A' : Option Addr) (c c' n n' : Nat) (S S' : Nat → Prop) (l m : List Int) (r : Bool) (w : World) (hn : l.length = n) (hn' : m.length = n') (hr : decide (l = m) = r) (h1 : SlAt encU64 w S A l) (h2 : SlAt encU64 w S' A' m) (hs : n ≤ 9223372036854775807) (ht : n' ≤ 9223372036854775807) :
    Calls Try.prog 32 #[.slice A n c, .slice A' n' c'] w fun e w' => e = .returned (.bool r) ∧ Drew w w' := by
  subst hn hn'
  have HR := Lib.hid hr; clear hr
  by_cases hl : l.length = m.length
  · have hl' : (((l.length : Nat) : Int) != (m.length : Int)) = false := by simp [hl]
    have HL := Lib.hid hl; clear hl
    go_enter Try.func32, Try.ntmps32
    go_wp2
    go_loopw [13] (fun i wr => ∃ k : Nat, k ≤ l.length ∧ i = .int .i64 k ∧ Drew w wr ∧ Hid (l.take k = m.take k)) (fun i _ => l.length - (intOf i).toNat)
    case atStart => exact ⟨0, by omega, rfl, Drew.refl _, by simp [Hid]⟩
    case round =>
      obtain ⟨wo, rfl⟩ : ∃ wo : World, wo = wr := ⟨_, rfl⟩
      obtain ⟨k, hk, rfl, hd, hp⟩ := hrel
      replace h1 := h1.drew hd
      replace h2 := h2.drew hd
      by_cases hlt : k < l.length
      · have hlt2 : k < m.length := by have := HL.out; omega
        obtain ⟨b, off, rfl, _, g0, _, _⟩ := h1.u64 hlt
        obtain ⟨b', off', rfl, _, g0', _, _⟩ := h2.u64 hlt2
        have hnn : (0 : Int) ≤ k := by omega
        have hki : (k : Int) < l.length := by omega
        have hki2 : (k : Int) < m.length := by omega
        obtain ⟨x, hx⟩ : ∃ x, Hid (x = l[k]'hlt) := ⟨_, Lib.hid rfl⟩
        obtain ⟨y, hy⟩ : ∃ y, Hid (y = m[k]'hlt2) := ⟨_, Lib.hid rfl⟩
        rw [← hx.out] at g0
        rw [← hy.out] at g0'
        by_cases hxy : x = y
        · have hxy' : (x != y) = false := by simp [hxy]
          have HXY := Lib.hid hxy; clear hxy
          go_wp2_with fail
          go_quiet (fail)
          go_wp2
          go_roundw
          case rel => exact ⟨k + 1, hlt, by go_num, hd.step _, take_step hlt hlt2 hp.out (by rw [← hx.out, ← hy.out]; exact HXY.out)⟩
          case measure => simp [intOf]; omega
        · have hxy' : (x != y) = true := by simp [hxy]
          have hne : Hid (decide (l = m) = false) := by
            rw [Hid, decide_eq_false_iff_not]
            rintro rfl
            exact hxy (hx.out.trans hy.out.symm)
          clear hxy
          go_wp2_with fail
          go_quiet (fail)
          go_wp2
          go_ret
          rw [← HR.out, hne.out]
          exact ⟨rfl, hd.step _⟩
      · have hkk : k = l.length := by omega
        subst hkk
        go_wp2
        go_ret
        have e := hp.out
        rw [List.take_length, HL.out, List.take_length] at e
        rw [← HR.out]
        exact ⟨by simp [e], hd⟩
  · have hl' : (((l.length : Nat) : Int) != (m.length : Int)) = true := by simp; omega
    have hne : Hid (decide (l = m) = false) := by
      rw [Hid, decide_eq_false_iff_not]
      rintro rfl
      exact hl rfl
    clear hl
    go_enter Try.func32, Try.ntmps32
    go_wp2
    go_ret
    rw [← HR.out, hne.out]
    exact ⟨rfl, Drew.refl _⟩
set_option maxHeartbeats 4000000 in
theorem eqLevels_any (A A' : Option Addr) (c c' n n' : Nat) (S S' : Nat → Prop) (l m : List (List Int)) (r : Bool) (w : World) (hn : l.length = n) (hn' : m.length = n') (hr : decide (l = m) = r) (h1 : SlAt (encSl encU64) w S A l) (h2 : SlAt (encSl encU64) w S' A' m) (hs : n ≤ 9223372036854775807) (ht : n' ≤ 9223372036854775807) :
    Calls Try.prog 50 #[.slice A n c, .slice A' n' c', .func (.func 32) #[] #[]] w fun e w' => e = .returned (.bool r) ∧ Drew w w' := by
  subst hn hn'
  have HR := Lib.hid hr; clear hr
  by_cases hl : l.length = m.length
  · have hl' : (((l.length : Nat) : Int) != (m.length : Int)) = false := by simp [hl]
    have HL := Lib.hid hl; clear hl
    go_enter Try.func50, Try.ntmps50
    go_wp2
    go_loopw [17] (fun i wr => ∃ k : Nat, k ≤ l.length ∧ i = .int .i64 k ∧ Drew w wr ∧ Hid (l.take k = m.take k)) (fun i _ => l.length - (intOf i).toNat)
    case atStart => exact ⟨0, by omega, rfl, Drew.refl _, by simp [Hid]⟩
    case round =>
      obtain ⟨wo, rfl⟩ : ∃ wo : World, wo = wr := ⟨_, rfl⟩
      obtain ⟨k, hk, rfl, hd, hp⟩ := hrel
      replace h1 := h1.drew hd
      replace h2 := h2.drew hd
      by_cases hlt : k < l.length
      · have hlt2 : k < m.length := by have := HL.out; omega
        obtain ⟨b, off, D, dc, rfl, _, g0, hD, hd1, hd2⟩ := h1.sl hlt
        obtain ⟨b', off', D', dc', rfl, _, g0', hD', hd1', hd2'⟩ := h2.sl hlt2
        have hnn : (0 : Int) ≤ k := by omega
        have hki : (k : Int) < l.length := by omega
        have hki2 : (k : Int) < m.length := by omega
        obtain ⟨q, hq⟩ : ∃ q, Hid (decide (l[k]'hlt = m[k]'hlt2) = q) := ⟨_, Lib.hid rfl⟩
        have HE := Lib.hid (eqU64_any D D' dc dc' _ _ _ _ (l[k]'hlt) (m[k]'hlt2) q wo rfl rfl hq.out hD hD' (by unfold maxLen at hd2; omega) (by unfold maxLen at hd2'; omega))
        clear hD hD' hd1 hd2 hd1' hd2'
        go_wp2_with fail
        refine HE.out.mono ?_
        rintro e w1 ⟨rfl, hd1⟩
        clear HE
        cases q with
        | true =>
          go_wp2
          go_roundw
          case rel => exact ⟨k + 1, hlt, by go_num, hd.trans hd1, take_step hlt hlt2 hp.out (of_decide_eq_true hq.out)⟩
          case measure => simp [intOf]; omega
        | false =>
          have hne : Hid (decide (l = m) = false) := by
            rw [Hid, decide_eq_false_iff_not]
            rintro rfl
            exact of_decide_eq_false hq.out rfl
          go_wp2
          go_ret
          rw [← HR.out, hne.out]
          exact ⟨rfl, hd.trans hd1⟩
      · have hkk : k = l.length := by omega
        subst hkk
        go_wp2
        go_ret
        have e := hp.out
        rw [List.take_length, HL.out, List.take_length] at e
        rw [← HR.out]
        exact ⟨by simp [e], hd⟩
  · have hl' : (((l.length : Nat) : Int) != (m.length : Int)) = true := by simp; omega
    have hne : Hid (decide (l = m) = false) := by
      rw [Hid, decide_eq_false_iff_not]
      rintro rfl
      exact hl rfl
    clear hl
    go_enter Try.func50, Try.ntmps50
    go_wp2
    go_ret
    rw [← HR.out, hne.out]
    exact ⟨rfl, Drew.refl _⟩
end Go.Proofs.Ythneomehfmjbkaa
