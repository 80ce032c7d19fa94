/-
  slices.Equal over sectors.
-/
import Derived.Test.YtnkmklnlaepdeaaCb
import Derived.BigQuiet
set_option linter.unusedVariables false
set_option linter.unusedSimpArgs false
set_option linter.unusedSectionVars false
set_option linter.unnecessarySimpa false
namespace Go.Proofs.Ytnkmklnlaepdeaa
open Go.RowKit

set_option maxHeartbeats 400000 in
theorem eqSecs_any (A A' : Option Addr) (c c' : Nat) (S S' : Nat → Prop) (ss ts : List Sec) (w : World) (h1 : SlAt encSec w S A ss) (h2 : SlAt encSec w S' A' ts) (hs : ss.length ≤ 9223372036854775807) (ht : ts.length ≤ 9223372036854775807) :
    Calls Try.prog 46 #[.slice A ss.length c, .slice A' ts.length c'] w fun e w' => e = .returned (.bool (ss == ts)) ∧ Drew w w' := by
  by_cases hl : ss.length = ts.length
  · have hl' : (((ss.length : Nat) : Int) != (ts.length : Int)) = false := by simp [hl]
    have HL := Lib.hid hl; clear hl
    go_enter Try.func46, Try.ntmps46
    go_wp2
    go_loopw [13] (fun i wr => ∃ k : Nat, k ≤ ss.length ∧ i = .int .i64 k ∧ Drew w wr ∧ Hid (ss.take k = ts.take k)) (fun i _ => ss.length - (intOf i).toNat)
    case atStart => exact ⟨0, by omega, rfl, Drew.refl _, by simp [Hid]⟩
    case round =>
      obtain ⟨k, hk, rfl, hd, hp⟩ := hrel
      replace h1 := h1.drew hd
      replace h2 := h2.drew hd
      by_cases hlt : k < ss.length
      · have hlt2 : k < ts.length := by have := HL.out; omega
        obtain ⟨b, off, x0, x1, x2, x3, x4, x5, x6, x7, rfl, hb, hx, _, g0, g1, g2, g3, g4, g5, g6, g7⟩ := h1.sec hlt
        obtain ⟨b', off', y0, y1, y2, y3, y4, y5, y6, y7, rfl, hb', hy, _, k0, k1, k2, k3, k4, k5, k6, k7⟩ := h2.sec hlt2
        have HX := Lib.hid hx; clear hx
        have HY := Lib.hid hy; clear hy
        have hnn : (0 : Int) ≤ k := by omega
        have hki : (k : Int) < ss.length := by omega
        have hki2 : (k : Int) < ts.length := by omega
        have hq := fun W => run_eq_sec W x0 x1 x2 x3 x4 x5 x6 x7 y0 y1 y2 y3 y4 y5 y6 y7
        generalize hqq : ([x0, x1, x2, x3, x4, x5, x6, x7] == [y0, y1, y2, y3, y4, y5, y6, y7]) = q at hq
        have HQ := Lib.hid hqq; clear hqq
        go_wp2
        go_quiet (fail)
        cases q with
        | true =>
          go_wp2
          go_roundw
          case rel => exact ⟨k + 1, hlt, by go_num, hd.step _, take_succ_eq _ _ _ hlt hlt2 hp (by rw [HX.out, HY.out]; exact eq_of_beq HQ.out)⟩
          case measure => simp [intOf]; omega
        | false =>
          go_wp2
          go_ret
          refine ⟨ret_bool ?_, hd.step _⟩
          rw [eq_comm, beq_eq_false_iff_ne]
          intro e
          subst e
          rw [HX.out] at HY
          have := HY.out
          rw [this] at HQ
          simp [Hid] at HQ
      · have : k = ss.length := by omega
        subst this
        go_wp2
        go_ret
        refine ⟨ret_bool ?_, hd⟩
        have := hp.out
        rw [List.take_length, List.take_of_length_le (by rw [HL.out]; omega)] at this
        simp [this]
  · have hl' : (((ss.length : Nat) : Int) != (ts.length : Int)) = true := by simp; omega
    have HL := Lib.hid hl; clear hl
    go_enter Try.func46, Try.ntmps46
    go_wp2
    go_ret
    refine ⟨ret_bool ?_, Drew.refl _⟩
    rw [eq_comm, beq_eq_false_iff_ne]
    intro e
    exact HL.out (by rw [e])
theorem eqSecsX (A A' : Option Addr) (c c' n m : Nat) (ss ts : List Sec) (w : World) (hn : ss.length = n) (hm : ts.length = m) (h1 : SlAt encSec w (Bl w.heap.size) A ss) (h2 : SlAt encSec w (Bl w.heap.size) A' ts) (hs : n ≤ 9223372036854775807) (ht : m ≤ 9223372036854775807) (q : Bool) (hq : (ss == ts) = q) :
    Calls Try.prog 46 #[.slice A n c, .slice A' m c'] w fun e w' => e = .returned (.bool q) ∧ Below w.heap.size w w' := by
  subst hn hm hq
  exact (eqSecs_any A A' c c' _ _ ss ts w h1 h2 hs ht).mono fun _ _ h => ⟨h.1, h.2.below _⟩
end Go.Proofs.Ytnkmklnlaepdeaa
