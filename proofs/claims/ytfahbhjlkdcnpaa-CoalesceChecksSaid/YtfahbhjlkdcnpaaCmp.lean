/-
  The walks of standbyref03.SameSectors and SameWrites: they compare two lists of writes.
-/
import Derived.Test.YtfahbhjlkdcnpaaProg
import Derived.Test.YtfahbhjlkdcnpaaTy
import Derived.ChangeKeysEq
set_option linter.unusedVariables false
set_option linter.unusedSimpArgs false
set_option linter.unusedSectionVars false
set_option linter.unnecessarySimpa false
namespace Go.Proofs.Ytfahbhjlkdcnpaa
open Go.RowKit

theorem infoU8 : (Try.prog.info? 5).isSome = true := by kernel_rfl
theorem cellsU8 : Try.prog.cellsOf 5 = 1 := by kernel_rfl
theorem aggU8 (w : World) : (isAgg 5).run Try.prog w = .ok false w := by kernel_rfl
theorem undU8 : Try.prog.underlying 5 = some (.int .u8) := by kernel_rfl
theorem undSec : Try.prog.underlying 53 = some (.array 8 5) := by kernel_rfl

/-- two sectors held against each other -/
theorem run_eq_sec (w : World) (x0 x1 x2 x3 x4 x5 x6 x7 y0 y1 y2 y3 y4 y5 y6 y7 : Int) :
    (Op.equalIn 10000 53 (.agg #[.int .u8 x0, .int .u8 x1, .int .u8 x2, .int .u8 x3, .int .u8 x4, .int .u8 x5, .int .u8 x6, .int .u8 x7]) (.agg #[.int .u8 y0, .int .u8 y1, .int .u8 y2, .int .u8 y3, .int .u8 y4, .int .u8 y5, .int .u8 y6, .int .u8 y7])).run Try.prog w
      = .ok ([x0, x1, x2, x3, x4, x5, x6, x7] == [y0, y1, y2, y3, y4, y5, y6, y7]) w := by
  obtain ⟨i, hi⟩ := Option.isSome_iff_exists.1 infoU8
  rw [run_equalIn_array w 9999 _ _ undSec hi, cellsU8]
  have h : List.range 8 = [0, 1, 2, 3, 4, 5, 6, 7] := rfl
  rw [h]
  simp only [Op.eqItems, part, Sem.run_bind, aggU8, Result.andThen_ok, Sem.run_ite, Bool.false_eq_true, if_false]
  simp [run_equalIn_int w _ _ _ _ _ _ undU8]
  by_cases h0 : x0 = y0
  · by_cases h1 : x1 = y1
    · by_cases h2 : x2 = y2
      · by_cases h3 : x3 = y3
        · by_cases h4 : x4 = y4
          · by_cases h5 : x5 = y5
            · by_cases h6 : x6 = y6
              · by_cases h7 : x7 = y7 <;> simp [*]
              · simp [*]
            · simp [*]
          · simp [*]
        · simp [*]
      · simp [*]
    · simp [*]
  · simp [*]
theorem take_succ_eq {α : Type} (l m : List α) (k : Nat) (h1 : k < l.length) (h2 : k < m.length) (h : l.take k = m.take k) (he : l[k] = m[k]) : l.take (k + 1) = m.take (k + 1) := by
  rw [List.take_succ_eq_append_getElem h1, List.take_succ_eq_append_getElem h2, h, he]
theorem drewN_cell (w : World) (m : Nat) (p : Addr) : (w.drewN m).cell? p = w.cell? p := rfl

set_option maxHeartbeats 400000 in
theorem sameSecs_any (A A' : Option Addr) (c c' : Nat) (S S' : Nat → Prop) (ss ts : List Sec) (w : World) (h1 : SlAt encSec w S A ss) (h2 : SlAt encSec w S' A' ts) (hs : ss.length ≤ 9223372036854775807) (ht : ts.length ≤ 9223372036854775807) :
    Calls Try.prog 71 #[.slice A ss.length c, .slice A' ts.length c'] w fun e w' => e = .returned (.bool (ss == ts)) ∧ Drew w w' := by
  by_cases hl : ss.length = ts.length
  · have hl' : (((ss.length : Nat) : Int) != (ts.length : Int)) = false := by simp [hl]
    have HL := Lib.hid hl; clear hl
    go_enter Try.func71, Try.ntmps71
    go_wp2
    go_loopw [5] (fun i wr => ∃ k : Nat, k ≤ ss.length ∧ i = .int .i64 k ∧ Drew w wr ∧ Hid (ss.take k = ts.take k)) (fun i _ => ss.length - (intOf i).toNat)
    case atStart => exact ⟨0, by omega, rfl, Drew.refl _, by simp [Hid]⟩
    case round =>
      obtain ⟨k, hk, rfl, hd, hp⟩ := hrel
      replace h1 := h1.drew hd
      replace h2 := h2.drew hd
      by_cases hlt : k < ss.length
      · have hlt2 : k < ts.length := by have := HL.out; omega
        obtain ⟨b, off, x0, x1, x2, x3, x4, x5, x6, x7, rfl, hb, hx, _, g0, g1, g2, g3, g4, g5, g6, g7⟩ := h1.sec hlt
        obtain ⟨b', off', y0, y1, y2, y3, y4, y5, y6, y7, rfl, hb', hy, _, k0, k1, k2, k3, k4, k5, k6, k7⟩ := h2.sec hlt2
        have HX := Lib.hid hx; clear hx
        have HY := Lib.hid hy; clear hy
        have hnn : (0 : Int) ≤ k := by omega
        have hki : (k : Int) < ss.length := by omega
        have hki2 : (k : Int) < ts.length := by omega
        have hq := fun W => run_eq_sec W x0 x1 x2 x3 x4 x5 x6 x7 y0 y1 y2 y3 y4 y5 y6 y7
        generalize hqq : ([x0, x1, x2, x3, x4, x5, x6, x7] == [y0, y1, y2, y3, y4, y5, y6, y7]) = q at hq
        have HQ := Lib.hid hqq; clear hqq
        go_wp2
        go_quiet (fail)
        cases q with
        | true =>
          go_wp2
          go_roundw
          case rel => exact ⟨k + 1, hlt, by go_num, hd.step _, take_succ_eq _ _ _ hlt hlt2 hp (by rw [HX.out, HY.out]; exact eq_of_beq HQ.out)⟩
          case measure => simp [intOf]; omega
        | false =>
          go_wp2
          go_ret
          refine ⟨ret_bool ?_, hd.step _⟩
          rw [eq_comm, beq_eq_false_iff_ne]
          intro e
          subst e
          rw [HX.out] at HY
          have := HY.out
          rw [this] at HQ
          simp [Hid] at HQ
      · have : k = ss.length := by omega
        subst this
        go_wp2
        go_ret
        refine ⟨ret_bool ?_, hd⟩
        have := hp.out
        rw [List.take_length, List.take_of_length_le (by rw [HL.out]; omega)] at this
        simp [this]
  · have hl' : (((ss.length : Nat) : Int) != (ts.length : Int)) = true := by simp; omega
    have HL := Lib.hid hl; clear hl
    go_enter Try.func71, Try.ntmps71
    go_wp2
    go_ret
    refine ⟨ret_bool ?_, Drew.refl _⟩
    rw [eq_comm, beq_eq_false_iff_ne]
    intro e
    exact HL.out (by rw [e])

theorem ne_at {l m : List Wr} {k : Nat} (h1 : k < l.length) (h2 : k < m.length) (h : l[k] ≠ m[k]) : (l == m) = false := by
  rw [beq_eq_false_iff_ne]; intro e; subst e; exact h rfl
theorem ss_len (a b : List Wr) (h : a.length ≠ b.length) : (a == b) = false := by
  rw [beq_eq_false_iff_ne]; intro e; exact h (by rw [e])

set_option maxHeartbeats 1000000 in
theorem sameWrs_any (A A' : Option Addr) (c c' : Nat) (S S' : Nat → Prop) (l m : List Wr) (w : World) (h1 : SlAt encWr w S A l) (h2 : SlAt encWr w S' A' m) (hs : l.length ≤ 9223372036854775807) (_ht : m.length ≤ 9223372036854775807) :
    Calls Try.prog 43 #[.slice A l.length c, .slice A' m.length c'] w fun e w' => e = .returned (.bool (l == m)) ∧ Drew w w' := by
  by_cases hl : l.length = m.length
  · have hl' : (((l.length : Nat) : Int) != (m.length : Int)) = false := by simp [hl]
    have HL := Lib.hid hl; clear hl
    go_enter Try.func43, Try.ntmps43
    go_wp2
    go_loopw [5] (fun i wr => ∃ k : Nat, k ≤ l.length ∧ i = .int .i64 k ∧ Drew w wr ∧ Hid (l.take k = m.take k)) (fun i _ => l.length - (intOf i).toNat)
    case atStart => exact ⟨0, by omega, rfl, Drew.refl _, by simp [Hid]⟩
    case round =>
      obtain ⟨k, hk, rfl, hd, hp⟩ := hrel
      replace h1 := h1.drew hd
      replace h2 := h2.drew hd
      by_cases hlt : k < l.length
      · have hlt2 : k < m.length := by have := HL.out; omega
        obtain ⟨b, off, D, dc, rfl, hb, g0, g1, g2, hD, hn1, hn2, _, _⟩ := h1.wr hlt
        obtain ⟨b', off', D', dc', rfl, hb', k0, k1, k2, hD', hn3, hn4, _, _⟩ := h2.wr hlt2
        have hnn : (0 : Int) ≤ k := by omega
        have hki : (k : Int) < l.length := by omega
        have hki2 : (k : Int) < m.length := by omega
        have hc := fun n => sameSecs_any D D' dc dc' S S' l[k].2.2 m[k].2.2 (wr.drewN n) hD hD' (by unfold maxLen at hn2; omega) (by unfold maxLen at hn4; omega)
        have HC := Lib.hid hc; clear hc hn1 hn2 hn3 hn4
        have HP := Lib.hid hp; clear hp
        by_cases e0 : l[k].1 = m[k].1
        · have e0' : (l[k].1 != m[k].1) = false := by simp [e0]
          by_cases e1 : l[k].2.1 = m[k].2.1
          · have e1' : (l[k].2.1 != m[k].2.1) = false := by simp [e1]
            have E0 := Lib.hid e0; clear e0
            have E1 := Lib.hid e1; clear e1
            generalize hq : (l[k].2.2 == m[k].2.2) = q at HC
            have HQ := Lib.hid hq; clear hq
            go_wp2
            go_quiet ((go_at_call 71; exact Calls.quiet_of (HC.out _)))
            cases q with
            | true =>
              go_wp2
              go_roundw
              case rel => exact ⟨k + 1, hlt, by go_num, hd.step _, take_succ_eq _ _ _ hlt hlt2 HP.out (Prod.ext E0.out (Prod.ext E1.out (eq_of_beq HQ.out)))⟩
              case measure => simp [intOf]; omega
            | false =>
              go_wp2
              go_ret
              refine ⟨ret_bool (ne_at hlt hlt2 ?_).symm, hd.step _⟩
              intro e
              have := HQ.out
              rw [e] at this
              simp at this
          · have e1' : (l[k].2.1 != m[k].2.1) = true := by simp [e1]
            have E0 := Lib.hid e0; clear e0
            have E1 := Lib.hid e1; clear e1
            go_wp2
            go_quiet (fail)
            go_wp2
            go_ret
            exact ⟨ret_bool (ne_at hlt hlt2 (fun e => E1.out (by rw [e]))).symm, hd.step _⟩
        · have e0' : (l[k].1 != m[k].1) = true := by simp [e0]
          have E0 := Lib.hid e0; clear e0
          go_wp2
          go_quiet (fail)
          go_wp2
          go_ret
          exact ⟨ret_bool (ne_at hlt hlt2 (fun e => E0.out (by rw [e]))).symm, hd.step _⟩
      · have : k = l.length := by omega
        subst this
        go_wp2
        go_ret
        refine ⟨ret_bool ?_, hd⟩
        have := hp.out
        rw [List.take_length, List.take_of_length_le (by rw [HL.out]; omega)] at this
        simp [this]
  · have hl' : (((l.length : Nat) : Int) != (m.length : Int)) = true := by simp; omega
    have HL := Lib.hid hl; clear hl
    go_enter Try.func43, Try.ntmps43
    go_wp2
    go_ret
    exact ⟨ret_bool (ss_len _ _ HL.out).symm, Drew.refl _⟩
end Go.Proofs.Ytfahbhjlkdcnpaa
