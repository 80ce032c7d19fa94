/-
  slices.Equal over extents.
-/
import Derived.Test.YthneomehfmjbkaaHq
import Derived.Test.YthneomehfmjbkaaCb
import Derived.BigQuiet
set_option linter.unusedVariables false
set_option linter.unusedSimpArgs false
set_option linter.unusedSectionVars false
set_option linter.unnecessarySimpa false
namespace Go.Proofs.Ythneomehfmjbkaa
open Go.RowKit Go.Shelf
attribute [local go_sem] Oper.semAt_some

theorem run_eq_ext11 (w : World) (a b c d : Int) : (Op.equalIn 10000 35 (.agg #[.int .i64 a, .int .i64 b]) (.agg #[.int .i64 c, .int .i64 d])).run Try.prog w = .ok ((a, b) == (c, d)) w := by
  have und : Try.prog.underlying 35 = some (.struct (Try.prog.fieldsOf 35)) := by kernel_rfl
  have fld : (Try.prog.fieldsOf 35).toList = [(Try.prog.fieldsOf 35)[0]!, (Try.prog.fieldsOf 35)[1]!] := by kernel_rfl
  have n0 : (Try.prog.fieldsOf 35)[0]!.name = "Start" := by kernel_rfl
  have n1 : (Try.prog.fieldsOf 35)[1]!.name = "Count" := by kernel_rfl
  have p0 : ∀ w, (part (Try.prog.fieldsOf 35)[0]!.type #[.int .i64 a, .int .i64 b] (Try.prog.fieldsOf 35)[0]!.offset).run Try.prog w = .ok (.int .i64 a) w := by intro w; kernel_rfl
  have p1 : ∀ w, (part (Try.prog.fieldsOf 35)[1]!.type #[.int .i64 a, .int .i64 b] (Try.prog.fieldsOf 35)[1]!.offset).run Try.prog w = .ok (.int .i64 b) w := by intro w; kernel_rfl
  have q0 : ∀ w, (part (Try.prog.fieldsOf 35)[0]!.type #[.int .i64 c, .int .i64 d] (Try.prog.fieldsOf 35)[0]!.offset).run Try.prog w = .ok (.int .i64 c) w := by intro w; kernel_rfl
  have q1 : ∀ w, (part (Try.prog.fieldsOf 35)[1]!.type #[.int .i64 c, .int .i64 d] (Try.prog.fieldsOf 35)[1]!.offset).run Try.prog w = .ok (.int .i64 d) w := by intro w; kernel_rfl
  have t0 : Try.prog.underlying (Try.prog.fieldsOf 35)[0]!.type = some (.int .i64) := by kernel_rfl
  have t1 : Try.prog.underlying (Try.prog.fieldsOf 35)[1]!.type = some (.int .i64) := by kernel_rfl
  have h := run_equalIn_agg w 9999 35 #[.int .i64 a, .int .i64 b] #[.int .i64 c, .int .i64 d] und (by kernel_rfl)
  rw [fld] at h
  simp only [Op.eqFields, n0, n1, if_pos (show "Start" ≠ "_" by decide), if_pos (show "Count" ≠ "_" by decide), Sem.run_bind, Sem.run_ite, Sem.run_pure, p0, p1, q0, q1, Result.andThen_ok, run_equalIn_int _ 9998 _ .i64 .i64 _ _ t0, run_equalIn_int _ 9998 _ .i64 .i64 _ _ t1] at h
  refine h.trans ?_
  by_cases h1 : a = c <;> by_cases h2 : b = d <;> simp [h1, h2]
set_option maxHeartbeats 4000000 in
theorem eqExts_any (A A' : Option Addr) (c c' n n' : Nat) (S S' : Nat → Prop) (l m : List Ext) (r : Bool) (w : World) (hn : l.length = n) (hn' : m.length = n') (hr : decide (l = m) = r) (h1 : SlAt encExt w S A l) (h2 : SlAt encExt w S' A' m) (hs : n ≤ 9223372036854775807) (ht : n' ≤ 9223372036854775807) :
    Calls Try.prog 21 #[.slice A n c, .slice A' n' c'] w fun e w' => e = .returned (.bool r) ∧ Drew w w' := by
  subst hn hn'
  have HR := Lib.hid hr; clear hr
  by_cases hl : l.length = m.length
  · have hl' : (((l.length : Nat) : Int) != (m.length : Int)) = false := by simp [hl]
    have HL := Lib.hid hl; clear hl
    go_enter Try.func21, Try.ntmps21
    go_wp2
    go_loopw [13] (fun i wr => ∃ k : Nat, k ≤ l.length ∧ i = .int .i64 k ∧ Drew w wr ∧ Hid (l.take k = m.take k)) (fun i _ => l.length - (intOf i).toNat)
    case atStart => exact ⟨0, by omega, rfl, Drew.refl _, by simp [Hid]⟩
    case round =>
      obtain ⟨wo, rfl⟩ : ∃ wo : World, wo = wr := ⟨_, rfl⟩
      obtain ⟨k, hk, rfl, hd, hp⟩ := hrel
      replace h1 := h1.drew hd
      replace h2 := h2.drew hd
      by_cases hlt : k < l.length
      · have hlt2 : k < m.length := by have := HL.out; omega
        obtain ⟨b, off, rfl, _, g0, g1, _, _⟩ := h1.ext hlt
        obtain ⟨b', off', rfl, _, g0', g1', _, _⟩ := h2.ext hlt2
        have hnn : (0 : Int) ≤ k := by omega
        have hki : (k : Int) < l.length := by omega
        have hki2 : (k : Int) < m.length := by omega
        obtain ⟨x, hx⟩ : ∃ x, Hid (x = l[k]'hlt) := ⟨_, Lib.hid rfl⟩
        obtain ⟨y, hy⟩ : ∃ y, Hid (y = m[k]'hlt2) := ⟨_, Lib.hid rfl⟩
        rw [← hx.out] at g0 g1; rw [← hy.out] at g0' g1'; have HE := fun W => run_eq_ext11 W x.1 x.2 y.1 y.2
        by_cases hxy : x = y
        · have hxy' : ((x.1, x.2) == (y.1, y.2)) = true := by simp [hxy]
          have HXY := Lib.hid hxy; clear hxy
          go_wp2_with fail
          go_quiet (fail)
          go_wp2
          go_roundw
          case rel => exact ⟨k + 1, hlt, by go_num, hd.step _, take_step hlt hlt2 hp.out (by rw [← hx.out, ← hy.out]; exact HXY.out)⟩
          case measure => simp [intOf]; omega
        · have hxy' : ((x.1, x.2) == (y.1, y.2)) = false := by (have : (x.1, x.2) ≠ (y.1, y.2) := hxy; simpa using this)
          have hne : Hid (decide (l = m) = false) := by
            rw [Hid, decide_eq_false_iff_not]
            rintro rfl
            exact hxy (hx.out.trans hy.out.symm)
          clear hxy
          go_wp2_with fail
          go_quiet (fail)
          go_wp2
          go_ret
          rw [← HR.out, hne.out]
          exact ⟨rfl, hd.step _⟩
      · have hkk : k = l.length := by omega
        subst hkk
        go_wp2
        go_ret
        have e := hp.out
        rw [List.take_length, HL.out, List.take_length] at e
        rw [← HR.out]
        exact ⟨by simp [e], hd⟩
  · have hl' : (((l.length : Nat) : Int) != (m.length : Int)) = true := by simp; omega
    have hne : Hid (decide (l = m) = false) := by
      rw [Hid, decide_eq_false_iff_not]
      rintro rfl
      exact hl rfl
    clear hl
    go_enter Try.func21, Try.ntmps21
    go_wp2
    go_ret
    rw [← HR.out, hne.out]
    exact ⟨rfl, Drew.refl _⟩
end Go.Proofs.Ythneomehfmjbkaa
