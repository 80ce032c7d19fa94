/-
  The walks of check (with placed), Grow, Concat, write.
-/
import Derived.Test.YtfahbhjlkdcnpaaSb
import Derived.Test.YtfahbhjlkdcnpaaChk
set_option linter.unusedVariables false
set_option linter.unusedSimpArgs false
set_option linter.unusedSectionVars false
set_option linter.unnecessarySimpa false
namespace Go.Proofs.Ytfahbhjlkdcnpaa
open Go.RowKit Go.ChangeMaps

set_option maxHeartbeats 4000000 in
theorem checkP_any (A : Option Addr) (c : Nat) (l : List Wr) (w : World) (h1 : SlAt encWr w (Bl w.heap.size) A l) (hs : l.length ≤ 9223372036854775807) :
    Calls Try.prog 44 #[.slice A l.length c, .func (.func 37) #[] #[]] w fun e w' => e = .returned (.int .i64 (chkN placedN l)) ∧ Below w.heap.size w w' := by
  have H2 : Hid (∀ w', Below w.heap.size w w' → SlAt encWr w' (Bl w.heap.size) A l) := fun w' hb => h1.below hb
  clear h1
  go_enter Try.func44, Try.ntmps44
  go_wp2
  go_loopw [11] (fun i wr => ∃ k : Nat, k ≤ l.length ∧ i = .int .i64 k ∧ Below w.heap.size w wr ∧ Hid (∀ x ∈ (withPrev l).take k, stepErr placedN x = 0)) (fun i _ => l.length - (intOf i).toNat)
  case atStart => exact ⟨0, by omega, rfl, Below.refl _ _, by simp [Hid]⟩
  case round =>
    obtain ⟨k, hk, rfl, hB, hz⟩ := hrel
    by_cases hlt : k < l.length
    · obtain ⟨b, off, D, dc, rfl, hb, g0, g1, g2, hD, hn1, hn2, hi1, hi2⟩ := (H2.out wr hB).wr hlt
      have hbl : b < w.heap.size := hb
      have hnn : (0 : Int) ≤ k := by omega
      have hki : (k : Int) < l.length := by omega
      unfold maxLen at hn2
      have hn3 : l[k].2.2.length ≤ 9223372036854775807 := by omega
      have hsz := hB.size
      obtain ⟨pn, hpn⟩ : ∃ pn, Hid (placedN l[k] = pn) := ⟨placedN l[k], Lib.hid rfl⟩
      obtain ⟨x, hx⟩ : ∃ x, Hid (x = l[k]) := ⟨_, Lib.hid rfl⟩
      rw [← hx.out] at g0 g1 g2 hn1 hi1 hi2 hn3 hpn
      obtain ⟨v, s, data⟩ := x
      simp only at g0 g1 g2 hn1 hi1 hi2 hn3 hpn
      have hcall := fun W => placed8 v s data.length D dc W hn3 data rfl pn hpn.out
      have HCALL := Lib.hid hcall; clear hcall
      by_cases hp0 : pn = 0
      · have hp1 : (pn != 0) = false := by simp [hp0]
        have HP := Lib.hid hp0; clear hp0
        cases k with
        | zero =>
          have hpr : Hid ((withPrev l)[0]'(by rw [withPrev_len]; exact hlt) = (none, (v, s, data))) := by rw [withPrev_zero hlt, ← hx.out]; exact rfl
          simp only [Nat.zero_mul, Nat.add_zero] at g0 g1 g2
          go_wp2_with fail
          refine (HCALL.out _).mono ?_
          rintro e w1 ⟨rfl, hb1⟩
          have HB1 := Lib.hid ((hB.alloc hsz _).trans (hb1.mono (by simp; omega)))
          clear g0 g1 g2
          go_wp2
          go_roundw
          case rel => exact ⟨1, hlt, by go_num, HB1.out, takeSnoc hlt _ hpr.out hz.out (by simp [stepErr, hpn.out, HP.out])⟩
          case measure => simp [intOf]; omega
        | succ k =>
          have hlt1 : k < l.length := by omega
          have hpr : Hid ((withPrev l)[k + 1]'(by rw [withPrev_len]; exact hlt) = (some l[k], (v, s, data))) := by rw [withPrev_succ hlt, ← hx.out]; exact rfl
          have hpok := placed_ok (takePrev hlt1 hz.out)
          obtain ⟨b', off', D', dc', he, hb', f0, f1, f2, hD', hm1, hm2, hj1, hj2⟩ := (H2.out wr hB).wr hlt1
          injection he with he
          injection he with he1 he2
          subst he1 he2
          obtain ⟨y, hy⟩ : ∃ y, Hid (y = l[k]) := ⟨_, Lib.hid rfl⟩
          rw [← hy.out] at f0 f1 f2 hm1 hj1 hj2 hpok hpr
          obtain ⟨v', s', data'⟩ := y
          simp only at f0 f1 f2 hm1 hj1 hj2 hpok
          obtain ⟨o1, o2, o3, o4, o5⟩ := hpok
          have e5 : ((k + 1 : Nat) : Int) = (k : Int) + 1 := by omega
          rw [e5] at hki ⊢
          have hk1 : (((k : Int) + 1) == 0) = false := by rw [beq_eq_false_iff_ne]; omega
          clear hD hD' hn1 hm1 hm2 hn2
          by_cases d1 : v < v'
          · have hst : Hid (stepErr placedN (some (v', s', data'), (v, s, data)) = 3) := by
              unfold stepErr
              rw [if_neg (by rw [hpn.out, HP.out]; simp)]
              exact if_pos (Or.inl d1)
            go_wp2_with fail
            refine (HCALL.out _).mono ?_
            rintro e w1 ⟨rfl, hb1⟩
            have hB1 : Below w.heap.size w w1 := (hB.alloc hsz _).trans (hb1.mono (by simp; omega))
            have r0 := cellAft hb1 f0
            have r1 := cellAft hb1 f1
            have r2 := cellAft hb1 f2
            obtain ⟨t0, t1, t2, tf⟩ := blk3 (boxAft hb1)
            have hsz1 := hb1.size
            simp only [World.size_alloc] at hsz1
            have hwl : wr.heap.size < w1.heap.size := by omega
            have hbw : b < w1.heap.size := by omega
            have HB1 := Lib.hid hB1; clear hB1 hb1 f0 f1 f2 g0 g1 g2
            go_wp2
            go_ret
            refine ⟨ret_int ?_, HB1.out.alloc (by omega) _⟩
            have e := chk_at hlt _ hpr.out hz.out (by rw [hst.out]; decide)
            rw [e, hst.out]
          · by_cases d2 : v = v'
            · have d2' : (v == v') = true := by simp [d2]
              have HD2 := Lib.hid d2; clear d2
              by_cases d3 : s ≤ s' + data'.length
              · have hst : Hid (stepErr placedN (some (v', s', data'), (v, s, data)) = 3) := by
                  unfold stepErr
                  rw [if_neg (by rw [hpn.out, HP.out]; simp)]
                  exact if_pos (Or.inr ⟨HD2.out, d3⟩)
                go_wp2_with fail
                refine (HCALL.out _).mono ?_
                rintro e w1 ⟨rfl, hb1⟩
                have hB1 : Below w.heap.size w w1 := (hB.alloc hsz _).trans (hb1.mono (by simp; omega))
                have r0 := cellAft hb1 f0
                have r1 := cellAft hb1 f1
                have r2 := cellAft hb1 f2
                obtain ⟨t0, t1, t2, tf⟩ := blk3 (boxAft hb1)
                have hsz1 := hb1.size
                simp only [World.size_alloc] at hsz1
                have hwl : wr.heap.size < w1.heap.size := by omega
                have hbw : b < w1.heap.size := by omega
                have HB1 := Lib.hid hB1; clear hB1 hb1 f0 f1 f2 g0 g1 g2
                go_wp2
                go_ret
                refine ⟨ret_int ?_, HB1.out.alloc (by omega) _⟩
                have e := chk_at hlt _ hpr.out hz.out (by rw [hst.out]; decide)
                rw [e, hst.out]
              · have hst : Hid (stepErr placedN (some (v', s', data'), (v, s, data)) = 0) := by
                  unfold stepErr
                  rw [if_neg (by rw [hpn.out, HP.out]; simp)]
                  exact if_neg (fun h => by have := HD2.out; simp only at h; omega)
                go_wp2_with fail
                refine (HCALL.out _).mono ?_
                rintro e w1 ⟨rfl, hb1⟩
                have hB1 : Below w.heap.size w w1 := (hB.alloc hsz _).trans (hb1.mono (by simp; omega))
                have r0 := cellAft hb1 f0
                have r1 := cellAft hb1 f1
                have r2 := cellAft hb1 f2
                obtain ⟨t0, t1, t2, tf⟩ := blk3 (boxAft hb1)
                have hsz1 := hb1.size
                simp only [World.size_alloc] at hsz1
                have hwl : wr.heap.size < w1.heap.size := by omega
                have hbw : b < w1.heap.size := by omega
                have HB1 := Lib.hid hB1; clear hB1 hb1 f0 f1 f2 g0 g1 g2
                go_wp2
                go_roundw
                case rel => exact ⟨k + 1 + 1, hlt, by go_num, HB1.out.alloc (by omega) _, takeSnoc hlt _ hpr.out hz.out hst.out⟩
                case measure => simp [intOf]; omega
            · have d2' : (v == v') = false := by simp [d2]
              have HD2 := Lib.hid d2; clear d2
              have hst : Hid (stepErr placedN (some (v', s', data'), (v, s, data)) = 0) := by
                unfold stepErr
                rw [if_neg (by rw [hpn.out, HP.out]; simp)]
                exact if_neg (fun h => by have := HD2.out; simp only at h; omega)
              go_wp2_with fail
              refine (HCALL.out _).mono ?_
              rintro e w1 ⟨rfl, hb1⟩
              have hB1 : Below w.heap.size w w1 := (hB.alloc hsz _).trans (hb1.mono (by simp; omega))
              have r0 := cellAft hb1 f0
              have r1 := cellAft hb1 f1
              have r2 := cellAft hb1 f2
              obtain ⟨t0, t1, t2, tf⟩ := blk3 (boxAft hb1)
              have hsz1 := hb1.size
              simp only [World.size_alloc] at hsz1
              have hwl : wr.heap.size < w1.heap.size := by omega
              have hbw : b < w1.heap.size := by omega
              have HB1 := Lib.hid hB1; clear hB1 hb1 f0 f1 f2 g0 g1 g2
              go_wp2
              go_roundw
              case rel => exact ⟨k + 1 + 1, hlt, by go_num, HB1.out.alloc (by omega) _, takeSnoc hlt _ hpr.out hz.out hst.out⟩
              case measure => simp [intOf]; omega
      · have hp1 : (pn != 0) = true := by simp [hp0]
        have HP := Lib.hid hp0; clear hp0
        have hst : Hid (∀ o : Option Wr, stepErr placedN (o, (v, s, data)) = pn) := fun o => by
          unfold stepErr
          rw [if_pos (by rw [hpn.out]; exact HP.out)]
          exact hpn.out
        go_wp2_with fail
        refine (HCALL.out _).mono ?_
        rintro e w1 ⟨rfl, hb1⟩
        have HB1 := Lib.hid ((hB.alloc hsz _).trans (hb1.mono (by simp; omega)))
        clear g0 g1 g2
        go_wp2
        go_ret
        refine ⟨ret_int ?_, HB1.out⟩
        cases k with
        | zero =>
          have e := chk_at hlt _ ((withPrev_zero hlt).trans (by rw [← hx.out])) hz.out (by rw [hst.out]; exact HP.out)
          rw [e, hst.out]
        | succ k =>
          have e := chk_at hlt _ ((withPrev_succ hlt).trans (by rw [← hx.out])) hz.out (by rw [hst.out]; exact HP.out)
          rw [e, hst.out]
    · have hkk : k = l.length := by omega
      subst hkk
      go_wp2
      go_ret
      exact ⟨ret_int (chk_zero hz.out).symm, hB⟩
end Go.Proofs.Ytfahbhjlkdcnpaa
