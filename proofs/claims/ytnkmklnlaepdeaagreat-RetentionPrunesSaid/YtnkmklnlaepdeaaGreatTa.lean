/-
  The walks of the reference's Sizes, Check, Merge.
  The walk of the reference's Merge.
-/
import Derived.Test.YtnkmklnlaepdeaaGreatPg
set_option linter.unusedVariables false
set_option linter.unusedSimpArgs false
set_option linter.unusedSectionVars false
set_option linter.unnecessarySimpa false
namespace Go.Proofs.YtnkmklnlaepdeaaGreat
open Go.RowKit

def badSz (n : Int) : Bool := decide (n < 1) || decide (4096 < n)
def sizesN (sz : List Int) : Int := if sz.length < 1 ∨ 8 < sz.length then 6 else if sz.any badSz = true then 2 else 0
theorem fits_ok {sz : List Int} {x : Wr} (hz : sizesN sz = 0) (h : fitsN sz x = 0) : 0 ≤ x.1 ∧ x.1 < 8 ∧ 0 < x.2.2.length ∧ 0 ≤ x.2.1 ∧ x.2.1 + x.2.2.length ≤ 4096 := by
  unfold sizesN at hz
  split at hz
  · cases hz
  · split at hz
    · cases hz
    · rename_i h1 h2
      unfold fitsN at h
      split at h
      · cases h
      · split at h
        · cases h
        · split at h
          · cases h
          · rename_i k1 k2 k3
            have hlt : x.1.toNat < sz.length := by omega
            have hm : sz.getD x.1.toNat 0 ∈ sz := by
              rw [List.getD_eq_getElem?_getD, List.getElem?_eq_getElem hlt]; exact List.getElem_mem hlt
            have hb : badSz (sz.getD x.1.toNat 0) = false := by
              have := h2
              rw [List.any_eq_true] at this
              cases hq : badSz (sz.getD x.1.toNat 0) with
              | false => rfl
              | true => exact absurd ⟨_, hm, hq⟩ this
            simp only [badSz, Bool.or_eq_false_iff, decide_eq_false_iff_not] at hb
            omega
theorem sizes_any (A : Option Addr) (c : Nat) (S : Nat → Prop) (sz : List Int) (w : World) (h1 : SlAt encInt w S A sz) (hs : sz.length ≤ 9223372036854775807) :
    Calls Tryz.prog 73 #[.slice A sz.length c] w fun e w' => e = .returned (.int .i64 (sizesN sz)) ∧ w' = w := by
  by_cases c1 : sz.length < 1
  · have c1' : decide ((sz.length : Int) < 1) = true := by simp; omega
    go_enter Tryz.func73, Tryz.ntmps73
    go_wp2
    go_ret
    exact ⟨ret_int (if_pos (Or.inl c1)).symm, rfl⟩
  · by_cases c2 : 8 < sz.length
    · go_enter Tryz.func73, Tryz.ntmps73
      go_wp2
      go_ret
      exact ⟨ret_int (if_pos (Or.inr c2)).symm, rfl⟩
    · go_enter Tryz.func73, Tryz.ntmps73
      go_wp2
      go_loopw [3] (fun i wr => wr = w ∧ ∃ k : Nat, k ≤ sz.length ∧ i = .int .i64 k ∧ Hid (∀ x ∈ sz.take k, badSz x = false)) (fun i _ => sz.length - (intOf i).toNat)
      case atStart => exact ⟨rfl, 0, by omega, rfl, by simp [Hid]⟩
      case round =>
        obtain ⟨rfl, k, hk, rfl, hp⟩ := hrel
        by_cases hlt : k < sz.length
        · obtain ⟨b, off, rfl, hb, g0, hi1, hi2⟩ := h1.int hlt
          have hnn : (0 : Int) ≤ k := by omega
          have hki : (k : Int) < sz.length := by omega
          by_cases d1 : sz[k] < 1
          · go_wp2
            go_ret
            refine ⟨ret_int ?_, rfl⟩
            rw [sizesN, if_neg (by omega), if_pos (List.any_eq_true.2 ⟨sz[k], List.getElem_mem hlt, by simp [badSz, d1]⟩)]
          · by_cases d2 : 4096 < sz[k]
            · go_wp2
              go_ret
              refine ⟨ret_int ?_, rfl⟩
              rw [sizesN, if_neg (by omega), if_pos (List.any_eq_true.2 ⟨sz[k], List.getElem_mem hlt, by simp [badSz, d2]⟩)]
            · go_wp2
              go_roundw
              case rel =>
                refine ⟨by trivial, k + 1, hlt, by go_num, ?_⟩
                intro x hx
                rw [List.take_succ_eq_append_getElem hlt] at hx
                rcases List.mem_append.1 hx with hx | hx
                · exact hp.out x hx
                · rw [List.mem_singleton.1 hx]; simp [badSz]; omega
              case measure => simp [intOf]; omega
        · have hkk : k = sz.length := by omega
          have HK := Lib.hid hkk; clear hkk
          have hki : ¬ ((k : Int) < sz.length) := by omega
          go_wp2
          go_ret
          refine ⟨ret_int ?_, rfl⟩
          have h3 := hp.out
          rw [HK.out, List.take_length] at h3
          rw [sizesN, if_neg (by omega), if_neg]
          rw [List.any_eq_true]
          rintro ⟨x, hx, hq⟩
          rw [h3 x hx] at hq
          cases hq
/-- what Check returns -/
def chkS (l : List Wr) (sz : List Int) : Int := if sizesN sz ≠ 0 then sizesN sz else chkN (fitsN sz) l

set_option maxHeartbeats 4000000 in
theorem refCheck_any (A Z : Option Addr) (c zc : Nat) (l : List Wr) (sz : List Int) (w : World) (h1 : SlAt encWr w (Bl w.heap.size) A l) (hs : l.length ≤ 9223372036854775807) (h2 : SlAt encInt w (Bl w.heap.size) Z sz) (hzl : sz.length ≤ 9223372036854775807) (r : Int) (hr : chkS l sz = r) :
    Calls Tryz.prog 47 #[.slice A l.length c, .slice Z sz.length zc] w fun e w' => e = .returned (.int .i64 r) ∧ Below w.heap.size w w' := by
  have H2 : Hid (∀ w', Below w.heap.size w w' → SlAt encWr w' (Bl w.heap.size) A l) := fun w' hb => h1.below hb
  have HZ : Hid (∀ w', Below w.heap.size w w' → SlAt encInt w' (Bl w.heap.size) Z sz) := fun w' hb => h2.below hb
  have HR := Lib.hid hr; clear hr
  have hsz0 := Lib.hid (sizes_any Z zc _ sz w h2 hzl)
  clear h1 h2
  obtain ⟨ez, hez⟩ : ∃ ez, Hid (sizesN sz = ez) := ⟨_, Lib.hid rfl⟩
  rw [hez.out] at hsz0
  by_cases he0 : ez = 0
  · have he1 : (ez != 0) = false := by simp [he0]
    have HE := Lib.hid he0; clear he0
    have HRR : Hid (chkN (fitsN sz) l = r) := by
      have := HR.out
      rw [chkS, if_neg (by rw [hez.out, HE.out]; simp)] at this
      exact this
    have HOK : Hid (∀ x, fitsN sz x = 0 → 0 ≤ x.1 ∧ x.1 < 8 ∧ 0 < x.2.2.length ∧ 0 ≤ x.2.1 ∧ x.2.1 + x.2.2.length ≤ 4096) := fun x h => fits_ok (by rw [hez.out, HE.out]) h
    go_enter Tryz.func47, Tryz.ntmps47
    go_wp2_with fail
    refine hsz0.out.mono ?_
    rintro e w' ⟨rfl, rfl⟩
    go_wp2
    go_loopw [6] (fun i wr => ∃ k : Nat, k ≤ l.length ∧ i = .int .i64 k ∧ Below w'.heap.size w' wr ∧ Hid (∀ x ∈ (withPrev l).take k, stepErr (fitsN sz) x = 0)) (fun i _ => l.length - (intOf i).toNat)
    case atStart => exact ⟨0, by omega, rfl, Below.refl _ _, by simp [Hid]⟩
    case round =>
      obtain ⟨k, hk, rfl, hB, hz⟩ := hrel
      by_cases hlt : k < l.length
      · obtain ⟨b, off, D, dc, rfl, hb, g0, g1, g2, hD, hn1, hn2, hi1, hi2⟩ := (H2.out wr hB).wr hlt
        have hbl : b < w'.heap.size := hb
        have hnn : (0 : Int) ≤ k := by omega
        have hki : (k : Int) < l.length := by omega
        unfold maxLen at hn2
        have hn3 : l[k].2.2.length ≤ 9223372036854775807 := by omega
        have hsz := hB.size
        obtain ⟨pn, hpn⟩ : ∃ pn, Hid (fitsN sz l[k] = pn) := ⟨fitsN sz l[k], Lib.hid rfl⟩
        obtain ⟨x, hx⟩ : ∃ x, Hid (x = l[k]) := ⟨_, Lib.hid rfl⟩
        rw [← hx.out] at g0 g1 g2 hn1 hi1 hi2 hn3 hpn
        obtain ⟨v, s, data⟩ := x
        simp only at g0 g1 g2 hn1 hi1 hi2 hn3 hpn
        have hcall := fits_any Z zc (Bl w'.heap.size) sz v s D dc data wr (HZ.out wr hB) hzl (fun b hb => Nat.lt_of_lt_of_le hb hsz) hn3 hi1 hi2
        rw [hpn.out] at hcall
        have HCALL := Lib.hid hcall; clear hcall
        by_cases hp0 : pn = 0
        · have hp1 : (pn != 0) = false := by simp [hp0]
          have HP := Lib.hid hp0; clear hp0
          cases k with
          | zero =>
            have hpr : Hid ((withPrev l)[0]'(by rw [withPrev_len]; exact hlt) = (none, (v, s, data))) := by rw [withPrev_zero hlt, ← hx.out]; exact rfl
            simp only [Nat.zero_mul, Nat.add_zero] at g0 g1 g2
            go_wp2_with fail
            refine HCALL.out.mono ?_
            rintro e w1 ⟨rfl, hb1⟩
            have HB1 := Lib.hid (hB.trans (hb1.mono hsz))
            clear g0 g1 g2
            go_wp2
            go_roundw
            case rel => exact ⟨1, hlt, by go_num, HB1.out, takeSnoc hlt _ hpr.out hz.out (by simp [stepErr, hpn.out, HP.out])⟩
            case measure => simp [intOf]; omega
          | succ k =>
            have hlt1 : k < l.length := by omega
            have hpr : Hid ((withPrev l)[k + 1]'(by rw [withPrev_len]; exact hlt) = (some l[k], (v, s, data))) := by rw [withPrev_succ hlt, ← hx.out]; exact rfl
            have hpok := HOK.out _ (takePrev hlt1 hz.out)
            have hpok2 := HOK.out _ (hpn.out.trans HP.out)
            obtain ⟨b', off', D', dc', he, hb', f0, f1, f2, hD', hm1, hm2, hj1, hj2⟩ := (H2.out wr hB).wr hlt1
            injection he with he
            injection he with he1 he2
            subst he1 he2
            obtain ⟨y, hy⟩ : ∃ y, Hid (y = l[k]) := ⟨_, Lib.hid rfl⟩
            rw [← hy.out] at f0 f1 f2 hm1 hj1 hj2 hpok hpr
            obtain ⟨v', s', data'⟩ := y
            simp only at f0 f1 f2 hm1 hj1 hj2 hpok hpok2
            obtain ⟨o1, o2, o3, o4, o5⟩ := hpok
            obtain ⟨p1, p2, p3, p4, p5⟩ := hpok2
            have e5 : ((k + 1 : Nat) : Int) = (k : Int) + 1 := by omega
            rw [e5] at hki ⊢
            have hk1 : (((k : Int) + 1) == 0) = false := by rw [beq_eq_false_iff_ne]; omega
            clear hD hD' hn1 hm1 hm2 hn2
            by_cases d1 : v < v'
            · have d1' : decide (v < v') = true := by simp [d1]
              have hst : Hid (stepErr (fitsN sz) (some (v', s', data'), (v, s, data)) = 3) := by
                unfold stepErr
                rw [if_neg (by rw [hpn.out, HP.out]; simp)]
                exact if_pos (Or.inl d1)
              go_wp2_with fail
              refine HCALL.out.mono ?_
              rintro e w1 ⟨rfl, hb1⟩
              have hB1 : Below w'.heap.size w' w1 := hB.trans (hb1.mono hsz)
              have hbw : b < wr.heap.size := by omega
              have r0 := (hb1.cell (p := ⟨b, off + k * 3, none⟩) hbw).trans f0
              have r1 := (hb1.cell (p := ⟨b, off + k * 3 + 1, none⟩) hbw).trans f1
              have r2 := (hb1.cell (p := ⟨b, off + k * 3 + 2, none⟩) hbw).trans f2
              have q0 := (hb1.cell (p := ⟨b, off + (k + 1) * 3, none⟩) hbw).trans g0
              have q1 := (hb1.cell (p := ⟨b, off + (k + 1) * 3 + 1, none⟩) hbw).trans g1
              have q2 := (hb1.cell (p := ⟨b, off + (k + 1) * 3 + 2, none⟩) hbw).trans g2
              have hsz1 := hb1.size
              have hbw1 : b < w1.heap.size := by omega
              have HB1 := Lib.hid hB1; clear hB1 hb1 f0 f1 f2 g0 g1 g2
              go_wp2
              go_quiet (fail)
              go_wp2
              go_ret
              refine ⟨ret_int ?_, bDrew (HB1.out.alloc (by omega) _) _⟩
              rw [← HRR.out]
              have e := chk_at hlt _ hpr.out hz.out (by rw [hst.out]; decide)
              rw [e, hst.out]
            · have d1' : decide (v < v') = false := by simp; omega
              by_cases d2 : v = v'
              · have d2' : (v == v') = true := by simp [d2]
                have HD2 := Lib.hid d2; clear d2
                by_cases d3 : s ≤ s' + data'.length
                · have d3' : decide (s < s' + (data'.length : Int) + 1) = true := by simp; omega
                  have hst : Hid (stepErr (fitsN sz) (some (v', s', data'), (v, s, data)) = 3) := by
                    unfold stepErr
                    rw [if_neg (by rw [hpn.out, HP.out]; simp)]
                    exact if_pos (Or.inr ⟨HD2.out, d3⟩)
                  go_wp2_with fail
                  refine HCALL.out.mono ?_
                  rintro e w1 ⟨rfl, hb1⟩
                  have hB1 : Below w'.heap.size w' w1 := hB.trans (hb1.mono hsz)
                  have hbw : b < wr.heap.size := by omega
                  have r0 := (hb1.cell (p := ⟨b, off + k * 3, none⟩) hbw).trans f0
                  have r1 := (hb1.cell (p := ⟨b, off + k * 3 + 1, none⟩) hbw).trans f1
                  have r2 := (hb1.cell (p := ⟨b, off + k * 3 + 2, none⟩) hbw).trans f2
                  have q0 := (hb1.cell (p := ⟨b, off + (k + 1) * 3, none⟩) hbw).trans g0
                  have q1 := (hb1.cell (p := ⟨b, off + (k + 1) * 3 + 1, none⟩) hbw).trans g1
                  have q2 := (hb1.cell (p := ⟨b, off + (k + 1) * 3 + 2, none⟩) hbw).trans g2
                  have hsz1 := hb1.size
                  have hbw1 : b < w1.heap.size := by omega
                  have HB1 := Lib.hid hB1; clear hB1 hb1 f0 f1 f2 g0 g1 g2
                  go_wp2
                  go_quiet (fail)
                  go_wp2
                  go_ret
                  refine ⟨ret_int ?_, bDrew (HB1.out.alloc (by omega) _) _⟩
                  rw [← HRR.out]
                  have e := chk_at hlt _ hpr.out hz.out (by rw [hst.out]; decide)
                  rw [e, hst.out]
                · have d3' : decide (s < s' + (data'.length : Int) + 1) = false := by simp; omega
                  have hst : Hid (stepErr (fitsN sz) (some (v', s', data'), (v, s, data)) = 0) := by
                    unfold stepErr
                    rw [if_neg (by rw [hpn.out, HP.out]; simp)]
                    exact if_neg (fun h => by have := HD2.out; simp only at h; omega)
                  go_wp2_with fail
                  refine HCALL.out.mono ?_
                  rintro e w1 ⟨rfl, hb1⟩
                  have hB1 : Below w'.heap.size w' w1 := hB.trans (hb1.mono hsz)
                  have hbw : b < wr.heap.size := by omega
                  have r0 := (hb1.cell (p := ⟨b, off + k * 3, none⟩) hbw).trans f0
                  have r1 := (hb1.cell (p := ⟨b, off + k * 3 + 1, none⟩) hbw).trans f1
                  have r2 := (hb1.cell (p := ⟨b, off + k * 3 + 2, none⟩) hbw).trans f2
                  have q0 := (hb1.cell (p := ⟨b, off + (k + 1) * 3, none⟩) hbw).trans g0
                  have q1 := (hb1.cell (p := ⟨b, off + (k + 1) * 3 + 1, none⟩) hbw).trans g1
                  have q2 := (hb1.cell (p := ⟨b, off + (k + 1) * 3 + 2, none⟩) hbw).trans g2
                  have hsz1 := hb1.size
                  have hbw1 : b < w1.heap.size := by omega
                  have HB1 := Lib.hid hB1; clear hB1 hb1 f0 f1 f2 g0 g1 g2
                  go_wp2
                  go_quiet (fail)
                  go_wp2
                  go_roundw
                  case rel => exact ⟨k + 1 + 1, hlt, by go_num, bDrew (HB1.out.alloc (by omega) _) _, takeSnoc hlt _ hpr.out hz.out hst.out⟩
                  case measure => simp [intOf]; omega
              · have d2' : (v == v') = false := by simp [d2]
                have HD2 := Lib.hid d2; clear d2
                have hst : Hid (stepErr (fitsN sz) (some (v', s', data'), (v, s, data)) = 0) := by
                  unfold stepErr
                  rw [if_neg (by rw [hpn.out, HP.out]; simp)]
                  exact if_neg (fun h => by have := HD2.out; simp only at h; omega)
                go_wp2_with fail
                refine HCALL.out.mono ?_
                rintro e w1 ⟨rfl, hb1⟩
                have hB1 : Below w'.heap.size w' w1 := hB.trans (hb1.mono hsz)
                have hbw : b < wr.heap.size := by omega
                have r0 := (hb1.cell (p := ⟨b, off + k * 3, none⟩) hbw).trans f0
                have r1 := (hb1.cell (p := ⟨b, off + k * 3 + 1, none⟩) hbw).trans f1
                have r2 := (hb1.cell (p := ⟨b, off + k * 3 + 2, none⟩) hbw).trans f2
                have q0 := (hb1.cell (p := ⟨b, off + (k + 1) * 3, none⟩) hbw).trans g0
                have q1 := (hb1.cell (p := ⟨b, off + (k + 1) * 3 + 1, none⟩) hbw).trans g1
                have q2 := (hb1.cell (p := ⟨b, off + (k + 1) * 3 + 2, none⟩) hbw).trans g2
                have hsz1 := hb1.size
                have hbw1 : b < w1.heap.size := by omega
                have HB1 := Lib.hid hB1; clear hB1 hb1 f0 f1 f2 g0 g1 g2
                go_wp2
                go_quiet (fail)
                go_wp2
                go_roundw
                case rel => exact ⟨k + 1 + 1, hlt, by go_num, bDrew (HB1.out.alloc (by omega) _) _, takeSnoc hlt _ hpr.out hz.out hst.out⟩
                case measure => simp [intOf]; omega
        · have hp1 : (pn != 0) = true := by simp [hp0]
          have HP := Lib.hid hp0; clear hp0
          have hst : Hid (∀ o : Option Wr, stepErr (fitsN sz) (o, (v, s, data)) = pn) := fun o => by
            unfold stepErr
            rw [if_pos (by rw [hpn.out]; exact HP.out)]
            exact hpn.out
          go_wp2_with fail
          refine HCALL.out.mono ?_
          rintro e w1 ⟨rfl, hb1⟩
          have HB1 := Lib.hid (hB.trans (hb1.mono hsz))
          clear g0 g1 g2
          go_wp2
          go_ret
          refine ⟨ret_int ?_, HB1.out⟩
          rw [← HRR.out]
          cases k with
          | zero =>
            have e := chk_at hlt _ ((withPrev_zero hlt).trans (by rw [← hx.out])) hz.out (by rw [hst.out]; exact HP.out)
            rw [e, hst.out]
          | succ k =>
            have e := chk_at hlt _ ((withPrev_succ hlt).trans (by rw [← hx.out])) hz.out (by rw [hst.out]; exact HP.out)
            rw [e, hst.out]
      · have hkk : k = l.length := by omega
        subst hkk
        go_wp2
        go_ret
        exact ⟨ret_int (by rw [← HRR.out]; exact (chk_zero hz.out).symm), hB⟩
  · have he1 : (ez != 0) = true := by simp [he0]
    have HE := Lib.hid he0; clear he0
    go_enter Tryz.func47, Tryz.ntmps47
    go_wp2_with fail
    refine hsz0.out.mono ?_
    rintro e w' ⟨rfl, rfl⟩
    go_wp2
    go_ret
    refine ⟨ret_int ?_, Below.refl _ _⟩
    have := HR.out
    rw [chkS, if_pos (by rw [hez.out]; exact HE.out), hez.out] at this
    exact this
end Go.Proofs.YtnkmklnlaepdeaaGreat

namespace Go.Proofs.YtnkmklnlaepdeaaGreat
open Go.RowKit

theorem fitsN_most : fitsN most = placedN := funext fits_placed
theorem sizes_most : sizesN most = 0 := by decide
theorem chkS_most (l : List Wr) : chkS l most = chkN placedN l := by rw [chkS, sizes_most, if_neg (by simp), fitsN_most]
theorem refCheck8 (A Z : Option Addr) (c zc n : Nat) (l : List Wr) (w : World) (hn : l.length = n) (h1 : SlAt encWr w (Bl w.heap.size) A l) (hs : n ≤ 9223372036854775807) (h2 : SlAt encInt w (Bl w.heap.size) Z most) (r : Int) (hr : chkN placedN l = r) :
    Calls Tryz.prog 47 #[.slice A n c, .slice Z 8 zc] w fun e w' => e = .returned (.int .i64 r) ∧ Below w.heap.size w w' := by
  subst hn
  exact refCheck_any A Z c zc l most w h1 hs h2 (by rw [most_len]; omega) r (by rw [chkS_most]; exact hr)
theorem refFoldX (A : Option Addr) (c n : Nat) (l r : List Wr) (e : Int) (hn : l.length = n) (hr : foldL l = r) (he : errOf placedN l = e) (w : World) (h1 : SlAt encWr w (Bl w.heap.size) A l) (hs : n ≤ 9223372036854775807) :
    Calls Tryz.prog 76 #[.slice A n c] w (RetSlN encWr r e w) := by
  subst hn hr he
  exact refFold_any A c l w h1 hs
theorem errOf_all {l : List Wr} (h : ∀ x ∈ l, placedN x = 0) : errOf placedN l = 0 := errOf_zero h

end Go.Proofs.YtnkmklnlaepdeaaGreat
