/-
  The walks of image.fits, image.Fits and of Check with its closure.
-/
import Derived.Test.YtfahbhjlkdcnpaaIb
import Derived.Test.YtfahbhjlkdcnpaaSc
set_option linter.unusedVariables false
set_option linter.unusedSimpArgs false
set_option linter.unusedSectionVars false
set_option linter.unnecessarySimpa false
namespace Go.Proofs.Ytfahbhjlkdcnpaa
open Go.RowKit

theorem lens_len (im : List (List Sec)) : (lens im).length = im.length := List.length_map _
theorem lens_at {im : List (List Sec)} {k : Nat} (hk : k < im.length) : (lens im)[k]'(by rw [lens_len]; exact hk) = (im[k].length : Int) := by simp [lens, lenI]
set_option maxHeartbeats 2000000 in
theorem imgFits1_any (A : Option Addr) (c : Nat) (im : List (List Sec)) (v s : Int) (D : Option Addr) (dc : Nat) (data : List Sec) (w : World) (h1 : SlAt (encSl encSec) w (Bl w.heap.size) A im) (hl : im.length ≤ 1000000) (hn : data.length ≤ 9223372036854775807) (hv : I64 v) (hs2 : I64 s) :
    Calls Try.prog 65 #[.slice A im.length c, .agg #[.int .i64 v, .int .i64 s, .slice D data.length dc]] w fun e w' => e = .returned (.int .i64 (fitsN (lens im) (v, s, data))) ∧ Below w.heap.size w w' := by
  obtain ⟨hv1, hv2⟩ := hv
  obtain ⟨hs1, hs2⟩ := hs2
  by_cases c1 : v < 0 ∨ im.length ≤ v
  · have hr : Hid (fitsN (lens im) (v, s, data) = 7) := fitsN_7 (by rw [lens_len]; exact c1)
    rw [hr.out]
    go_enter Try.func65, Try.ntmps65
    rcases c1 with c1 | c1
    · have c1' : decide (v < 0) = true := by simp [c1]
      go_wp2
      go_ret
      exact ⟨rfl, ext_alloc (Below.refl _ _)⟩
    · have c0 : decide (v < 0) = false := by simp; omega
      go_wp2
      go_ret
      exact ⟨rfl, ext_alloc (Below.refl _ _)⟩
  · have c2 : 0 ≤ v := by omega
    have c3 : v < im.length := by omega
    obtain ⟨k, rfl⟩ := Int.eq_ofNat_of_zero_le c2
    have hk : k < im.length := by omega
    have hkz : k < (lens im).length := by rw [lens_len]; exact hk
    have hat := lens_at hk
    have HAT := Lib.hid hat; clear hat
    obtain ⟨b, off, E, ec, rfl, hb, hcell, hsl, hm1, hm2⟩ := h1.sl hk
    have hlt : b < w.heap.size := hb
    unfold maxLen at hm2
    have d0 : decide ((k : Int) < 0) = false := by simp
    have d0' : decide ((im.length : Int) ≤ (k : Int)) = false := by simp; omega
    clear c1
    by_cases c4 : data.length = 0
    · have hr : Hid (fitsN (lens im) ((k : Int), s, data) = 1) := fitsN_1 hkz c4
      rw [hr.out]
      have c4' : ((data.length : Int) == 0) = true := by simp [c4]
      have C4 := Lib.hid c4; clear c4
      go_enter Try.func65, Try.ntmps65
      go_wp2
      go_ret
      exact ⟨rfl, ext_alloc (Below.refl _ _)⟩
    · have c4' : ((data.length : Int) == 0) = false := by rw [beq_eq_false_iff_ne]; omega
      have c5 : 0 < data.length := by omega
      have C4 := Lib.hid c4; clear c4
      by_cases d1 : s < 0
      · have hr : Hid (fitsN (lens im) ((k : Int), s, data) = 2) := fitsN_2 hkz C4.out (Or.inl d1)
        rw [hr.out]
        have d1' : decide (s < 0) = true := by simp [d1]
        go_enter Try.func65, Try.ntmps65
        go_wp2
        go_quiet (fail)
        go_wp2
        go_ret
        exact ⟨rfl, bDrew (ext_alloc (Below.refl _ _)) _⟩
      · have d1' : decide (s < 0) = false := by simp; omega
        by_cases d2 : (im[k].length : Int) - data.length < s
        · have hr : Hid (fitsN (lens im) ((k : Int), s, data) = 2) := fitsN_2 hkz C4.out (by rw [HAT.out]; omega)
          rw [hr.out]
          have d2' : decide ((im[k].length : Int) - (data.length : Int) < s) = true := by simp [d2]
          go_enter Try.func65, Try.ntmps65
          go_wp2
          go_quiet (fail)
          go_wp2
          go_ret
          exact ⟨rfl, bDrew (ext_alloc (Below.refl _ _)) _⟩
        · have hr : Hid (fitsN (lens im) ((k : Int), s, data) = 0) := fitsN_0 hkz C4.out (by rw [HAT.out]; omega)
          rw [hr.out]
          have d2' : decide ((im[k].length : Int) - (data.length : Int) < s) = false := by simp; omega
          go_enter Try.func65, Try.ntmps65
          go_wp2
          go_quiet (fail)
          go_wp2
          go_ret
          exact ⟨rfl, bDrew (ext_alloc (Below.refl _ _)) _⟩
/-- Fits of a correct image -/
theorem imgFits_any (A : Option Addr) (c n : Nat) (im : List (List Sec)) (v s : Int) (D : Option Addr) (dc m : Nat) (data : List Sec) (w : World) (hn : im.length = n) (hm : data.length = m) (h1 : SlAt (encSl encSec) w (Bl w.heap.size) A im) (hl : n ≤ 1000000) (hz : sizesN (lens im) = 0) (hd : m ≤ 9223372036854775807) (hv : I64 v) (hs2 : I64 s) (pn : Int) (hp : fitsN (lens im) (v, s, data) = pn) :
    Calls Try.prog 48 #[.slice A n c, .agg #[.int .i64 v, .int .i64 s, .slice D m dc]] w fun e w' => e = .returned (.int .i64 pn) ∧ Below w.heap.size w w' := by
  subst hn hm
  have H1 := Lib.hid h1; clear h1
  have hc := Lib.hid (imgCheck_any A c im.length im (w.alloc (.cells #[.int .i64 v, .int .i64 s, .slice D data.length dc] 35)) rfl (H1.out.fwd (ext_alloc (Below.refl _ _))) hl 0 hz)
  have HP := Lib.hid hp; have HV := Lib.hid hv; have HS := Lib.hid hs2
  clear hp hz hv hs2
  go_enter Try.func48, Try.ntmps48
  go_wp2_with fail
  refine hc.out.mono ?_
  rintro e w1 ⟨rfl, hb1⟩
  have hB1 : Below w.heap.size w w1 := (by repeat (first | exact Below.refl _ _ | assumption | refine ext_alloc ?_ | refine ext_drew ?_ | refine ext_trans ?_ (by assumption)))
  have hbox := boxAft hb1
  obtain ⟨t0, t1, t2, tf⟩ := blk3 hbox
  have hf := imgFits1_any A c im v s D dc data w1 (H1.out.fwd hB1) hl hd HV.out HS.out
  rw [HP.out] at hf
  have HF := Lib.hid hf; clear hf hbox
  go_wp2_with fail
  refine HF.out.mono ?_
  rintro e w2 ⟨rfl, hb2⟩
  have hB2 : Below w.heap.size w w2 := (by repeat (first | exact Below.refl _ _ | assumption | refine ext_alloc ?_ | refine ext_drew ?_ | refine ext_trans ?_ (by assumption)))
  clear t0 t1 t2 tf
  go_wp2
  go_ret
  exact ⟨rfl, hB2⟩
theorem one_box {w : World} {b : Nat} {T : TypeId} {c0 : Value} (h : w.heap[b]? = some (.cells #[c0] T (0, 0))) : w.cell? ⟨b, 0, none⟩ = some c0 ∧ ∀ j, w.frozen? ⟨b, j, none⟩ = false :=
  ⟨cell_of_row w b 0 _ T _ h, fun j => by simp [World.frozen?, h]⟩
theorem checkI1 (v s : Int) (m : Nat) (D : Option Addr) (dc : Nat) (w : World) (hd : m ≤ 9223372036854775807) (data : List Sec) (hm : data.length = m) (A : Option Addr) (c bx : Nat) (im : List (List Sec)) (hbx : w.heap[bx]? = some (.cells #[.slice A im.length c] 60 (0, 0))) (h1 : SlAt (encSl encSec) w (Bl w.heap.size) A im) (hz : sizesN (lens im) = 0) (hv : I64 v) (hs2 : I64 s) (pn : Int) (hp : fitsN (lens im) (v, s, data) = pn) :
    Calls Try.prog 47 #[.agg #[.int .i64 v, .int .i64 s, .slice D m dc], .pointer (some ⟨bx, 0, none⟩)] w fun e w' => e = .returned (.int .i64 pn) ∧ Below w.heap.size w w' := by
  have hl := (sizes_range hz).1
  rw [lens_len] at hl
  have hbl := (Array.getElem?_eq_some_iff.1 hbx).1
  have hc := Lib.hid (imgFits_any A c im.length im v s D dc m data (w.alloc (.cells #[.int .i64 v, .int .i64 s, .slice D m dc] 35)) rfl hm (h1.fwd (ext_alloc (Below.refl _ _))) (by omega) hz hd hv hs2 pn hp)
  obtain ⟨t0, tf⟩ := one_box hbx
  clear hp hz hv hs2 h1 hbx hm
  go_enter Try.func47, Try.ntmps47
  go_wp2_with fail
  refine hc.out.mono ?_
  rintro e w1 ⟨rfl, hb1⟩
  have hB1 : Below w.heap.size w w1 := (by repeat (first | exact Below.refl _ _ | assumption | refine ext_alloc ?_ | refine ext_drew ?_ | refine ext_trans ?_ (by assumption)))
  clear t0 tf
  go_wp2
  go_ret
  exact ⟨rfl, hB1⟩
set_option maxHeartbeats 4000000 in
theorem checkI_any (A : Option Addr) (c : Nat) (l : List Wr) (w : World) (h1 : SlAt encWr w (Bl w.heap.size) A l) (hs : l.length ≤ 9223372036854775807) (IA : Option Addr) (ic bx : Nat) (im : List (List Sec)) (hbx : w.heap[bx]? = some (.cells #[.slice IA im.length ic] 60 (0, 0))) (h2 : SlAt (encSl encSec) w (Bl w.heap.size) IA im) (hz0 : sizesN (lens im) = 0) (f : Wr → Int) (hf : fitsN (lens im) = f) :
    Calls Try.prog 44 #[.slice A l.length c, .func (.func 47) #[] #[.pointer (some ⟨bx, 0, none⟩)]] w fun e w' => e = .returned (.int .i64 (chkN f l)) ∧ Below w.heap.size w w' := by
  have H2 : Hid (∀ w', Below w.heap.size w w' → SlAt encWr w' (Bl w.heap.size) A l) := fun w' hb => h1.below hb
  have HI : Hid (∀ w', Below w.heap.size w w' → SlAt (encSl encSec) w' (Bl w'.heap.size) IA im) := fun w' hb => h2.fwd hb
  have hbl := (Array.getElem?_eq_some_iff.1 hbx).1
  have HBX : Hid (∀ w', Below w.heap.size w w' → w'.heap[bx]? = some (.cells #[.slice IA im.length ic] 60 (0, 0))) := fun w' hb => (hb.block _ hbl).trans hbx
  have HOK : Hid (∀ x, f x = 0 → 0 ≤ x.1 ∧ x.1 < 8 ∧ 0 < x.2.2.length ∧ 0 ≤ x.2.1 ∧ x.2.1 + x.2.2.length ≤ 4096) := fun x h => fits_ok hz0 (by rw [hf]; exact h)
  have HF := Lib.hid hf; have HZ0 := Lib.hid hz0
  clear h1 h2 hbx hf hz0
  go_enter Try.func44, Try.ntmps44
  go_wp2
  go_loopw [11] (fun i wr => ∃ k : Nat, k ≤ l.length ∧ i = .int .i64 k ∧ Below w.heap.size w wr ∧ Hid (∀ x ∈ (withPrev l).take k, stepErr f x = 0)) (fun i _ => l.length - (intOf i).toNat)
  case atStart => exact ⟨0, by omega, rfl, Below.refl _ _, by simp [Hid]⟩
  case round =>
    obtain ⟨k, hk, rfl, hB, hz⟩ := hrel
    by_cases hlt : k < l.length
    · obtain ⟨b, off, D, dc, rfl, hb, g0, g1, g2, hD, hn1, hn2, hi1, hi2⟩ := (H2.out wr hB).wr hlt
      have hbl : b < w.heap.size := hb
      have hnn : (0 : Int) ≤ k := by omega
      have hki : (k : Int) < l.length := by omega
      unfold maxLen at hn2
      have hn3 : l[k].2.2.length ≤ 9223372036854775807 := by omega
      have hsz := hB.size
      obtain ⟨pn, hpn⟩ : ∃ pn, Hid (f l[k] = pn) := ⟨f l[k], Lib.hid rfl⟩
      obtain ⟨x, hx⟩ : ∃ x, Hid (x = l[k]) := ⟨_, Lib.hid rfl⟩
      rw [← hx.out] at g0 g1 g2 hn1 hi1 hi2 hn3 hpn
      obtain ⟨v, s, data⟩ := x
      simp only at g0 g1 g2 hn1 hi1 hi2 hn3 hpn
      have hcall := fun W (hW : Below w.heap.size w W) => checkI1 v s data.length D dc W hn3 data rfl IA ic bx im (HBX.out W hW) (HI.out W hW) HZ0.out hi1 hi2 pn (by rw [HF.out]; exact hpn.out)
      have HCALL := Lib.hid hcall; clear hcall
      by_cases hp0 : pn = 0
      · have hp1 : (pn != 0) = false := by simp [hp0]
        have HP := Lib.hid hp0; clear hp0
        cases k with
        | zero =>
          have hpr : Hid ((withPrev l)[0]'(by rw [withPrev_len]; exact hlt) = (none, (v, s, data))) := by rw [withPrev_zero hlt, ← hx.out]; exact rfl
          simp only [Nat.zero_mul, Nat.add_zero] at g0 g1 g2
          go_wp2_with fail
          refine (HCALL.out _ (hB.alloc hsz _)).mono ?_
          rintro e w1 ⟨rfl, hb1⟩
          have HB1 := Lib.hid ((hB.alloc hsz _).trans (hb1.mono (by simp; omega)))
          clear g0 g1 g2
          go_wp2
          go_roundw
          case rel => exact ⟨1, hlt, by go_num, HB1.out, takeSnoc hlt _ hpr.out hz.out (by simp [stepErr, hpn.out, HP.out])⟩
          case measure => simp [intOf]; omega
        | succ k =>
          have hlt1 : k < l.length := by omega
          have hpr : Hid ((withPrev l)[k + 1]'(by rw [withPrev_len]; exact hlt) = (some l[k], (v, s, data))) := by rw [withPrev_succ hlt, ← hx.out]; exact rfl
          have hpok := HOK.out _ (takePrev hlt1 hz.out)
          obtain ⟨b', off', D', dc', he, hb', f0, f1, f2, hD', hm1, hm2, hj1, hj2⟩ := (H2.out wr hB).wr hlt1
          injection he with he
          injection he with he1 he2
          subst he1 he2
          obtain ⟨y, hy⟩ : ∃ y, Hid (y = l[k]) := ⟨_, Lib.hid rfl⟩
          rw [← hy.out] at f0 f1 f2 hm1 hj1 hj2 hpok hpr
          obtain ⟨v', s', data'⟩ := y
          simp only at f0 f1 f2 hm1 hj1 hj2 hpok
          obtain ⟨o1, o2, o3, o4, o5⟩ := hpok
          have e5 : ((k + 1 : Nat) : Int) = (k : Int) + 1 := by omega
          rw [e5] at hki ⊢
          have hk1 : (((k : Int) + 1) == 0) = false := by rw [beq_eq_false_iff_ne]; omega
          clear hD hD' hn1 hm1 hm2 hn2
          by_cases d1 : v < v'
          · have hst : Hid (stepErr f (some (v', s', data'), (v, s, data)) = 3) := by
              unfold stepErr
              rw [if_neg (by rw [hpn.out, HP.out]; simp)]
              exact if_pos (Or.inl d1)
            go_wp2_with fail
            refine (HCALL.out _ (hB.alloc hsz _)).mono ?_
            rintro e w1 ⟨rfl, hb1⟩
            have hB1 : Below w.heap.size w w1 := (hB.alloc hsz _).trans (hb1.mono (by simp; omega))
            have r0 := cellAft hb1 f0
            have r1 := cellAft hb1 f1
            have r2 := cellAft hb1 f2
            obtain ⟨t0, t1, t2, tf⟩ := blk3 (boxAft hb1)
            have hsz1 := hb1.size
            simp only [World.size_alloc] at hsz1
            have hwl : wr.heap.size < w1.heap.size := by omega
            have hbw : b < w1.heap.size := by omega
            have HB1 := Lib.hid hB1; clear hB1 hb1 f0 f1 f2 g0 g1 g2
            go_wp2
            go_ret
            refine ⟨ret_int ?_, HB1.out.alloc (by omega) _⟩
            have e := chk_at hlt _ hpr.out hz.out (by rw [hst.out]; decide)
            rw [e, hst.out]
          · by_cases d2 : v = v'
            · have d2' : (v == v') = true := by simp [d2]
              have HD2 := Lib.hid d2; clear d2
              by_cases d3 : s ≤ s' + data'.length
              · have hst : Hid (stepErr f (some (v', s', data'), (v, s, data)) = 3) := by
                  unfold stepErr
                  rw [if_neg (by rw [hpn.out, HP.out]; simp)]
                  exact if_pos (Or.inr ⟨HD2.out, d3⟩)
                go_wp2_with fail
                refine (HCALL.out _ (hB.alloc hsz _)).mono ?_
                rintro e w1 ⟨rfl, hb1⟩
                have hB1 : Below w.heap.size w w1 := (hB.alloc hsz _).trans (hb1.mono (by simp; omega))
                have r0 := cellAft hb1 f0
                have r1 := cellAft hb1 f1
                have r2 := cellAft hb1 f2
                obtain ⟨t0, t1, t2, tf⟩ := blk3 (boxAft hb1)
                have hsz1 := hb1.size
                simp only [World.size_alloc] at hsz1
                have hwl : wr.heap.size < w1.heap.size := by omega
                have hbw : b < w1.heap.size := by omega
                have HB1 := Lib.hid hB1; clear hB1 hb1 f0 f1 f2 g0 g1 g2
                go_wp2
                go_ret
                refine ⟨ret_int ?_, HB1.out.alloc (by omega) _⟩
                have e := chk_at hlt _ hpr.out hz.out (by rw [hst.out]; decide)
                rw [e, hst.out]
              · have hst : Hid (stepErr f (some (v', s', data'), (v, s, data)) = 0) := by
                  unfold stepErr
                  rw [if_neg (by rw [hpn.out, HP.out]; simp)]
                  exact if_neg (fun h => by have := HD2.out; simp only at h; omega)
                go_wp2_with fail
                refine (HCALL.out _ (hB.alloc hsz _)).mono ?_
                rintro e w1 ⟨rfl, hb1⟩
                have hB1 : Below w.heap.size w w1 := (hB.alloc hsz _).trans (hb1.mono (by simp; omega))
                have r0 := cellAft hb1 f0
                have r1 := cellAft hb1 f1
                have r2 := cellAft hb1 f2
                obtain ⟨t0, t1, t2, tf⟩ := blk3 (boxAft hb1)
                have hsz1 := hb1.size
                simp only [World.size_alloc] at hsz1
                have hwl : wr.heap.size < w1.heap.size := by omega
                have hbw : b < w1.heap.size := by omega
                have HB1 := Lib.hid hB1; clear hB1 hb1 f0 f1 f2 g0 g1 g2
                go_wp2
                go_roundw
                case rel => exact ⟨k + 1 + 1, hlt, by go_num, HB1.out.alloc (by omega) _, takeSnoc hlt _ hpr.out hz.out hst.out⟩
                case measure => simp [intOf]; omega
            · have d2' : (v == v') = false := by simp [d2]
              have HD2 := Lib.hid d2; clear d2
              have hst : Hid (stepErr f (some (v', s', data'), (v, s, data)) = 0) := by
                unfold stepErr
                rw [if_neg (by rw [hpn.out, HP.out]; simp)]
                exact if_neg (fun h => by have := HD2.out; simp only at h; omega)
              go_wp2_with fail
              refine (HCALL.out _ (hB.alloc hsz _)).mono ?_
              rintro e w1 ⟨rfl, hb1⟩
              have hB1 : Below w.heap.size w w1 := (hB.alloc hsz _).trans (hb1.mono (by simp; omega))
              have r0 := cellAft hb1 f0
              have r1 := cellAft hb1 f1
              have r2 := cellAft hb1 f2
              obtain ⟨t0, t1, t2, tf⟩ := blk3 (boxAft hb1)
              have hsz1 := hb1.size
              simp only [World.size_alloc] at hsz1
              have hwl : wr.heap.size < w1.heap.size := by omega
              have hbw : b < w1.heap.size := by omega
              have HB1 := Lib.hid hB1; clear hB1 hb1 f0 f1 f2 g0 g1 g2
              go_wp2
              go_roundw
              case rel => exact ⟨k + 1 + 1, hlt, by go_num, HB1.out.alloc (by omega) _, takeSnoc hlt _ hpr.out hz.out hst.out⟩
              case measure => simp [intOf]; omega
      · have hp1 : (pn != 0) = true := by simp [hp0]
        have HP := Lib.hid hp0; clear hp0
        have hst : Hid (∀ o : Option Wr, stepErr f (o, (v, s, data)) = pn) := fun o => by
          unfold stepErr
          rw [if_pos (by rw [hpn.out]; exact HP.out)]
          exact hpn.out
        go_wp2_with fail
        refine (HCALL.out _ (hB.alloc hsz _)).mono ?_
        rintro e w1 ⟨rfl, hb1⟩
        have HB1 := Lib.hid ((hB.alloc hsz _).trans (hb1.mono (by simp; omega)))
        clear g0 g1 g2
        go_wp2
        go_ret
        refine ⟨ret_int ?_, HB1.out⟩
        cases k with
        | zero =>
          have e := chk_at hlt _ ((withPrev_zero hlt).trans (by rw [← hx.out])) hz.out (by rw [hst.out]; exact HP.out)
          rw [e, hst.out]
        | succ k =>
          have e := chk_at hlt _ ((withPrev_succ hlt).trans (by rw [← hx.out])) hz.out (by rw [hst.out]; exact HP.out)
          rw [e, hst.out]
    · have hkk : k = l.length := by omega
      subst hkk
      go_wp2
      go_ret
      exact ⟨ret_int (chk_zero hz.out).symm, hB⟩
end Go.Proofs.Ytfahbhjlkdcnpaa
