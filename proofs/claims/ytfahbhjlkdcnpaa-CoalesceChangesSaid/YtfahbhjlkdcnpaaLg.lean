/-
  The walk of the law CoalesceChanges.
-/
import Derived.Test.YtfahbhjlkdcnpaaVc
import Derived.Test.YtfahbhjlkdcnpaaLf
set_option linter.unusedVariables false
set_option linter.unusedSimpArgs false
set_option linter.unusedSectionVars false
set_option linter.unnecessarySimpa false
namespace Go.Proofs.Ytfahbhjlkdcnpaa
open Go.RowKit Go.ChangeMaps

theorem applyX (A A2 : Option Addr) (c c2 n m : Nat) (im r : List (List Sec)) (l : List Wr) (en : Int) (hn : im.length = n) (hm : l.length = m) (hr : applyL im l = r) (he : applyErr im l = en) (w : World) (h1 : SlAt (encSl encSec) w (Bl w.heap.size) A im) (hl : n ≤ 1000000) (h2 : SlAt encWr w (Bl w.heap.size) A2 l) (hl2 : m ≤ 9223372036854775807) :
    Calls Try.prog 34 #[.slice A n c, .slice A2 m c2] w fun e w' => ∃ A c i, e = .returned (.tuple #[.slice A r.length c, .int .i64 i, .int .i64 en]) ∧ (r.length ≤ c ∧ c ≤ maxLen ∧ SlAt (encSl encSec) w' (Bl w'.heap.size) A r) ∧ Below w.heap.size w w' := by
  subst hn hm hr he
  exact (apply_any A A2 c c2 im l w h1 hl h2 hl2).mono fun _ _ ⟨A, c, i, h1, h2, h3, h4, h5⟩ => ⟨A, c, i, h1, ⟨h2, h3, h4.more (fun _ h => h.2)⟩, h5⟩
theorem fewImgX (A : Option Addr) (c : Nat) (im : List (List Sec)) (w : World) (q : Bool) (hq : fewI im = q) (h1 : SlAt (encSl encSec) w (Bl w.heap.size) A im) (hs : im.length ≤ 9223372036854775807) :
    Calls Try.prog 33 #[.slice A im.length c] w fun e w' => e = .returned (.bool q) ∧ w = w' := by
  subst hq
  exact (fewImg_any A c im w h1 hs).mono fun _ _ ⟨h1, h2⟩ => ⟨h1, h2.symm⟩
theorem fewI_len {im : List (List Sec)} (h : fewI im = true) : im.length ≤ 9 ∧ ∀ r ∈ im, r.length ≤ 24 := by
  unfold fewI at h
  rw [Bool.and_eq_true] at h
  refine ⟨by simpa using h.1, fun r hr => ?_⟩
  have := List.all_eq_true.1 h.2 r hr
  simpa using this
theorem checkX (A Z : Option Addr) (c zc n m : Nat) (l : List Wr) (sz : List Int) (hn : l.length = n) (hm : sz.length = m) (w : World) (h1 : SlAt encWr w (Bl w.heap.size) A l) (hs : n ≤ 9223372036854775807) (h2 : SlAt encInt w (Bl w.heap.size) Z sz) (hzl : m ≤ 9223372036854775807) (r : Int) (hr : chkS l sz = r) :
    Calls Try.prog 19 #[.slice A n c, .slice Z m zc] w fun e w' => e = .returned (.int .i64 r) ∧ Below w.heap.size w w' := by
  subst hn hm
  exact check_any A Z c zc l sz w h1 hs h2 hzl r hr
set_option maxHeartbeats 8000000 in
set_option maxRecDepth 100000 in
theorem changes_any (A A2 : Option Addr) (c c2 : Nat) (im : List (List Sec)) (l : List Wr) (w : World) (h1 : SlAt (encSl encSec) w (Bl w.heap.size) A im) (k1 : im.length ≤ c) (k1' : c ≤ maxLen) (h2 : SlAt encWr w (Bl w.heap.size) A2 l) (k2 : l.length ≤ c2) (k2' : c2 ≤ maxLen) :
    Calls Try.prog 11 #[.slice A im.length c, .slice A2 l.length c2] w (LawRet w) := by
  have H1 := Lib.hid h1; clear h1
  have H2 := Lib.hid h2; clear h2
  obtain ⟨q1, HQ1⟩ : ∃ q, Hid (fewI im = q) := ⟨_, Lib.hid rfl⟩
  obtain ⟨q2, HQ2⟩ : ∃ q, Hid (fewL l = q) := ⟨_, Lib.hid rfl⟩
  have hl1 := max_len k1 k1'
  have hl2 := max_len k2 k2'
  go_enter Try.func11, Try.ntmps11
  go_wp2_with fail
  refine (fewImgX _ _ _ _ q1 HQ1.out H1.out hl1).mono ?_
  rintro e w' ⟨rfl, rfl⟩
  cases q1 with
  | false =>
    go_wp2_with fail
    refine (awake_any _).mono ?_
    rintro e w99 ⟨rfl, hb99⟩
    have hend : Below (w).heap.size w w99 := (by repeat (first | exact Below.refl _ _ | assumption | refine ext_alloc ?_ | refine ext_drew ?_ | refine ext_trans ?_ (by assumption)))
    go_wp2
    go_ret
    exact ⟨rfl, hend⟩
  | true =>
    go_wp2_with fail
    refine (fewX _ _ _ _ q2 HQ2.out H2.out hl2).mono ?_
    rintro e w' ⟨rfl, hww⟩
    subst hww
    cases q2 with
    | false =>
      go_wp2_with fail
      refine (awake_any _).mono ?_
      rintro e w99 ⟨rfl, hb99⟩
      have hend : Below (w').heap.size w' w99 := (by repeat (first | exact Below.refl _ _ | assumption | refine ext_alloc ?_ | refine ext_drew ?_ | refine ext_trans ?_ (by assumption)))
      go_wp2
      go_ret
      exact ⟨rfl, hend⟩
    | true =>
      have hi9 := (fewI_len HQ1.out).1
      have hl40 := few_len HQ2.out
      obtain ⟨en, hen⟩ : ∃ en, Hid (applyErr im l = en) := ⟨_, Lib.hid rfl⟩
      obtain ⟨ra, hra⟩ : ∃ r, Hid (applyL im l = r) := ⟨_, Lib.hid rfl⟩
      go_wp2_with fail
      refine (applyX A A2 c c2 _ _ im ra l en rfl rfl hra.out hen.out w' H1.out (by omega) H2.out hl2).mono ?_
      rintro e w1 ⟨A3, c3, i3, rfl, hs1, hb1⟩
      have HS1 := Lib.hid hs1; clear hs1
      by_cases g1 : en = 0
      · have g1' : (en != 0) = false := by simp [g1]
        have G1 := Lib.hid g1; clear g1
        have hen0 := hen.out.trans G1.out
        have HSZ : Hid (sizesN (lens im) = 0) := by
          unfold applyErr at hen0
          rcases Decidable.em (sizesN (lens im) = 0) with h | h
          · exact h
          · rw [if_pos h] at hen0; exact absurd hen0 h
        have HFIT : Hid (∀ x ∈ l, fitsN (lens im) x = 0) := by
          unfold applyErr at hen0
          rw [if_neg (by rw [HSZ.out]; simp)] at hen0
          exact errOf_conv2 hen0
        have HPL : Hid (∀ x ∈ l, placedN x = 0) := fun x hx => fits_placed1 HSZ.out (HFIT.out x hx)
        obtain ⟨f, hf⟩ : ∃ f, Hid (f = foldS l) := ⟨_, Lib.hid rfl⟩
        have hfl : f.length ≤ 32768 := by rw [hf.out]; exact foldS_len _
        have hF1 : Hid (foldL l = f ∧ errOf placedN l = 0) := ⟨by rw [foldL, errOf_zero HPL.out, if_pos rfl, hf.out], errOf_zero HPL.out⟩
        have hF2 : Hid (foldL f = f ∧ errOf placedN f = 0) := by
          have hpf : ∀ x ∈ f, placedN x = 0 := by rw [hf.out]; exact placed_fold l
          refine ⟨?_, errOf_zero hpf⟩
          rw [foldL, errOf_zero hpf, if_pos rfl]
          rw [hf.out]
          exact fold_fold HPL.out
        have hA2 : Hid (applyErr im f = 0 ∧ applyL im f = ra) := by
          have hff : ∀ x ∈ f, fitsN (lens im) x = 0 := by rw [hf.out]; exact fits_fold HSZ.out HFIT.out
          have e1 : applyErr im f = 0 := by unfold applyErr; rw [if_neg (by rw [HSZ.out]; simp), errOf_zero hff]
          refine ⟨e1, ?_⟩
          rw [← hra.out]
          unfold applyL
          rw [e1, if_pos rfl, if_pos (hen.out.trans G1.out), hf.out]
          exact changes_same HSZ.out HFIT.out
        clear hen0
        go_wp2_with fail
        refine (foldN A2 c2 _ l f 0 rfl hF1.out.1 hF1.out.2 w1 (H2.out.fwd hb1) hl2).mono ?_
        rintro e w2 ⟨A4, c4, rfl, hs2, hb2⟩
        have HS2 := Lib.hid hs2; clear hs2
        have hB2 : Below w'.heap.size w' w2 := ext_trans hb1 hb2
        go_wp2_with fail
        refine (applyX A A4 c c4 _ _ im ra f 0 rfl rfl hA2.out.2 hA2.out.1 w2 (H1.out.fwd hB2) (by omega) HS2.out.2.2 (by omega)).mono ?_
        rintro e w3 ⟨A5, c5, i5, rfl, hs3, hb3⟩
        have HS3 := Lib.hid hs3; clear hs3
        have hB3 : Below w'.heap.size w' w3 := ext_trans hB2 hb3
        go_wp2_with fail
        refine (imgSame_any A3 A5 c3 c5 _ _ ra ra w3 rfl rfl (HS1.out.2.2.fwd (ext_trans hb2 hb3)) HS3.out.2.2 (max_len HS1.out.1 HS1.out.2.1) (max_len HS3.out.1 HS3.out.2.1) true (by simp)).mono ?_
        rintro e w4 ⟨rfl, hb4⟩
        have hB4 : Below w'.heap.size w' w4 := ext_trans hB3 hb4
        have hb24 : Below w2.heap.size w2 w4 := ext_trans hb3 hb4
        have HI : Hid (∀ w', Below w4.heap.size w4 w' → SlAt (encSl encSec) w' (Bl w4.heap.size) A im) := fun w' hb => (H1.out.fwd hB4).below hb
        go_wp2_with fail
        go_loopw [13, 63] (fun v i wr => ∃ (k : Nat) (B : Option Addr) (vc : Nat) (out : List Int), k ≤ im.length ∧ i = .int .i64 k ∧ v = .slice B out.length vc ∧ Below w4.heap.size w4 wr ∧ Hid (out = (lens im).take k) ∧ Hid (OwnW encInt wr w4.heap.size w4.heap.size 3 (.slice B out.length vc) out)) (fun _ i _ => im.length - (intOf i).toNat)
        case atStart => exact ⟨0, none, 0, [], by omega, rfl, rfl, Below.refl _ _, by simp [Hid], OwnW.nil_⟩
        case round =>
          obtain ⟨k, B, vc, out, hk, rfl, rfl, hB, hout, hown⟩ := hrel
          have hol : out.length ≤ 9 := by
            rw [hout.out, List.length_take]; omega
          by_cases hlt : k < im.length
          · obtain ⟨b, off, D, dc, rfl, hb, e0, hD, hn1, hn2⟩ := (HI.out wr hB).sl hlt
            have hnn : (0 : Int) ≤ k := by omega
            have hki : (k : Int) < im.length := by omega
            have hsz := hB.size
            unfold maxLen at hn2
            have hi64 : I64 (im[k].length : Int) := by unfold I64; omega
            obtain ⟨rn, hrn⟩ : ∃ n, Hid (n = (im[k]'hlt).length) := ⟨_, Lib.hid rfl⟩
            rw [← hrn.out] at e0 hn1 hi64
            have HO1 := Lib.hid (Own.alloc hown.out (fun _ h => h.1.2) (.cells #[.int .i64 rn] 3))
            have HRD : Hid (encInt.rd (wr.alloc (.cells #[.int .i64 rn] 3)) (fun b => Nw w4.heap.size wr.heap.size b ∧ (Value.slice B out.length vc).ownBlock ≠ some b) [.int .i64 rn] (rn : Int)) := ⟨rfl, hi64⟩
            clear hi64 hD
            go_wp2_with (at_builtin; refine Hid.out ?_)
            change wpList _ _ _ _ _ _
            refine wpList_app1 (E := encInt) tyInts rfl _ _ rfl rfl HO1.out (rn : Int) [.int .i64 rn] rfl HRD.out (heap_alloc_new _ _) (fun _ h => by simp; have := h.1.2; omega) (by simp; omega) (by unfold maxLen; omega) (by omega) ?_
            intro A' c' w5 hown5 hg5 hat5
            have hlt1 : ∀ g, (Value.slice B out.length vc).ownBlock = some g → g < wr.heap.size := fun g hg => (hown.out.lt g hg).2
            have hok5 := Lib.hid (OwnW.app (hown5.more (S' := fun b => Nw w4.heap.size (wr.alloc (.cells #[.int .i64 rn] 3)).heap.size b ∧ (Value.slice B out.length vc).ownBlock ≠ some b) (fun b hb => ⟨hb.1.mono (Nat.le_refl _) (by simp), hb.2⟩) (OwnW_new hown5 hat5 hlt1 (by simp))) hg5 hat5)
            have hB5 := Lib.hid ((ext_alloc (o := .cells #[.int .i64 rn] 3) hB).grown hg5 (by simp; omega) (fun g h => (hown.out.lt g h).1))
            clear hown5 hg5 hat5 hlt1
            go_wp2
            go_roundw
            case rel =>
              refine ⟨k + 1, A', c', out ++ [(rn : Int)], hlt, by go_num, by simp, hB5.out, ?_, by have := hok5.out; simpa [Hid] using this⟩
              rw [Hid, hout.out, List.take_succ_eq_append_getElem (by rw [lens_len]; exact hlt), lens_at hlt, hrn.out]
            case measure => simp [intOf]; omega
          · have hkk : k = im.length := by omega
            subst hkk
            obtain ⟨_, p1, p2, p3⟩ := hown.out.parts
            have hout2 : Hid (out = lens im) := by rw [Hid, hout.out, List.take_of_length_le (by rw [lens_len]; exact Nat.le_refl _)]
            have P3 := Lib.hid (p3.more (fun _ h => h.2) : SlAt encInt wr (Bl wr.heap.size) B out); clear p3
            have hBr : Below w2.heap.size w2 wr := ext_trans hb24 hB
            obtain ⟨t1, ht1⟩ : ∃ t, Hid (sectsL f = t) := ⟨_, Lib.hid rfl⟩
            obtain ⟨t2, ht2⟩ : ∃ t, Hid (sectsL l = t) := ⟨_, Lib.hid rfl⟩
            have ht12 : t1 ≤ t2 := by rw [← ht1.out, ← ht2.out, hf.out]; exact sects_le l
            have ht960 : t2 ≤ 960 := by rw [← ht2.out]; exact few_sects HQ2.out
            have hdec : (t1 : Int) ≤ t2 := by omega
            go_wp2_with fail
            refine (foldN A4 c4 _ f f 0 rfl hF2.out.1 hF2.out.2 wr (HS2.out.2.2.fwd hBr) (by omega)).mono ?_
            rintro e w5 ⟨A6, c6, rfl, hs5, hb5⟩
            have HS5 := Lib.hid hs5; clear hs5
            go_wp2_with fail
            refine (checkX A4 B c4 vc _ _ f out rfl rfl w5 (HS2.out.2.2.fwd (ext_trans hBr hb5)) (by omega) (P3.out.fwd hb5) (by omega) 0 (by rw [hout2.out, hf.out]; exact changes_check HSZ.out HFIT.out)).mono ?_
            rintro e w6 ⟨rfl, hb6⟩
            have hB6 : Below wr.heap.size wr w6 := ext_trans hb5 hb6
            go_wp2_with fail
            refine (sectorsX A4 c4 _ t1 f w6 rfl ht1.out (HS2.out.2.2.fwd (ext_trans hBr hB6)) (by omega) (by omega)).mono ?_
            rintro e w7 ⟨rfl, hb7⟩
            have hB7 : Below wr.heap.size wr w7 := ext_trans hB6 hb7
            go_wp2_with fail
            refine (sectorsX A2 c2 _ t2 l w7 rfl ht2.out (H2.out.fwd (ext_trans (ext_trans hB4 hB) hB7)) hl2 (by omega)).mono ?_
            rintro e w8 ⟨rfl, hb8⟩
            have hB8 : Below wr.heap.size wr w8 := ext_trans hB7 hb8
            go_wp2_with fail
            refine (sameX A6 A4 c6 c4 _ _ f f rfl rfl w8 (HS5.out.2.2.fwd (ext_trans (ext_trans hb6 hb7) hb8)) (HS2.out.2.2.fwd (ext_trans hBr hB8)) (by omega) (by omega) rfl).mono ?_
            rintro e w9 ⟨rfl, hb9⟩
            go_wp2_with fail
            refine (awake_any _).mono ?_
            rintro e w10 ⟨rfl, hb10⟩
            have hend : Below w'.heap.size w' w10 := ext_trans (ext_trans hB4 hB) (ext_trans (ext_trans hB8 hb9) hb10)
            go_wp2
            go_ret
            exact ⟨rfl, hend⟩
      · have g1' : (en != 0) = true := by simp [g1]
        have G1 := Lib.hid g1; clear g1
        go_wp2_with fail
        refine (awake_any _).mono ?_
        rintro e w99 ⟨rfl, hb99⟩
        have hend : Below (w').heap.size w' w99 := (by repeat (first | exact Below.refl _ _ | assumption | refine ext_alloc ?_ | refine ext_drew ?_ | refine ext_trans ?_ (by assumption)))
        go_wp2
        go_ret
        exact ⟨rfl, hend⟩
end Go.Proofs.Ytfahbhjlkdcnpaa
