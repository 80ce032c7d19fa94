/-
  The reference's Check of snapshots.
-/
import Derived.Test.YtnkmklnlaepdeaaGreatSn5
import Derived.BigQuiet
set_option linter.unusedVariables false
set_option linter.unusedSimpArgs false
set_option linter.unusedSectionVars false
set_option linter.unnecessarySimpa false
namespace Go.Proofs.YtnkmklnlaepdeaaGreat
open Go.RowKit Go.Shelf
attribute [local go_sem] Oper.semAt_some

set_option maxRecDepth 100000 in
set_option maxHeartbeats 4000000 in
theorem refSnCheck_any (A A2 : Option Addr) (c c2 n m : Nat) (im : Img) (l : List Snp) (r : Int) (w : World) (hn : im.length = n) (hm : l.length = m) (hr : snE (im, l) = r) (h1 : SlAt (encSl encSec) w (Bl w.heap.size) A im) (h2 : SlAt encSnp w (Bl w.heap.size) A2 l) (hl1 : n ≤ 100000) (hl2 : m ≤ 9223372036854775807) :
    Calls Tryz.prog 25 #[.agg #[.slice A n c, .slice A2 m c2]] w fun e w' => e = .returned (.int .i64 r) ∧ Below w.heap.size w w' := by
  subst hn hm
  have HR := Lib.hid hr; clear hr
  have H1 : Hid (∀ w', Below w.heap.size w w' → SlAt (encSl encSec) w' (Bl w.heap.size) A im) := fun w' hb => h1.below hb
  have H2 : Hid (∀ w', Below w.heap.size w w' → SlAt encSnp w' (Bl w.heap.size) A2 l) := fun w' hb => h2.below hb
  clear h1 h2
  obtain ⟨n0, hn0⟩ : ∃ n0, w.heap.size = n0 := ⟨_, rfl⟩
  obtain ⟨W0, hW0⟩ : ∃ W0, w.alloc (.cells #[.slice A im.length c, .slice A2 l.length c2] 29) = W0 := ⟨_, rfl⟩
  have hB0 : Below n0 w W0 := by rw [← hW0, ← hn0]; exact ext_alloc (Below.refl _ _)
  have hr0 : W0.heap[n0]? = some (.cells #[.slice A im.length c, .slice A2 l.length c2] 29 (0, 0)) := by rw [← hW0, ← hn0]; exact heap_alloc_new _ _
  have hs0 : n0 < W0.heap.size := (Array.getElem?_eq_some_iff.1 hr0).1
  have hBL : Hid (∀ (W : World), Below n0 w W → ∀ g, Bl w.heap.size g → Bl W.heap.size g) := fun W hb g hg => by have h := hb.size; have : g < w.heap.size := hg; show g < W.heap.size; omega
  have HCC : Hid (∀ W, Below W0.heap.size W0 W → W.cell? ⟨n0, 0, none⟩ = some (.slice A im.length c) ∧ W.cell? ⟨n0, 1, none⟩ = some (.slice A2 l.length c2)) := fun W hb => by
    obtain ⟨a, b, _⟩ := blk2 ((hb.block n0 (by omega)).trans hr0)
    exact ⟨a, b⟩
  obtain ⟨z, hz⟩ : ∃ z, Hid (sizesN (lens im) = z) := ⟨_, rfl⟩
  have HCK := Lib.hid (refCheck07_any A c im.length im W0 rfl ((H1.out W0 (by rw [hn0]; exact hB0)).more (hBL.out W0 hB0)) (by omega) z hz.out)
  obtain ⟨c0, c1⟩ := HCC.out W0 (Below.refl _ _)
  clear hr0
  go_enter Tryz.func25, Tryz.ntmps25
  go_wp2_with fail
  refine HCK.out.mono ?_
  rintro e w1 ⟨rfl, hb1⟩
  have hbw1 : Below n0 w w1 := hB0.trans (hb1.mono (by omega))
  clear HCK hW0 c0 c1
  by_cases hx0 : z = 0
  case neg =>
    have hx0' : (z != 0) = true := by simp [hx0]
    have hE : Hid (r = z) := by rw [Hid, ← HR.out, snE, if_pos (by simp only; rw [hz.out]; exact hx0), hz.out]
    clear hx0
    go_wp2_with fail
    go_ret
    rw [hE.out]
    exact ⟨rfl, by rw [hn0]; exact hbw1⟩
  have hx0' : (z != 0) = false := by simp [hx0]
  have HOK : Hid (sizesN (lens im) = 0) := by rw [Hid, hz.out, hx0]
  clear hx0 hz
  obtain ⟨c0, c1⟩ := HCC.out w1 hb1
  by_cases hx1 : 1024 < l.length
  · have hE : Hid (r = 6) := by rw [Hid, ← HR.out, snE, if_neg (by simp only; rw [HOK.out]; simp), if_pos hx1]
    have hx1' : (1024 : Int) < l.length := by omega
    clear hx1
    go_wp2_with fail
    go_ret
    rw [hE.out]
    exact ⟨rfl, by rw [hn0]; exact hbw1⟩
  have hE : Hid (r = snpsE (lens im) (-1) 0 l) := by rw [Hid, ← HR.out, snE, if_neg (by simp only; rw [HOK.out]; simp), if_neg hx1]
  have hx1' : ¬ (1024 : Int) < l.length := by omega
  go_wp2_with fail
  clear c0 c1 hx1'
  go_loopw [4] (fun i wr => ∃ k : Nat, k ≤ l.length ∧ i = .int .i64 k ∧ Below W0.heap.size W0 wr ∧ Hid (snpsE (lens im) (-1) 0 (l.take k) = 0)) (fun i _ => l.length - (intOf i).toNat)
  case atStart => exact ⟨0, by omega, rfl, hb1, by simp [Hid, snpsE]⟩
  case round =>
    obtain ⟨k, hk, rfl, hB, hp⟩ := hrel
    obtain ⟨c0, c1⟩ := HCC.out wr hB
    have hbw : Below n0 w wr := hB0.trans (hB.mono (by omega))
    by_cases hlt : k < l.length
    · obtain ⟨b, off, D, dc, rfl, hb, g0, g1, g2, hD, hd1, hd2, hi1, hi2⟩ := (H2.out wr (by rw [hn0]; exact hbw)).snp hlt
      have hki : (k : Int) < l.length := by omega
      have hnn : (0 : Int) ≤ k := by omega
      have hszr := hB.size
      have hstep : Hid (snpsE (lens im) (-1) 0 (l.take (k + 1)) = snpE (lens im) (lastN (l.take k)) (lastT (l.take k)) l[k]) := snpsE_step hp.out hlt
      have hbad : Hid (∀ v, snpE (lens im) (lastN (l.take k)) (lastT (l.take k)) l[k] = v → v ≠ 0 → r = v) := fun v h1 h2 => by rw [hE.out, snpsE_bad (k := k) (by rw [hstep.out, h1]; exact h2), hstep.out, h1]
      have hpre : Hid (∀ j, k = j + 1 → ∃ (hj : j < l.length), lastN (l.take k) = l[j].1 ∧ lastT (l.take k) = l[j].2.1 ∧ wr.cell? ⟨b, off + j * 3, none⟩ = some (.int .i64 l[j].1) ∧ wr.cell? ⟨b, off + j * 3 + 1, none⟩ = some (.int .i64 l[j].2.1)) := fun j hj => by
        subst hj
        obtain ⟨b', off', D', dc', e', _, k0, k1, _⟩ := (H2.out wr (by rw [hn0]; exact hbw)).snp (k := j) (by omega)
        simp only [Option.some.injEq, Addr.mk.injEq, and_true] at e'
        obtain ⟨rfl, rfl⟩ := e'
        exact ⟨by omega, (lastN_take (by omega)).1, (lastN_take (by omega)).2, k0, k1⟩
      obtain ⟨x, hx⟩ : ∃ x, l[k] = x := ⟨_, rfl⟩
      rw [hx] at g0 g1 g2 hD hd1 hi1 hi2 hstep hbad
      obtain ⟨num, tm, sv⟩ := x
      simp only at g0 g1 g2 hD hd1 hi1 hi2
      clear hx
      obtain ⟨W5, hW5⟩ : ∃ W5, wr.alloc (.cells #[.int .i64 num, .int .i64 tm, .slice D sv.length dc] 45) = W5 := ⟨_, rfl⟩
      have hb5 : Below wr.heap.size wr W5 := by rw [← hW5]; exact ext_alloc (Below.refl _ _)
      have hr5 : W5.heap[wr.heap.size]? = some (.cells #[.int .i64 num, .int .i64 tm, .slice D sv.length dc] 45 (0, 0)) := by rw [← hW5]; exact heap_alloc_new _ _
      have hb05 : Below W0.heap.size W0 W5 := ext_trans hB hb5
      have HW5 := Lib.hid hW5
      clear hW5
      go_upto_region 10 with (fail)
      rw [HW5.out]
      have hbw5 : Below n0 w W5 := hB0.trans (hb05.mono (by omega))
      clear c0 c1 g0 g1 g2
      obtain ⟨c0, c1⟩ := HCC.out W5 hb05
      obtain ⟨x0, x1, x2, _⟩ := blk3 hr5
      by_cases e1 : num < 0
      · have hq : Hid (r = 2) := hbad.out 2 (by unfold snpE; rw [if_pos (by simp [inT]; omega)]) (by decide)
        go_wp2_with fail
        go_ret
        rw [hq.out]
        exact ⟨rfl, by first | exact hbw5 | (rw [hn0]; exact hbw5)⟩
      by_cases e2 : 1073741824 < num
      · have hq : Hid (r = 2) := hbad.out 2 (by unfold snpE; rw [if_pos (by simp [inT]; omega)]) (by decide)
        go_wp2_with fail
        go_ret
        rw [hq.out]
        exact ⟨rfl, by first | exact hbw5 | (rw [hn0]; exact hbw5)⟩
      have e1' : decide (num < 0) = false := decide_eq_false e1
      have e2' : decide (1073741824 < num) = false := decide_eq_false e2
      cases k with
      | zero =>
        have hd : decide ((0 : Int) < ((0 : Nat) : Int)) = false := by decide
        go_upto_region 12 with (fail)
        go_quiet (fail)
        have hl0 : lastN (l.take 0) = -1 ∧ lastT (l.take 0) = 0 := by simp [lastN, lastT]
        rw [hl0.1, hl0.2] at hstep hbad
        have hn1 : inT num = true := by simp [inT]; omega
        generalize hWq : W5.drewN _ = W6
        have hb6 : Below n0 w W6 := by rw [← hWq]; exact ⟨hbw5.os, hbw5.tape, hbw5.output, hbw5.size, hbw5.block⟩
        have hb06 : Below W0.heap.size W0 W6 := by rw [← hWq]; exact ⟨hb05.os, hb05.tape, hb05.output, hb05.size, hb05.block⟩
        have z1 : W6.cell? ⟨wr.heap.size, 1, none⟩ = some (.int .i64 tm) := by rw [← hWq]; exact x1
        have z2 : W6.cell? ⟨wr.heap.size, 2, none⟩ = some (.slice D sv.length dc) := by rw [← hWq]; exact x2
        by_cases t1 : tm < 0
        · have t1' : decide (tm < 0) = true := decide_eq_true t1
          have hq : Hid (r = 24) := hbad.out 24 (by unfold snpE; rw [if_neg (by simp [hn1]), if_neg (by simp only; omega), if_pos (Or.inl (by simp [inT]; omega))]) (by decide)
          go_upto_region 14 with (fail)
          go_quiet (fail)
          go_wp2_with fail
          go_ret
          rw [hq.out]
          exact ⟨rfl, ⟨hb6.os, hb6.tape, hb6.output, hb6.size, fun k hk => hb6.block k (by omega)⟩⟩
        have t1' : decide (tm < 0) = false := decide_eq_false t1
        by_cases t2 : 1073741824 < tm
        · have t2' : decide (1073741824 < tm) = true := decide_eq_true t2
          have hq : Hid (r = 24) := hbad.out 24 (by unfold snpE; rw [if_neg (by simp [hn1]), if_neg (by simp only; omega), if_pos (Or.inl (by simp [inT]; omega))]) (by decide)
          go_upto_region 14 with (fail)
          go_quiet (fail)
          go_wp2_with fail
          go_ret
          rw [hq.out]
          exact ⟨rfl, ⟨hb6.os, hb6.tape, hb6.output, hb6.size, fun k hk => hb6.block k (by omega)⟩⟩
        have t2' : decide (1073741824 < tm) = false := decide_eq_false t2
        have hn2 : inT tm = true := by simp [inT]; omega
        have hfin : Hid (snpE (lens im) (-1) 0 (num, tm, sv) = chkS sv (lens im)) := by rw [Hid]; unfold snpE; rw [if_neg (by simp [hn1]), if_neg (by simp only; omega), if_neg (by simp [hn2]; omega)]
        go_upto_region 14 with (fail)
        go_quiet (fail)
        generalize hWr : W6.drewN _ = W7
        have hb7 : Below n0 w W7 := by rw [← hWr]; exact ⟨hb6.os, hb6.tape, hb6.output, hb6.size, fun k hk => hb6.block k (by omega)⟩
        have hb07 : Below W0.heap.size W0 W7.drew := by rw [← hWr]; exact ⟨hb06.os, hb06.tape, hb06.output, hb06.size, hb06.block⟩
        have v2 : W7.drew.cell? ⟨wr.heap.size, 2, none⟩ = some (.slice D sv.length dc) := by rw [← hWr]; exact z2
        obtain ⟨d0, d1⟩ := HCC.out W7.drew hb07
        have hb7d : Below n0 w W7.drew := hb7.drew
        have HSZ := Lib.hid (refSizesOf_any A c im.length im W7.drew rfl ((H1.out W7.drew (by rw [hn0]; exact hb7d)).more (hBL.out W7.drew hb7d)) (by omega))
        clear z1 z2 c0 c1 x0 x1 x2
        have hib7 : wr.heap.size < W7.drew.heap.size := by rw [← hWr, ← hWq]; exact (Array.getElem?_eq_some_iff.1 hr5).1
        have HSV : Hid (∀ W, Below W7.drew.heap.size W7.drew W → SlAt encWr W (Bl W.heap.size) D sv) := fun W hb => (hD.blk (w' := W) (fun g hg => ((hb.block g (by have : g < w.heap.size := hg; have := hb7d.size; omega)).trans ((hb7d.block g (by have : g < w.heap.size := hg; omega)).trans ((hbw.block g (by have : g < w.heap.size := hg; omega)).symm))))).more (fun g hg => by have : g < w.heap.size := hg; have h1 := hb7d.size; have h2 := hb.size; show g < W.heap.size; omega)
        have hll : (lens im).length = im.length := lens_len im
        obtain ⟨q, hq⟩ : ∃ q, Hid (chkS sv (lens im) = q) := ⟨_, rfl⟩
        have hsvl : sv.length ≤ 9223372036854775807 := by unfold maxLen at hd2; omega
        go_upto_region 16 with (fail)
        go_region_law (first | (go_simp; go_at_call 47; refine HCH.out.mono ?_; rintro e w9 ⟨rfl, hb9⟩) | (go_simp; go_at_call 48; refine HSZ.out.mono ?_; rintro e w8 ⟨Z, zc, rfl, s1, s2, s3, hb8⟩; have v3 := (World.cell?_of_block (a := ⟨wr.heap.size, 2, none⟩) (hb8.block wr.heap.size hib7)).trans v2; have HCH := Lib.hid (refCheck_any D Z dc zc sv (lens im) w8 (HSV.out w8 hb8) hsvl (s3.more (fun g hg => hg.2)) (by rw [hll]; omega) q hq.out); rw [hll] at HCH ⊢))
        all_goals
          have hbz : Below W7.drew.heap.size W7.drew w9 := ext_trans hb8 hb9
          have hb9w : Below n0 w w9 := hb7d.trans (hbz.mono (by have := hb7d.size; omega))
          have hb09 : Below W0.heap.size W0 w9 := ext_trans hb07 hbz
          by_cases hq0 : q = 0
          · have hq0' : (q != 0) = false := by simp [hq0]
            have hnext : Hid (snpsE (lens im) (-1) 0 (l.take (0 + 1)) = 0) := by rw [Hid, hstep.out, hfin.out, hq.out, hq0]
            clear hq0 v2 v3 d0 d1 s3 HCH
            go_wp2_with fail
            go_roundw
            case rel => exact ⟨0 + 1, hlt, by go_num, hb09, hnext.out⟩
            case measure => simp [intOf]; omega
          · have hq0' : (q != 0) = true := by simp [hq0]
            have hqr : Hid (r = q) := hbad.out q (by rw [hfin.out, hq.out]) hq0
            clear hq0 v2 v3 d0 d1 s3 HCH
            go_wp2_with fail
            go_ret
            rw [hqr.out]
            exact ⟨rfl, by first | exact hb9w | (rw [hn0]; exact hb9w)⟩
      | succ j =>
        obtain ⟨hj, hln, hlt2, y0, y1⟩ := hpre.out j rfl
        have e5 : ((j + 1 : Nat) : Int) = (j : Int) + 1 := by omega
        obtain ⟨ln, hlnx⟩ : ∃ x, l[j].1 = x := ⟨_, rfl⟩
        obtain ⟨lt, hltx⟩ : ∃ x, l[j].2.1 = x := ⟨_, rfl⟩
        rw [hlnx] at hln y0
        rw [hltx] at hlt2 y1
        rw [hln, hlt2] at hstep hbad
        have hbwr : b < wr.heap.size := by have : b < w.heap.size := hb; have := hbw.size; omega
        have y0' : W5.cell? ⟨b, off + j * 3, none⟩ = some (.int .i64 ln) := (hb5.cell (p := ⟨b, off + j * 3, none⟩) hbwr).trans y0
        have y1' : W5.cell? ⟨b, off + j * 3 + 1, none⟩ = some (.int .i64 lt) := (hb5.cell (p := ⟨b, off + j * 3 + 1, none⟩) hbwr).trans y1
        have hjl : (j : Int) < l.length := by omega
        have hjn : (0 : Int) ≤ j := by omega
        clear hpre hlnx hltx y0 y1 hln hlt2
        rw [e5] at hki hnn ⊢
        have hd : decide ((0 : Int) < (j : Int) + 1) = true := decide_eq_true (by omega)
        have hn1 : inT num = true := by simp [inT]; omega
        by_cases n1 : num ≤ ln
        · have hq : Hid (r = 8) := hbad.out 8 (by unfold snpE; rw [if_neg (by simp [hn1]), if_pos (by simp only; omega)]) (by decide)
          have n1' : decide (num ≤ ln) = true := decide_eq_true n1
          go_upto_region 12 with (fail)
          go_quiet (fail)
          generalize hWq : W5.drewN _ = W6
          have hb6 : Below n0 w W6 := by rw [← hWq]; exact ⟨hbw5.os, hbw5.tape, hbw5.output, hbw5.size, hbw5.block⟩
          have hb06 : Below W0.heap.size W0 W6 := by rw [← hWq]; exact ⟨hb05.os, hb05.tape, hb05.output, hb05.size, hb05.block⟩
          have z1 : W6.cell? ⟨wr.heap.size, 1, none⟩ = some (.int .i64 tm) := by rw [← hWq]; exact x1
          have z2 : W6.cell? ⟨wr.heap.size, 2, none⟩ = some (.slice D sv.length dc) := by rw [← hWq]; exact x2
          go_wp2_with fail
          go_ret
          rw [hq.out]
          exact ⟨rfl, by first | exact hb6 | (rw [hn0]; exact hb6)⟩
        have n1' : decide (num ≤ ln) = false := decide_eq_false n1
        go_upto_region 12 with (fail)
        go_quiet (fail)
        generalize hWq : W5.drewN _ = W6
        have hb6 : Below n0 w W6 := by rw [← hWq]; exact ⟨hbw5.os, hbw5.tape, hbw5.output, hbw5.size, hbw5.block⟩
        have hb06 : Below W0.heap.size W0 W6 := by rw [← hWq]; exact ⟨hb05.os, hb05.tape, hb05.output, hb05.size, hb05.block⟩
        have z1 : W6.cell? ⟨wr.heap.size, 1, none⟩ = some (.int .i64 tm) := by rw [← hWq]; exact x1
        have z2 : W6.cell? ⟨wr.heap.size, 2, none⟩ = some (.slice D sv.length dc) := by rw [← hWq]; exact x2
        have u1 : W6.cell? ⟨b, off + j * 3 + 1, none⟩ = some (.int .i64 lt) := by rw [← hWq]; exact y1'
        obtain ⟨k0, k1⟩ := HCC.out W6 hb06
        clear c0 c1 x0 x1 x2 y0' y1'
        by_cases t1 : tm < 0
        · have t1' : decide (tm < 0) = true := decide_eq_true t1
          have hq : Hid (r = 24) := hbad.out 24 (by unfold snpE; rw [if_neg (by simp [hn1]), if_neg (by simp only; omega), if_pos (Or.inl (by simp [inT]; omega))]) (by decide)
          go_upto_region 14 with (fail)
          go_quiet (fail)
          go_wp2_with fail
          go_ret
          rw [hq.out]
          exact ⟨rfl, ⟨hb6.os, hb6.tape, hb6.output, hb6.size, fun k hk => hb6.block k (by omega)⟩⟩
        have t1' : decide (tm < 0) = false := decide_eq_false t1
        by_cases t2 : 1073741824 < tm
        · have t2' : decide (1073741824 < tm) = true := decide_eq_true t2
          have hq : Hid (r = 24) := hbad.out 24 (by unfold snpE; rw [if_neg (by simp [hn1]), if_neg (by simp only; omega), if_pos (Or.inl (by simp [inT]; omega))]) (by decide)
          go_upto_region 14 with (fail)
          go_quiet (fail)
          go_wp2_with fail
          go_ret
          rw [hq.out]
          exact ⟨rfl, ⟨hb6.os, hb6.tape, hb6.output, hb6.size, fun k hk => hb6.block k (by omega)⟩⟩
        have t2' : decide (1073741824 < tm) = false := decide_eq_false t2
        have hn2 : inT tm = true := by simp [inT]; omega
        by_cases t3 : tm < lt
        · have t3' : decide (tm < lt) = true := decide_eq_true t3
          have hq : Hid (r = 24) := hbad.out 24 (by unfold snpE; rw [if_neg (by simp [hn1]), if_neg (by simp only; omega), if_pos (Or.inr (by simp only; omega))]) (by decide)
          go_upto_region 14 with (fail)
          go_quiet (fail)
          go_wp2_with fail
          go_ret
          rw [hq.out]
          exact ⟨rfl, ⟨hb6.os, hb6.tape, hb6.output, hb6.size, fun k hk => hb6.block k (by omega)⟩⟩
        have t3' : decide (tm < lt) = false := decide_eq_false t3
        have hfin : Hid (snpE (lens im) ln lt (num, tm, sv) = chkS sv (lens im)) := by rw [Hid]; unfold snpE; rw [if_neg (by simp [hn1]), if_neg (by simp only; omega), if_neg (by simp [hn2]; omega)]
        go_upto_region 14 with (fail)
        go_quiet (fail)
        generalize hWr : W6.drewN _ = W7
        have hb7 : Below n0 w W7 := by rw [← hWr]; exact ⟨hb6.os, hb6.tape, hb6.output, hb6.size, fun k hk => hb6.block k (by omega)⟩
        have hb07 : Below W0.heap.size W0 W7.drew := by rw [← hWr]; exact ⟨hb06.os, hb06.tape, hb06.output, hb06.size, hb06.block⟩
        have v2 : W7.drew.cell? ⟨wr.heap.size, 2, none⟩ = some (.slice D sv.length dc) := by rw [← hWr]; exact z2
        obtain ⟨d0, d1⟩ := HCC.out W7.drew hb07
        have hb7d : Below n0 w W7.drew := hb7.drew
        have HSZ := Lib.hid (refSizesOf_any A c im.length im W7.drew rfl ((H1.out W7.drew (by rw [hn0]; exact hb7d)).more (hBL.out W7.drew hb7d)) (by omega))
        clear z1 z2 k0 k1 u1
        have hib7 : wr.heap.size < W7.drew.heap.size := by rw [← hWr, ← hWq]; exact (Array.getElem?_eq_some_iff.1 hr5).1
        have HSV : Hid (∀ W, Below W7.drew.heap.size W7.drew W → SlAt encWr W (Bl W.heap.size) D sv) := fun W hb => (hD.blk (w' := W) (fun g hg => ((hb.block g (by have : g < w.heap.size := hg; have := hb7d.size; omega)).trans ((hb7d.block g (by have : g < w.heap.size := hg; omega)).trans ((hbw.block g (by have : g < w.heap.size := hg; omega)).symm))))).more (fun g hg => by have : g < w.heap.size := hg; have h1 := hb7d.size; have h2 := hb.size; show g < W.heap.size; omega)
        have hll : (lens im).length = im.length := lens_len im
        obtain ⟨q, hq⟩ : ∃ q, Hid (chkS sv (lens im) = q) := ⟨_, rfl⟩
        have hsvl : sv.length ≤ 9223372036854775807 := by unfold maxLen at hd2; omega
        go_upto_region 16 with (fail)
        go_region_law (first | (go_simp; go_at_call 47; refine HCH.out.mono ?_; rintro e w9 ⟨rfl, hb9⟩) | (go_simp; go_at_call 48; refine HSZ.out.mono ?_; rintro e w8 ⟨Z, zc, rfl, s1, s2, s3, hb8⟩; have v3 := (World.cell?_of_block (a := ⟨wr.heap.size, 2, none⟩) (hb8.block wr.heap.size hib7)).trans v2; have HCH := Lib.hid (refCheck_any D Z dc zc sv (lens im) w8 (HSV.out w8 hb8) hsvl (s3.more (fun g hg => hg.2)) (by rw [hll]; omega) q hq.out); rw [hll] at HCH ⊢))
        all_goals
          have hbz : Below W7.drew.heap.size W7.drew w9 := ext_trans hb8 hb9
          have hb9w : Below n0 w w9 := hb7d.trans (hbz.mono (by have := hb7d.size; omega))
          have hb09 : Below W0.heap.size W0 w9 := ext_trans hb07 hbz
          by_cases hq0 : q = 0
          · have hq0' : (q != 0) = false := by simp [hq0]
            have hnext : Hid (snpsE (lens im) (-1) 0 (l.take (j + 1 + 1)) = 0) := by rw [Hid, hstep.out, hfin.out, hq.out, hq0]
            clear hq0 v2 v3 d0 d1 s3 HCH
            go_wp2_with fail
            go_roundw
            case rel => exact ⟨j + 1 + 1, hlt, by go_num, hb09, hnext.out⟩
            case measure => simp [intOf]; omega
          · have hq0' : (q != 0) = true := by simp [hq0]
            have hqr : Hid (r = q) := hbad.out q (by rw [hfin.out, hq.out]) hq0
            clear hq0 v2 v3 d0 d1 s3 HCH
            go_wp2_with fail
            go_ret
            rw [hqr.out]
            exact ⟨rfl, by first | exact hb9w | (rw [hn0]; exact hb9w)⟩
    · have hkk : k = l.length := by omega
      subst hkk
      go_wp2_with fail
      go_ret
      have h := hp.out
      rw [List.take_length] at h
      rw [hE.out, h]
      exact ⟨rfl, by rw [hn0]; exact hbw⟩
end Go.Proofs.YtnkmklnlaepdeaaGreat
