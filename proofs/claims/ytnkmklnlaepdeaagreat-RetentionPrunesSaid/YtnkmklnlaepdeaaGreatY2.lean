/-
  The reference's Check, Most, Times and ruled of retention: the walks.
  The reference's Most, Times and ruled of retention: the walks.
  The reference's ruled of retention: the walk.
  The reference's Keep of retention: the walk.
-/
import Derived.Test.YtnkmklnlaepdeaaGreatYi
set_option linter.unusedVariables false
set_option linter.unusedSimpArgs false
set_option linter.unusedSectionVars false
set_option linter.unnecessarySimpa false
namespace Go.Proofs.YtnkmklnlaepdeaaGreat
open Go.RowKit Go.Shelf
attribute [local go_sem] Oper.semAt_some

set_option maxHeartbeats 4000000 in
set_option maxRecDepth 100000 in
theorem refPolCheck_any (A : Option Addr) (c n : Nat) (nw : Int) (l : List Rule) (r : Int) (w : World) (hn : l.length = n) (hr : polE (nw, l) = r) (h1 : SlAt encExt w (Bl w.heap.size) A l) (hl : n ≤ 9223372036854775807) :
    Calls Tryz.prog 24 #[.agg #[.int .i64 nw, .slice A n c]] w fun e w' => e = .returned (.int .i64 r) ∧ Below w.heap.size w w' := by
  subst hn
  have HR := Lib.hid hr; clear hr
  have H1 : Hid (∀ w', Below w.heap.size w w' → SlAt encExt w' (Bl w.heap.size) A l) := fun w' hb => h1.below hb
  clear h1
  obtain ⟨W0, hW0⟩ : ∃ W0, w.alloc (.cells #[.int .i64 nw, .slice A l.length c] 24) = W0 := ⟨_, rfl⟩
  have hB0 : Below w.heap.size w W0 := by rw [← hW0]; exact ext_alloc (Below.refl _ _)
  have hs0 : Hid (W0.heap.size = w.heap.size + 1) := by rw [← hW0]; simp [Hid]
  have hr0 : W0.heap[w.heap.size]? = some (.cells #[.int .i64 nw, .slice A l.length c] 24 (0, 0)) := by rw [← hW0]; exact heap_alloc_new _ _
  have HRW : Hid (∀ W, Below W0.heap.size W0 W → W.cell? ⟨w.heap.size, 0, none⟩ = some (.int .i64 nw) ∧ W.cell? ⟨w.heap.size, 1, none⟩ = some (.slice A l.length c)) := fun W hb => by
    have := hs0.out
    obtain ⟨a, b, _⟩ := blk2 ((hb.block _ (by omega)).trans hr0)
    exact ⟨a, b⟩
  obtain ⟨r0, r1⟩ := HRW.out W0 (Below.refl _ _)
  clear hr0
  go_enter Tryz.func24, Tryz.ntmps24
  by_cases e1 : nw < 0
  · have hE : Hid ((2 : Int) = r) := by rw [Hid, ← HR.out, polE, if_pos (Or.inl e1)]
    go_wp2_with fail
    go_ret
    exact ⟨ret_int hE.out, hB0⟩
  by_cases e2 : 1024 < nw
  · have hE : Hid ((2 : Int) = r) := by rw [Hid, ← HR.out, polE, if_pos (Or.inr e2)]
    go_wp2_with fail
    go_ret
    exact ⟨ret_int hE.out, hB0⟩
  by_cases hl8 : l.length ≤ 8
  case neg =>
    have hl' : (8 : Int) < l.length := by omega
    have hE : Hid ((6 : Int) = r) := by rw [Hid, ← HR.out, polE, if_neg (by simp only; omega), if_pos (by simp only; omega)]
    clear hl8
    go_wp2_with fail
    go_ret
    exact ⟨ret_int hE.out, hB0⟩
  have hl' : ¬ (8 : Int) < l.length := by omega
  have hR2 : Hid (rulesE 0 l = r) := by rw [Hid, ← HR.out, polE, if_neg (by simp only; omega), if_neg (by simp only; omega)]
  clear HR
  go_wp2_with fail
  clear r0 r1 hW0 e1 e2
  go_loopw [3] (fun i wr => ∃ k : Nat, k ≤ l.length ∧ i = .int .i64 k ∧ Below W0.heap.size W0 wr ∧ Hid (rulesE 0 (l.take k) = 0)) (fun i _ => l.length - (intOf i).toNat)
  case atStart => exact ⟨0, by omega, rfl, Below.refl _ _, by simp [Hid, rulesE]⟩
  case round =>
    obtain ⟨wo, rfl⟩ : ∃ wo : World, wo = wr := ⟨_, rfl⟩
    obtain ⟨k, hk, rfl, hB, hok⟩ := hrel
    have hBw := ext_trans hB0 hB
    obtain ⟨r0, r1⟩ := HRW.out wo hB
    by_cases hlt : k < l.length
    · have hst := (H1.out wo hBw)
      obtain ⟨b, off, rfl, hb, g0, g1, hi1, hi2⟩ := hst.ext hlt
      have hstep := rulesE_step hok.out hlt
      have hbad := fun h => (rulesE_bad (l := l) (k := k) h).symm
      rw [hstep, hR2.out] at hbad
      have hpre : Hid (∀ j, k = j + 1 → ∃ (hj : j < l.length), lastR (l.take k) = l[j].1 ∧ wo.cell? ⟨b, off + j * 2, none⟩ = some (.int .i64 l[j].1)) := fun j hj => by
        subst hj
        obtain ⟨b', off', e', _, k0, _, _, _⟩ := hst.ext (k := j) (by omega)
        simp only [Option.some.injEq, Addr.mk.injEq, and_true] at e'
        obtain ⟨rfl, rfl⟩ := e'
        exact ⟨by omega, lastR_take (by omega), k0⟩
      obtain ⟨x, hx⟩ : ∃ x, l[k] = x := ⟨_, rfl⟩
      rw [hx] at g0 g1 hi1 hi2 hstep hbad
      obtain ⟨ev, ct⟩ := x
      simp only at g0 g1 hi1 hi2
      have HBAD := Lib.hid hbad
      have HSTEP := Lib.hid hstep
      have hki : (k : Int) < l.length := by omega
      have hnn : (0 : Int) ≤ k := by omega
      have hbw : b < wo.heap.size := by have : b < w.heap.size := hb; have := hBw.size; omega
      clear hx hstep hbad hst
      obtain ⟨W1, hW1⟩ : ∃ W1, wo.alloc (.cells #[.int .i64 ev, .int .i64 ct] 48) = W1 := ⟨_, rfl⟩
      have hb1 : Below wo.heap.size wo W1 := by rw [← hW1]; exact ext_alloc (Below.refl _ _)
      have hrx : W1.heap[wo.heap.size]? = some (.cells #[.int .i64 ev, .int .i64 ct] 48 (0, 0)) := by rw [← hW1]; exact heap_alloc_new _ _
      have hB1 : Below W0.heap.size W0 W1 := ext_trans hB hb1
      have HW1 := Lib.hid hW1
      clear hW1
      go_upto_region 9 with (fail)
      rw [HW1.out]
      obtain ⟨x0, x1, _⟩ := blk2 hrx
      clear g0 g1 r0 r1 hrx
      obtain ⟨r0, r1⟩ := HRW.out W1 hB1
      have HBAD2 : Hid ((ev < 1 ∨ 1073741824 < ev ∨ ct < 1 ∨ 1024 < ct) → (2 : Int) = r) := fun h => by
        have e0 : ruleE (lastR (l.take k)) (ev, ct) = 2 := by unfold ruleE; rw [if_pos h]
        have := HBAD.out (by rw [e0]; decide)
        rw [← this, e0]
      by_cases c1 : ev < 1
      · have hE := Lib.hid (HBAD2.out (Or.inl c1))
        go_wp2_with fail
        go_ret
        exact ⟨ret_int hE.out, ext_trans hB0 hB1⟩
      by_cases c2 : 1073741824 < ev
      · have hE := Lib.hid (HBAD2.out (Or.inr (Or.inl c2)))
        go_wp2_with fail
        go_ret
        exact ⟨ret_int hE.out, ext_trans hB0 hB1⟩
      by_cases c3 : ct < 1
      · have hE := Lib.hid (HBAD2.out (Or.inr (Or.inr (Or.inl c3))))
        go_wp2_with fail
        go_ret
        exact ⟨ret_int hE.out, ext_trans hB0 hB1⟩
      by_cases c4 : 1024 < ct
      · have hE := Lib.hid (HBAD2.out (Or.inr (Or.inr (Or.inr c4))))
        go_wp2_with fail
        go_ret
        exact ⟨ret_int hE.out, ext_trans hB0 hB1⟩
      have hok2 : Hid (∀ la : Int, la < ev → ruleE la (ev, ct) = 0) := fun la h => by unfold ruleE; rw [if_neg (by simp only; omega), if_neg (by simp only; omega)]
      have hbad3 : Hid (∀ la : Int, ev ≤ la → ruleE la (ev, ct) = 3) := fun la h => by unfold ruleE; rw [if_neg (by simp only; omega), if_pos (by simp only; omega)]
      go_upto_region 11 with (fail)
      have hc1 := Lib.hid c1
      clear c1 c2 c3 c4
      cases k with
      | zero =>
        have hd : decide ((0 : Int) < ((0 : Nat) : Int)) = false := by decide
        have hev : Hid (rulesE 0 (l.take (0 + 1)) = 0) := by
          rw [Hid, HSTEP.out]
          refine hok2.out _ ?_
          have h0 : lastR (l.take 0) = 0 := by simp [lastR]
          rw [h0]
          by_cases hc : ev < 1
          · exact absurd hc hc1.out
          · omega
        go_quiet (fail)
        go_wp2_with fail
        go_roundw
        case rel => exact ⟨1, by omega, by go_num, bDrew hB1 _, hev.out⟩
        case measure => simp [intOf]; omega
      | succ j =>
        obtain ⟨hj, hla, y0⟩ := hpre.out j rfl
        obtain ⟨la, hlax⟩ : ∃ x, l[j].1 = x := ⟨_, rfl⟩
        rw [hlax] at hla y0
        have y0' : W1.cell? ⟨b, off + j * 2, none⟩ = some (.int .i64 la) := (hb1.cell (p := ⟨b, off + j * 2, none⟩) hbw).trans y0
        have hjl : (j : Int) < l.length := by omega
        have hjn : (0 : Int) ≤ j := by omega
        have e5 : ((j + 1 : Nat) : Int) = (j : Int) + 1 := by omega
        clear hlax y0
        have HLA := Lib.hid hla
        clear hla hpre
        rw [e5] at hki hnn ⊢
        have hd : decide ((0 : Int) < (j : Int) + 1) = true := decide_eq_true (by omega)
        by_cases n1 : ev ≤ la
        · have n1' : decide (ev ≤ la) = true := decide_eq_true n1
          have hE : Hid ((3 : Int) = r) := by
            have h3 := hbad3.out la n1
            rw [← HLA.out] at h3
            have := HBAD.out (by rw [h3]; decide)
            rw [Hid, ← this, h3]
          go_quiet (fail)
          go_wp2_with fail
          go_ret
          exact ⟨ret_int hE.out, ext_trans hB0 (bDrew hB1 _)⟩
        · have n1' : decide (ev ≤ la) = false := decide_eq_false n1
          have hE : Hid (rulesE 0 (l.take (j + 1 + 1)) = 0) := by rw [Hid, HSTEP.out, HLA.out]; exact hok2.out la (by omega)
          go_quiet (fail)
          go_wp2_with fail
          go_roundw
          case rel => exact ⟨j + 1 + 1, by omega, by go_num, bDrew hB1 _, hE.out⟩
          case measure => simp [intOf]; omega
    · have hkk : k = l.length := by omega
      subst hkk
      have hE : Hid ((0 : Int) = r) := by
        have h := hok.out
        rw [List.take_length] at h
        rw [Hid, ← hR2.out, h]
      go_wp2_with fail
      go_ret
      exact ⟨ret_int hE.out, hBw⟩
end Go.Proofs.YtnkmklnlaepdeaaGreat

namespace Go.Proofs.YtnkmklnlaepdeaaGreat
open Go.RowKit Go.Shelf
attribute [local go_sem] Oper.semAt_some

theorem ascT_take {ts : List Int} {k : Nat} (h : ascT 0 (ts.take k) = false) : ascT 0 ts = false := by
  cases h1 : ascT 0 ts with
  | false => rfl
  | true =>
    obtain ⟨a, b⟩ := ascT_mem h1
    rw [ascT_mk (fun t ht => a t (List.mem_of_mem_take ht)) (b.sublist (List.take_sublist k ts))] at h
    cases h
theorem ascT_step {ts : List Int} {k : Nat} (hk : k < ts.length) : ascT 0 (ts.take (k + 1)) = (ascT 0 (ts.take k) && decide ((ts.take k).getLast?.getD 0 ≤ ts[k]) && okT ts[k]) := by
  rw [List.take_succ_eq_append_getElem hk, ascT_snoc]
theorem last_take {ts : List Int} {j : Nat} (hj : j < ts.length) : (ts.take (j + 1)).getLast?.getD 0 = ts[j] := by
  rw [List.take_succ_eq_append_getElem hj, List.getLast?_concat]; rfl
set_option maxHeartbeats 4000000 in
set_option maxRecDepth 100000 in
theorem refTimes_any (A : Option Addr) (c n : Nat) (ts : List Int) (q : Bool) (w : World) (hn : ts.length = n) (h1 : SlAt encInt w (Bl w.heap.size) A ts) (hl : n ≤ 9223372036854775807) (hq : timesB ts = q) :
    Calls Tryz.prog 49 #[.slice A n c] w fun e w' => e = .returned (.bool q) ∧ Drew w w' := by
  subst hn
  have HQ := Lib.hid hq; clear hq
  go_enter Tryz.func49, Tryz.ntmps49
  go_wp2_with fail
  go_loopw [3] (fun i wr => ∃ k : Nat, k ≤ ts.length ∧ i = .int .i64 k ∧ Drew w wr ∧ Hid (ascT 0 (ts.take k) = true)) (fun i _ => ts.length - (intOf i).toNat)
  case atStart => exact ⟨0, by omega, rfl, Drew.refl _, by simp [Hid, ascT]⟩
  case round =>
    obtain ⟨wo, rfl⟩ : ∃ wo : World, wo = wr := ⟨_, rfl⟩
    obtain ⟨k, hk, rfl, hd, hok⟩ := hrel
    replace h1 := h1.drew hd
    by_cases hlt : k < ts.length
    · obtain ⟨b, off, rfl, hb, g0, _⟩ := h1.int hlt
      have hst := ascT_step hlt
      rw [hok.out, Bool.true_and] at hst
      have hki : (k : Int) < ts.length := by omega
      have hnn : (0 : Int) ≤ k := by omega
      have HBAD : Hid (ascT 0 (ts.take (k + 1)) = false → false = q) := fun h => by rw [← HQ.out, timesB, ascT_take h]; rfl
      have hpre : Hid (∀ j, k = j + 1 → ∃ (hj : j < ts.length), (ts.take k).getLast?.getD 0 = ts[j] ∧ wo.cell? ⟨b, off + j, none⟩ = some (.int .i64 ts[j])) := fun j hj => by
        subst hj
        obtain ⟨b', off', e', _, k0, _⟩ := h1.int (k := j) (by omega)
        simp only [Option.some.injEq, Addr.mk.injEq, and_true] at e'
        obtain ⟨rfl, rfl⟩ := e'
        exact ⟨by omega, last_take (by omega), k0⟩
      obtain ⟨t, ht⟩ : ∃ t, ts[k] = t := ⟨_, rfl⟩
      rw [ht] at g0 hst
      have HST := Lib.hid hst
      clear ht hst
      obtain ⟨qt, hqt⟩ : ∃ q, Hid (okT t = q) := ⟨_, Lib.hid rfl⟩
      have HC := Lib.hid (fun n => (okT_any t (wo.drewN n) qt hqt.out).mono (fun e w' (h : e = .returned (.bool qt) ∧ w' = wo.drewN n) => (⟨h.1, by rw [h.2]; exact Drew.refl _⟩ : e = .returned (.bool qt) ∧ Drew (wo.drewN n) w')))
      cases qt with
      | false =>
        have hE := Lib.hid (HBAD.out (by rw [HST.out, hqt.out, Bool.and_false]))
        go_upto_region 4 with (fail)
        go_quiet ((go_at_call 26; exact Calls.quiet_of (HC.out _)))
        go_wp2
        go_ret
        exact ⟨ret_bool hE.out, hd.step _⟩
      | true =>
      cases k with
      | zero =>
        have hdd : decide ((0 : Int) < ((0 : Nat) : Int)) = false := by decide
        have hE : Hid (ascT 0 (ts.take (0 + 1)) = true) := by
          have h := hqt.out
          simp only [okT, decide_eq_true_eq] at h
          rw [Hid, HST.out, hqt.out, Bool.and_true]
          exact decide_eq_true h.1
        have g0' : wo.cell? ⟨b, off, none⟩ = some (.int .i64 t) := g0
        go_upto_region 4 with (fail)
        go_quiet ((go_at_call 26; exact Calls.quiet_of (HC.out _)))
        go_wp2
        go_roundw
        case rel => exact ⟨1, by omega, by go_num, hd.step _, hE.out⟩
        case measure => simp [intOf]; omega
      | succ j =>
        obtain ⟨hj, hla, y0⟩ := hpre.out j rfl
        obtain ⟨la, hlax⟩ : ∃ x, ts[j] = x := ⟨_, rfl⟩
        rw [hlax] at hla y0
        have hjl : (j : Int) < ts.length := by omega
        have hjn : (0 : Int) ≤ j := by omega
        have e5 : ((j + 1 : Nat) : Int) = (j : Int) + 1 := by omega
        have HLA := Lib.hid hla
        clear hla hpre hlax
        rw [e5] at hki hnn ⊢
        have hdd : decide ((0 : Int) < (j : Int) + 1) = true := decide_eq_true (by omega)
        by_cases n1 : t < la
        · have n1' : decide (t < la) = true := decide_eq_true n1
          have hE := Lib.hid (HBAD.out (by rw [HST.out, HLA.out, decide_eq_false (show ¬ la ≤ t by omega)]; rfl))
          go_upto_region 4 with (fail)
          go_quiet ((go_at_call 26; exact Calls.quiet_of (HC.out _)))
          go_wp2
          go_ret
          exact ⟨ret_bool hE.out, hd.step _⟩
        · have n1' : decide (t < la) = false := decide_eq_false n1
          have hE : Hid (ascT 0 (ts.take (j + 1 + 1)) = true) := by rw [Hid, HST.out, HLA.out, hqt.out, decide_eq_true (show la ≤ t by omega)]; rfl
          go_upto_region 4 with (fail)
          go_quiet ((go_at_call 26; exact Calls.quiet_of (HC.out _)))
          go_wp2
          go_roundw
          case rel => exact ⟨j + 1 + 1, by omega, by go_num, hd.step _, hE.out⟩
          case measure => simp [intOf]; omega
    · have hkk : k = ts.length := by omega
      subst hkk
      have h := hok.out
      rw [List.take_length] at h
      by_cases hn : ts.length ≤ 1024
      · have hE : Hid (true = q) := by rw [Hid, ← HQ.out, timesB, h, decide_eq_true hn]; rfl
        have hn' : (ts.length : Int) ≤ 1024 := by omega
        clear hn h
        go_wp2
        go_ret
        exact ⟨ret_bool hE.out, hd⟩
      · have hE : Hid (false = q) := by rw [Hid, ← HQ.out, timesB, h, decide_eq_false hn]; rfl
        have hn' : ¬ (ts.length : Int) ≤ 1024 := by omega
        clear hn h
        go_wp2
        go_ret
        exact ⟨ret_bool hE.out, hd⟩
end Go.Proofs.YtnkmklnlaepdeaaGreat

namespace Go.Proofs.YtnkmklnlaepdeaaGreat
open Go.RowKit Go.Shelf
attribute [local go_sem] Oper.semAt_some

set_option maxHeartbeats 4000000 in
set_option maxRecDepth 100000 in
theorem ruled_any (A : Option Addr) (c n i : Nat) (ev ct now : Int) (ts : List Int) (q : Bool) (w : World) (hn : ts.length = n) (hi : i < n) (h1 : SlAt encInt w (Bl w.heap.size) A ts) (hl : n ≤ 100000) (hev : 1 ≤ ev ∧ ev ≤ 1073741824) (hct : 1 ≤ ct ∧ ct ≤ 1024) (hnow : 0 ≤ now ∧ now ≤ 1073741824) (hs : ∀ t ∈ ts, 0 ≤ t ∧ t ≤ 1073741824) (hq : ruledB (ev, ct) ts now i = q) :
    Calls Tryz.prog 50 #[.agg #[.int .i64 ev, .int .i64 ct], .slice A n c, .int .i64 i, .int .i64 now] w fun e w' => e = .returned (.bool q) ∧ Below w.heap.size w w' := by
  subst hn
  have HQ := Lib.hid hq; clear hq
  obtain ⟨n0, hn0⟩ : ∃ n0, w.heap.size = n0 := ⟨_, rfl⟩
  have HBF : Hid (∀ W, Below w.heap.size w W → Below n0 w W) := fun W h => by rw [← hn0]; exact h
  obtain ⟨hev0, hev1⟩ := hev
  obtain ⟨hct0, hct1⟩ := hct
  obtain ⟨hnow0, hnow1⟩ := hnow
  have hevz : ¬ ev = 0 := by omega
  have hK0 : 0 ≤ now / ev := Int.ediv_nonneg hnow0 (by omega)
  have hK1 : now / ev ≤ now := Int.ediv_le_self _ hnow0
  obtain ⟨W0, hW0⟩ : ∃ W0, w.alloc (.cells #[.int .i64 ev, .int .i64 ct] 48) = W0 := ⟨_, rfl⟩
  have hB0 : Below w.heap.size w W0 := by rw [← hW0]; exact ext_alloc (Below.refl _ _)
  have hr0 : W0.heap[n0]? = some (.cells #[.int .i64 ev, .int .i64 ct] 48 (0, 0)) := by rw [← hW0, ← hn0]; exact heap_alloc_new _ _
  have hts0 : SlAt encInt W0 (Bl w.heap.size) A ts := h1.below hB0
  obtain ⟨b, off, rfl, hb, g0, _⟩ := hts0.int hi
  have hgd : ts.getD i 0 = ts[i]'hi := by rw [List.getD_eq_getElem?_getD, List.getElem?_eq_getElem hi]; rfl
  have hst := hs _ (List.getElem_mem hi)
  obtain ⟨t, ht⟩ : ∃ t, ts[i]'hi = t := ⟨_, rfl⟩
  rw [ht] at g0 hst hgd
  obtain ⟨ht0, ht1⟩ := hst
  have HGD := Lib.hid hgd
  have HCL : Hid (∀ m, m < ts.length → W0.cell? ⟨b, off + m, none⟩ = some (.int .i64 (ts.getD m 0)) ∧ 0 ≤ ts.getD m 0 ∧ ts.getD m 0 ≤ 1073741824) := fun m hm => by
    obtain ⟨b', off', e', _, k0, _⟩ := hts0.int hm
    simp only [Option.some.injEq, Addr.mk.injEq, and_true] at e'
    obtain ⟨rfl, rfl⟩ := e'
    have e : ts.getD m 0 = ts[m]'hm := by rw [List.getD_eq_getElem?_getD, List.getElem?_eq_getElem hm]; rfl
    rw [e]
    exact ⟨k0, hs _ (List.getElem_mem hm)⟩
  have hd0 : 0 ≤ t / ev := Int.ediv_nonneg ht0 (by omega)
  have hd1 : t / ev ≤ t := Int.ediv_le_self _ ht0
  have HRU : Hid (ruledB (ev, ct) ts now i = (decide (t ≤ now) && decide (now / ev - ct < t / ev) && noLater ev now (t / ev) (ts.drop (i + 1)))) := by
    rw [Hid, ruledB, hgd]
  have hiI : (i : Int) < ts.length := by omega
  have hi0 : (0 : Int) ≤ i := by omega
  have HHS := Lib.hid hs
  obtain ⟨x0, x1, _⟩ := blk2 hr0
  clear ht hgd hts0 h1 hs hr0
  go_enter Tryz.func50, Tryz.ntmps50
  go_wp2_with fail
  clear hW0
  go_upto_region 1 with (fail)
  go_quiet (fail)
  generalize hW1 : World.drewN W0 _ = W1
  have hB1 : Below w.heap.size w W1 := by rw [← hW1]; exact bDrew hB0 _
  replace HCL : Hid (∀ m, m < ts.length → W1.cell? ⟨b, off + m, none⟩ = some (.int .i64 (ts.getD m 0)) ∧ 0 ≤ ts.getD m 0 ∧ ts.getD m 0 ≤ 1073741824) := by rw [← hW1]; exact HCL.out
  replace g0 : W1.cell? ⟨b, off + i, none⟩ = some (.int .i64 t) := by rw [← hW1]; exact g0
  replace x0 : W1.cell? ⟨n0, 0, none⟩ = some (.int .i64 ev) := by rw [← hW1]; exact x0
  replace x1 : W1.cell? ⟨n0, 1, none⟩ = some (.int .i64 ct) := by rw [← hW1]; exact x1
  clear hW1
  go_upto_region 2 with (fail)
  by_cases htn : now < t
  · have htn' : decide (now < t) = true := decide_eq_true htn
    have hE : Hid (false = q) := by rw [Hid, ← HQ.out, HRU.out, decide_eq_false (by omega)]; rfl
    go_quiet (fail)
    go_wp2
    go_ret
    exact ⟨ret_bool hE.out, by first | exact bDrew hB1 _ | exact HBF.out _ (bDrew hB1 _)⟩
  have htn' : decide (now < t) = false := decide_eq_false htn
  by_cases hkc : t / ev ≤ now / ev - ct
  · have hkc' : decide (t / ev ≤ now / ev - ct) = true := decide_eq_true hkc
    have hE : Hid (false = q) := by rw [Hid, ← HQ.out, HRU.out, decide_eq_false (show ¬ now / ev - ct < t / ev by omega), Bool.and_false]; rfl
    go_quiet (fail)
    go_wp2
    go_ret
    exact ⟨ret_bool hE.out, by first | exact bDrew hB1 _ | exact HBF.out _ (bDrew hB1 _)⟩
  have hkc' : decide (t / ev ≤ now / ev - ct) = false := decide_eq_false hkc
  have HRU2 : Hid (ruledB (ev, ct) ts now i = noLater ev now (t / ev) (ts.drop (i + 1))) := by
    rw [Hid, HRU.out, decide_eq_true (show t ≤ now by omega), decide_eq_true (show now / ev - ct < t / ev by omega)]; simp
  have hwi : IntKind.i64.wrap ((i : Int) + 1) = (i : Int) + 1 := IntWalk.i64_in _ (by omega)
  clear HRU htn hkc
  go_quiet (fail)
  generalize hW2 : World.drewN W1 _ = W2
  have hB2 : Below w.heap.size w W2 := by rw [← hW2]; exact bDrew hB1 _
  replace HCL : Hid (∀ m, m < ts.length → W2.cell? ⟨b, off + m, none⟩ = some (.int .i64 (ts.getD m 0)) ∧ 0 ≤ ts.getD m 0 ∧ ts.getD m 0 ≤ 1073741824) := by rw [← hW2]; exact HCL.out
  replace x0 : W2.cell? ⟨n0, 0, none⟩ = some (.int .i64 ev) := by rw [← hW2]; exact x0
  clear hW2 g0 x1
  go_wp2_with fail
  go_loopw [10] (fun v wr => ∃ m : Nat, i < m ∧ m ≤ ts.length ∧ v = .int .i64 m ∧ Drew W2 wr ∧ Hid (∀ j, i < j → j < m → inK ev now (t / ev) (ts.getD j 0) = false)) (fun v _ => ts.length - (intOf v).toNat)
  case atStart => exact ⟨i + 1, by omega, by omega, by go_num, Drew.refl _, fun j h1 h2 => by omega⟩
  case round =>
    obtain ⟨wo, rfl⟩ : ∃ wo : World, wo = wr := ⟨_, rfl⟩
    obtain ⟨m, hm0, hm1, rfl, hd, hno⟩ := hrel
    have x0' : wo.cell? ⟨n0, 0, none⟩ = some (.int .i64 ev) := (hd.cell _).trans x0
    by_cases hlt : m < ts.length
    · obtain ⟨c0, hu0, hu1⟩ := HCL.out m hlt
      have c0' := (hd.cell ⟨b, off + m, none⟩).trans c0
      obtain ⟨u, hu⟩ : ∃ u, ts.getD m 0 = u := ⟨_, rfl⟩
      rw [hu] at c0' hu0 hu1
      have HU := Lib.hid hu
      have hmI : (m : Int) < ts.length := by omega
      have hm0I : (0 : Int) ≤ m := by omega
      have hv0 : 0 ≤ u / ev := Int.ediv_nonneg hu0 (by omega)
      have hv1 : u / ev ≤ u := Int.ediv_le_self _ hu0
      have HNX : Hid (inK ev now (t / ev) u = false → ∀ j, i < j → j < m + 1 → inK ev now (t / ev) (ts.getD j 0) = false) := fun h j h1 h2 => by
        by_cases e : j = m
        · rw [e, HU.out]; exact h
        · exact hno.out j h1 (by omega)
      clear hu c0
      by_cases hun : u ≤ now
      · have hun' : decide (u ≤ now) = true := decide_eq_true hun
        by_cases huk : u / ev = t / ev
        · have huk' : (u / ev == t / ev) = true := by simp [huk]
          have hE : Hid (false = q) := by
            rw [Hid, ← HQ.out, HRU2.out]
            cases hnl : noLater ev now (t / ev) (ts.drop (i + 1)) with
            | false => rfl
            | true =>
              have := noLater_drop.1 hnl m hm0 hlt
              rw [HU.out, inK, decide_eq_true huk, decide_eq_true hun] at this
              cases this
          clear huk hun
          go_upto_region 7 with (fail)
          go_quiet (fail)
          go_wp2
          go_ret
          exact ⟨ret_bool hE.out, by first | exact ext_trans hB2 ((hd.step _).below _) | exact HBF.out _ (ext_trans hB2 ((hd.step _).below _))⟩
        · have huk' : (u / ev == t / ev) = false := by simp [huk]
          have hN := Lib.hid (HNX.out (by rw [inK, decide_eq_false huk]; rfl))
          clear huk hun
          go_upto_region 7 with (fail)
          go_quiet (fail)
          go_wp2
          go_roundw
          case rel => exact ⟨m + 1, by omega, hlt, by go_num, hd.step _, hN.out⟩
          case measure => simp [intOf]; omega
      · have hun' : decide (u ≤ now) = false := decide_eq_false hun
        have hN := Lib.hid (HNX.out (by rw [inK, decide_eq_false hun, Bool.and_false]))
        clear hun
        go_upto_region 7 with (fail)
        go_quiet (fail)
        go_wp2
        go_roundw
        case rel => exact ⟨m + 1, by omega, hlt, by go_num, hd.step _, hN.out⟩
        case measure => simp [intOf]; omega
    · have hmm : ts.length = m := by omega
      have hE : Hid (true = q) := by
        rw [Hid, ← HQ.out, HRU2.out]
        exact (noLater_drop.2 (fun j h1 h2 => hno.out j h1 (by omega))).symm
      clear hmm
      go_wp2
      go_ret
      exact ⟨ret_bool hE.out, by first | exact ext_trans hB2 (hd.below _) | exact HBF.out _ (ext_trans hB2 (hd.below _))⟩
end Go.Proofs.YtnkmklnlaepdeaaGreat

namespace Go.Proofs.YtnkmklnlaepdeaaGreat
open Go.RowKit Go.Shelf
attribute [local go_sem] Oper.semAt_some

/-- whether a time is kept for being new, or by one of the first rules -/
def keptI (nw now : Int) (l : List Rule) (ts : List Int) (i k : Nat) : Bool := decide ((ts.length : Int) - nw ≤ i) || (l.take k).any fun r => ruledB r ts now i
theorem keptI_zero (nw now : Int) (l : List Rule) (ts : List Int) (i : Nat) : keptI nw now l ts i 0 = decide ((ts.length : Int) - nw ≤ i) := by simp [keptI]
theorem keptI_succ {nw now : Int} {l : List Rule} {ts : List Int} {i k : Nat} (hk : k < l.length) : keptI nw now l ts i (k + 1) = (keptI nw now l ts i k || ruledB l[k] ts now i) := by
  unfold keptI
  rw [List.take_succ_eq_append_getElem hk, List.any_append]
  simp [Bool.or_assoc]
theorem keptI_end (nw now : Int) (l : List Rule) (ts : List Int) (i : Nat) : keptI nw now l ts i l.length = keptB (nw, l) ts now i := by
  unfold keptI keptB; rw [List.take_length]
set_option maxHeartbeats 4000000 in
set_option maxRecDepth 100000 in
theorem refKeep_any (A At : Option Addr) (c ct n m : Nat) (nw now : Int) (l : List Rule) (ts : List Int) (r : List Nat) (w : World) (hm : l.length = m) (hn : ts.length = n) (hr : keepL (nw, l) ts now = r) (h1 : SlAt encExt w (Bl w.heap.size) A l) (h2 : SlAt encInt w (Bl w.heap.size) At ts) (hm1 : m ≤ 9223372036854775807) (hn1 : n ≤ 9223372036854775807) :
    Calls Tryz.prog 27 #[.agg #[.int .i64 nw, .slice A m c], .slice At n ct, .int .i64 now] w (RetSl encInt (intsN r) w) := by
  subst hm hn
  have HR := Lib.hid hr; clear hr
  obtain ⟨n0, hn0⟩ : ∃ n0, w.heap.size = n0 := ⟨_, rfl⟩
  have H1 : Hid (∀ w', Below w.heap.size w w' → SlAt encExt w' (Bl w'.heap.size) A l) := fun w' hb => h1.fwd hb
  have H2 : Hid (∀ w', Below w.heap.size w w' → SlAt encInt w' (Bl w'.heap.size) At ts) := fun w' hb => h2.fwd hb
  clear h1 h2
  obtain ⟨W0, hW0⟩ : ∃ W0, w.alloc (.cells #[.int .i64 nw, .slice A l.length c] 24) = W0 := ⟨_, rfl⟩
  have hB0 : Below w.heap.size w W0 := by rw [← hW0]; exact ext_alloc (Below.refl _ _)
  have hr0 : W0.heap[n0]? = some (.cells #[.int .i64 nw, .slice A l.length c] 24 (0, 0)) := by rw [← hW0, ← hn0]; exact heap_alloc_new _ _
  have HRW : Hid (∀ W, Below W0.heap.size W0 W → W.cell? ⟨n0, 0, none⟩ = some (.int .i64 nw) ∧ W.cell? ⟨n0, 1, none⟩ = some (.slice A l.length c)) := fun W hb => by
    obtain ⟨a, b, _⟩ := blk2 ((hb.block n0 (Array.getElem?_eq_some_iff.1 hr0).1).trans hr0)
    exact ⟨a, b⟩
  obtain ⟨pe, hpe⟩ : ∃ q, Hid (polE (nw, l) = q) := ⟨_, Lib.hid rfl⟩
  have HC := Lib.hid (refPolCheck_any A c l.length nw l pe W0 rfl hpe.out (H1.out W0 hB0) hm1)
  obtain ⟨r0, r1⟩ := HRW.out W0 (Below.refl _ _)
  clear hr0
  go_enter Tryz.func27, Tryz.ntmps27
  go_wp2_with fail
  refine HC.out.mono ?_
  rintro e w1 ⟨rfl, hb1⟩
  have hbw1 : Below w.heap.size w w1 := ext_trans hB0 hb1
  clear HC hW0 r0 r1
  have HNIL : Hid (¬ (polE (nw, l) = 0 ∧ timesB ts = true ∧ okT now = true) → ∀ W, Below w.heap.size w W → RetSl encInt (intsN r) w (.returned (.slice none 0 0)) W) := fun hne W hb => by
    have : r = [] := by rw [← HR.out, keepL, if_neg hne]
    subst this
    exact ⟨none, 0, rfl, by simp [intsN], by simp, SlAt.nil_, hb⟩
  by_cases hx0 : pe = 0
  case neg =>
    have hx0' : (pe != 0) = true := by simp [hx0]
    have HF := Lib.hid (HNIL.out (fun h => hx0 (hpe.out.symm.trans h.1)) w1 hbw1)
    clear hx0
    go_wp2_with fail
    go_ret
    exact HF.out
  have hx0' : (pe != 0) = false := by simp [hx0]
  have HPE : Hid (polE (nw, l) = 0) := hpe.out.trans hx0
  clear hx0 hpe
  obtain ⟨qt, hqt⟩ : ∃ q, Hid (timesB ts = q) := ⟨_, Lib.hid rfl⟩
  have HO := Lib.hid (refTimes_any At ct ts.length ts qt w1 rfl (H2.out w1 hbw1) hn1 hqt.out)
  go_wp2_with fail
  refine HO.out.mono ?_
  rintro e w2 ⟨rfl, hd2⟩
  have hb2 : Below w1.heap.size w1 w2 := hd2.below _
  have hbw2 := ext_trans hbw1 hb2
  clear HO hd2
  cases qt with
  | false =>
    have HF := Lib.hid (HNIL.out (fun h => by have := hqt.out; rw [h.2.1] at this; cases this) w2 hbw2)
    go_wp2_with fail
    go_ret
    exact HF.out
  | true =>
  obtain ⟨qn, hqn⟩ : ∃ q, Hid (okT now = q) := ⟨_, Lib.hid rfl⟩
  have HI := Lib.hid (okT_any now w2 qn hqn.out)
  go_wp2_with fail
  refine HI.out.mono ?_
  rintro e w3 ⟨rfl, rfl⟩
  clear HI
  cases qn with
  | false =>
    have HF := Lib.hid (HNIL.out (fun h => by have := hqn.out; rw [h.2.2] at this; cases this) w3 hbw2)
    go_wp2_with fail
    go_ret
    exact HF.out
  | true =>
  have HE : Hid (keepN (nw, l) ts now = r) := by rw [Hid, ← HR.out, keepL, if_pos ⟨HPE.out, hqt.out, hqn.out⟩]
  have HNW : Hid (0 ≤ now ∧ now ≤ 1073741824) := by
    have := hqn.out
    rw [Hid]; simpa [okT] using this
  have HT := Lib.hid (timesB_ok hqt.out)
  have HP := Lib.hid (polE_ok HPE.out)
  have hlen : ts.length ≤ 1024 := HT.out.2.2
  have hl8 : l.length ≤ 8 := HP.out.2.2.1
  obtain ⟨hnw0, hnw1⟩ : 0 ≤ nw ∧ nw ≤ 1024 := ⟨HP.out.1, HP.out.2.1⟩
  obtain ⟨n4, hn4⟩ : ∃ n4, w3.heap.size = n4 := ⟨_, rfl⟩
  have hb13 := ext_trans hb1 hb2
  have HRW3 : Hid (∀ W, Below n4 w3 W → W.cell? ⟨n0, 0, none⟩ = some (.int .i64 nw) ∧ W.cell? ⟨n0, 1, none⟩ = some (.slice A l.length c)) := fun W hb => HRW.out W (ext_trans hb13 (by rw [hn4]; exact hb))
  have HBW : Hid (∀ W, Below n4 w3 W → Below w.heap.size w W) := fun W hb => ext_trans hbw2 (by rw [hn4]; exact hb)
  clear HNIL HR HRW
  go_wp2_with fail
  go_loopw [7, 8] (fun v i wr => ∃ (k : Nat) (B : Option Addr) (vc : Nat) (out : List Int), k ≤ ts.length ∧ i = .int .i64 k ∧ v = .slice B out.length vc ∧ Below n4 w3 wr ∧ Hid (out = intsN ((List.range k).filter (keptB (nw, l) ts now))) ∧ Hid (OwnX (fun _ => False) encInt wr n4 3 (.slice B out.length vc) out)) (fun _ i _ => ts.length - (intOf i).toNat)
  case atStart => exact ⟨0, none, 0, [], by omega, rfl, rfl, by rw [← hn4]; exact Below.refl _ _, by simp [Hid, intsN], OwnX.nil_⟩
  case round =>
    obtain ⟨wo, rfl⟩ : ∃ wo : World, wo = wr := ⟨_, rfl⟩
    obtain ⟨i, B, vc, out, hk, rfl, rfl, hB, hout, hown⟩ := hrel
    by_cases hlt : i < ts.length
    · have hki : (i : Int) < ts.length := by omega
      have hnn : (0 : Int) ≤ i := by omega
      have hol : out.length ≤ i := by
        have h := List.length_filter_le (keptB (nw, l) ts now) (List.range i)
        rw [hout.out, intsN, List.length_map]
        rw [List.length_range] at h
        exact h
      have hszr := hB.size
      obtain ⟨r0, r1⟩ := HRW3.out wo hB
      obtain ⟨q0, hq0⟩ : ∃ q0, Hid (decide ((ts.length : Int) - nw ≤ i) = q0) := ⟨_, Lib.hid rfl⟩
      have hq0' := hq0.out
      go_wp2_with fail
      clear r0 r1
      go_loopw [9, 10] (fun kv jv wr => ∃ (j : Nat), j ≤ l.length ∧ jv = .int .i64 j ∧ kv = .bool (keptI nw now l ts i j) ∧ Below wo.heap.size wo wr) (fun _ jv _ => l.length - (intOf jv).toNat)
      case atStart => exact ⟨0, by omega, rfl, by rw [keptI_zero]; first | rfl | rw [hq0'] | simp [hq0'], Below.refl _ _⟩
      case round =>
        obtain ⟨wp, rfl⟩ : ∃ wp : World, wp = wr := ⟨_, rfl⟩
        obtain ⟨j, hj, rfl, rfl, hBp⟩ := hrel
        have hB4 : Below n4 w3 wp := hB.trans (hBp.mono (by omega))
        obtain ⟨r0, r1⟩ := HRW3.out wp hB4
        obtain ⟨q, hq⟩ : ∃ q, Hid (keptI nw now l ts i j = q) := ⟨_, Lib.hid rfl⟩
        rw [hq.out]
        by_cases hjl : j < l.length
        · have hjI : (j : Int) < l.length := by omega
          have hj0 : (0 : Int) ≤ j := by omega
          have hst := Lib.hid (keptI_succ (nw := nw) (now := now) (l := l) (ts := ts) (i := i) hjl)
          cases q with
          | true =>
            have hE : Hid (true = keptI nw now l ts i (j + 1)) := by rw [Hid, hst.out, hq.out]; rfl
            go_wp2_with fail
            go_roundw
            case rel => exact ⟨j + 1, hjl, by go_num, by rw [← hE.out], hBp⟩
            case measure => simp [intOf]; omega
          | false =>
            obtain ⟨b, off, rfl, hb, g0, g1, hi1, hi2⟩ := (H1.out wp (HBW.out wp hB4)).ext hjl
            have hmem := HP.out.2.2.2.1 l[j] (List.getElem_mem hjl)
            obtain ⟨x, hx⟩ : ∃ x, Hid (l[j] = x) := ⟨_, Lib.hid rfl⟩
            rw [hx.out] at g0 g1 hmem
            rw [hx.out] at hst
            obtain ⟨ev, ct2⟩ := x
            simp only at g0 g1 hmem
            obtain ⟨qr, hqr⟩ : ∃ q, Hid (ruledB (ev, ct2) ts now i = q) := ⟨_, Lib.hid rfl⟩
            have HCR := Lib.hid (ruled_any At ct ts.length i ev ct2 now ts qr wp rfl hlt (H2.out wp (HBW.out wp hB4)) (by omega) ⟨hmem.1, hmem.2.1⟩ ⟨hmem.2.2.1, hmem.2.2.2⟩ HNW.out HT.out.1 hqr.out)
            have hE : Hid (qr = keptI nw now l ts i (j + 1)) := by rw [Hid, hst.out, hq.out, hqr.out]; rfl
            clear hmem hi1 hi2
            go_wp2_with fail
            refine HCR.out.mono ?_
            rintro e w6 ⟨rfl, hb6⟩
            have hB6 := ext_trans hBp hb6
            clear r0 r1 g0 g1 HCR
            go_wp2_with fail
            go_roundw
            case rel => exact ⟨j + 1, hjl, by go_num, by rw [← hE.out], hB6⟩
            case measure => simp [intOf]; omega
        · have hjj : l.length = j := by omega
          have hst := Lib.hid (keepN_step (p := (nw, l)) (ts := ts) (now := now) i)
          have hqq : Hid (keptB (nw, l) ts now i = q) := by rw [Hid, ← keptI_end, hjj]; exact hq.out
          rw [hqq.out] at hst
          have hownp := Lib.hid (hown.out.below hBp)
          have hszp := hBp.size
          clear hjj
          cases q with
          | false =>
            go_wp2_with fail
            go_roundw
            case rel => exact ⟨i + 1, B, vc, out, hlt, by go_num, rfl, hB4, by rw [Hid, hst.out, hout.out]; simp, hownp.out⟩
            case measure => simp [intOf]; omega
          | true =>
            have hlt5 := hownp.out.lt
            have hO5 := Lib.hid (hownp.out.alloc (.cells #[.int .i64 i] 3))
            have hO5o := Lib.hid hO5.out.1
            have HRD : Hid (encInt.rd (wp.alloc (.cells #[.int .i64 i] 3)) (fun g => Nw n4 (wp.alloc (.cells #[.int .i64 i] 3)).heap.size g ∧ ¬ (fun _ => False) g ∧ (Value.slice B out.length vc).ownBlock ≠ some g) [.int .i64 i] (i : Int)) := ⟨rfl, by unfold I64; omega⟩
            go_wp2_with (at_builtin; refine Hid.out ?_)
            change wpList _ _ _ _ _ _
            refine wpList_app1 (E := encInt) tyInts38 rfl _ _ rfl rfl hO5o.out (i : Int) [.int .i64 i] rfl HRD.out (heap_alloc_new _ _) (fun _ h => h.1.2) (by simp; omega) (by unfold maxLen; omega) (by omega) ?_
            intro A7 c7 w7 hown7 hg7 hat7
            have hO7 := Lib.hid (hO5.out.app hown7 hg7 hat7 (fun g h => h.elim))
            have hB7 : Hid (Below n4 w3 w7) := (hB4.alloc (by omega) (.cells #[.int .i64 i] 3)).grown hg7 (by simp; omega) (fun g h => (hlt5 g h).1)
            have hnext : Hid (out ++ [(i : Int)] = intsN ((List.range (i + 1)).filter (keptB (nw, l) ts now))) := by rw [Hid, hst.out, hout.out]; simp [intsN]
            clear hown7 hg7 hat7 hlt5
            go_wp2
            go_roundw
            case rel =>
              refine ⟨i + 1, A7, c7, out ++ [(i : Int)], hlt, by go_num, by simp, hB7.out, hnext.out, ?_⟩
              have := hO7.out; simpa [Hid] using this
            case measure => simp [intOf]; omega
    · have hkk : i = ts.length := by omega
      subst hkk
      have hE : Hid (out = intsN r) := by rw [Hid, hout.out, ← HE.out]; rfl
      obtain ⟨_, p1, p2, p3⟩ := hown.out.parts
      have HF : Hid (RetSl encInt (intsN r) w (.returned (.slice B out.length vc)) wo) := by
        rw [← hE.out]
        exact ⟨B, vc, rfl, p1, p2, p3.more (fun g hg => ⟨by have := hg.1.1; have := hbw2.size; omega, hg.1.2⟩), HBW.out wo hB⟩
      clear p3
      go_wp2_with fail
      go_ret
      exact HF.out
end Go.Proofs.YtnkmklnlaepdeaaGreat
