/-
  retention.in, Check, Most, the reference's Check and Most: the walks.
-/
import Derived.Test.YtnkmklnlaepdeaaGreatY4
import Derived.Test.YtnkmklnlaepdeaaGreatCb
import Derived.Test.YtnkmklnlaepdeaaGreatOpen
import Derived.BigQuiet
import Derived.RegionTactic
import Derived.BigRegion
import Derived.Deep.RegionLaw
import Derived.Deep.DeepCutAuto
set_option linter.unusedVariables false
set_option linter.unusedSimpArgs false
set_option linter.unusedSectionVars false
set_option linter.unnecessarySimpa false
namespace Go.Proofs.YtnkmklnlaepdeaaGreat
open Go.RowKit Go.Shelf
attribute [local go_sem] Oper.semAt_some

theorem inR_any (n a b : Int) (w : World) (q : Bool) (hq : decide (a ≤ n ∧ n ≤ b) = q) : Calls Tryz.prog 19 #[.int .i64 n, .int .i64 a, .int .i64 b] w fun e w' => e = .returned (.bool q) ∧ w' = w := by
  have HQ := Lib.hid hq; clear hq
  by_cases h1 : a ≤ n
  · by_cases h2 : n ≤ b
    · go_enter Tryz.func19, Tryz.ntmps19
      go_wp2
      go_ret
      exact ⟨ret_bool (show true = q by rw [← HQ.out, decide_eq_true ⟨h1, h2⟩]), rfl⟩
    · go_enter Tryz.func19, Tryz.ntmps19
      go_wp2
      go_ret
      exact ⟨ret_bool (show false = q by rw [← HQ.out, decide_eq_false (by omega)]), rfl⟩
  · go_enter Tryz.func19, Tryz.ntmps19
    go_wp2
    go_ret
    exact ⟨ret_bool (show false = q by rw [← HQ.out, decide_eq_false (by omega)]), rfl⟩
theorem okT_any (n : Int) (w : World) (q : Bool) (hq : okT n = q) : Calls Tryz.prog 26 #[.int .i64 n] w fun e w' => e = .returned (.bool q) ∧ w' = w := by
  have HQ := Lib.hid hq; clear hq
  by_cases h1 : 0 ≤ n
  · by_cases h2 : n ≤ 1073741824
    · go_enter Tryz.func26, Tryz.ntmps26
      go_wp2
      go_ret
      exact ⟨ret_bool (show true = q by rw [← HQ.out, okT, decide_eq_true ⟨h1, h2⟩]), rfl⟩
    · go_enter Tryz.func26, Tryz.ntmps26
      go_wp2
      go_ret
      exact ⟨ret_bool (show false = q by rw [← HQ.out, okT, decide_eq_false (by omega)]), rfl⟩
  · go_enter Tryz.func26, Tryz.ntmps26
    go_wp2
    go_ret
    exact ⟨ret_bool (show false = q by rw [← HQ.out, okT, decide_eq_false (by omega)]), rfl⟩
set_option maxHeartbeats 4000000 in
set_option maxRecDepth 100000 in
theorem polCheck_any (A : Option Addr) (c n : Nat) (nw : Int) (l : List Rule) (r : Int) (w : World) (hn : l.length = n) (hr : polE (nw, l) = r) (h1 : SlAt encExt w (Bl w.heap.size) A l) (hl : n ≤ 9223372036854775807) :
    Calls Tryz.prog 17 #[.agg #[.int .i64 nw, .slice A n c]] w fun e w' => e = .returned (.int .i64 r) ∧ Below w.heap.size w w' := by
  subst hn
  have HR := Lib.hid hr; clear hr
  have H1 : Hid (∀ w', Below w.heap.size w w' → SlAt encExt w' (Bl w.heap.size) A l) := fun w' hb => h1.below hb
  clear h1
  obtain ⟨W0, hW0⟩ : ∃ W0, w.alloc (.cells #[.int .i64 nw, .slice A l.length c] 24) = W0 := ⟨_, rfl⟩
  have hB0 : Below w.heap.size w W0 := by rw [← hW0]; exact ext_alloc (Below.refl _ _)
  have hs0 : Hid (W0.heap.size = w.heap.size + 1) := by rw [← hW0]; simp [Hid]
  have hr0 : W0.heap[w.heap.size]? = some (.cells #[.int .i64 nw, .slice A l.length c] 24 (0, 0)) := by rw [← hW0]; exact heap_alloc_new _ _
  have HRW : Hid (∀ W, Below W0.heap.size W0 W → W.cell? ⟨w.heap.size, 0, none⟩ = some (.int .i64 nw) ∧ W.cell? ⟨w.heap.size, 1, none⟩ = some (.slice A l.length c)) := fun W hb => by
    have := hs0.out
    obtain ⟨a, b, _⟩ := blk2 ((hb.block _ (by omega)).trans hr0)
    exact ⟨a, b⟩
  obtain ⟨r0, r1⟩ := HRW.out W0 (Below.refl _ _)
  clear hr0
  obtain ⟨q0, hq0⟩ : ∃ q, Hid (decide (0 ≤ nw ∧ nw ≤ 1024) = q) := ⟨_, rfl⟩
  have HI0 := Lib.hid (inR_any nw 0 1024 W0 q0 hq0.out)
  go_enter Tryz.func17, Tryz.ntmps17
  go_wp2_with fail
  refine HI0.out.mono ?_
  rintro e w1 ⟨rfl, rfl⟩
  clear HI0 hW0
  cases q0 with
  | false =>
    have hE : Hid ((2 : Int) = r) := by
      have := of_decide_eq_false hq0.out
      rw [Hid, ← HR.out, polE, if_pos (by simp only; omega)]
    go_wp2_with fail
    go_ret
    exact ⟨ret_int hE.out, hB0⟩
  | true =>
  have h0 := of_decide_eq_true hq0.out
  by_cases hl8 : l.length ≤ 8
  case neg =>
    have hl' : (8 : Int) < l.length := by omega
    have hE : Hid ((6 : Int) = r) := by rw [Hid, ← HR.out, polE, if_neg (by simp only; omega), if_pos (by simp only; omega)]
    clear hl8
    go_wp2_with fail
    go_ret
    exact ⟨ret_int hE.out, hB0⟩
  have hl' : ¬ (8 : Int) < l.length := by omega
  have hR2 : Hid (rulesE 0 l = r) := by rw [Hid, ← HR.out, polE, if_neg (by simp only; omega), if_neg (by simp only; omega)]
  clear HR h0
  go_wp2_with fail
  clear r0 r1
  go_loopw [3, 19] (fun v i wr => ∃ (k : Nat) (la : Int), k ≤ l.length ∧ i = .int .i64 k ∧ v = .int .i64 la ∧ Below w1.heap.size w1 wr ∧ Hid (la = lastR (l.take k)) ∧ Hid (rulesE 0 (l.take k) = 0)) (fun _ i _ => l.length - (intOf i).toNat)
  case atStart => exact ⟨0, 0, by omega, rfl, rfl, Below.refl _ _, by simp [Hid, lastR], by simp [Hid, rulesE]⟩
  case round =>
    obtain ⟨k, la, hk, rfl, rfl, hB, hla, hok⟩ := hrel
    have hBw := ext_trans hB0 hB
    by_cases hlt : k < l.length
    · obtain ⟨b, off, rfl, hb, g0, g1, hi1, hi2⟩ := (H1.out wr hBw).ext hlt
      have hstep := rulesE_step hok.out hlt
      rw [← hla.out] at hstep
      have hbad := fun h => (rulesE_bad (l := l) (k := k) h).symm
      rw [hstep, hR2.out] at hbad
      have hlast := lastR_take hlt
      obtain ⟨x, hx⟩ : ∃ x, l[k] = x := ⟨_, rfl⟩
      rw [hx] at g0 g1 hi1 hi2 hstep hbad hlast
      obtain ⟨ev, ct⟩ := x
      simp only at g0 g1 hi1 hi2 hlast
      have HBAD := Lib.hid hbad
      have HSTEP := Lib.hid hstep
      have HLAST := Lib.hid hlast
      have hki : (k : Int) < l.length := by omega
      have hnn : (0 : Int) ≤ k := by omega
      clear hx hstep hbad hlast
      go_upto_region 9 with (fail)
      obtain ⟨W1, hW1⟩ : ∃ W1, wr.alloc (.cells #[.int .i64 ev, .int .i64 ct] 48) = W1 := ⟨_, rfl⟩
      rw [hW1]
      have hb1 : Below wr.heap.size wr W1 := by rw [← hW1]; exact ext_alloc (Below.refl _ _)
      have hrx : W1.heap[wr.heap.size]? = some (.cells #[.int .i64 ev, .int .i64 ct] 48 (0, 0)) := by rw [← hW1]; exact heap_alloc_new _ _
      have hB1 : Below w1.heap.size w1 W1 := ext_trans hB hb1
      obtain ⟨x0, x1, _⟩ := blk2 hrx
      clear hW1 hrx g0 g1
      obtain ⟨q1, hq1⟩ : ∃ q, Hid (decide (1 ≤ ev ∧ ev ≤ 1073741824) = q) := ⟨_, rfl⟩
      have HI1 := Lib.hid (inR_any ev 1 1073741824 W1 q1 hq1.out)
      go_wp2_with fail
      refine HI1.out.mono ?_
      rintro e w3 ⟨rfl, rfl⟩
      clear HI1
      cases q1 with
      | false =>
        have hE : Hid ((2 : Int) = r) := by
          have h := of_decide_eq_false hq1.out
          have e0 : ruleE la (ev, ct) = 2 := by unfold ruleE; rw [if_pos (by simp only; omega)]
          have := HBAD.out (by rw [e0]; decide)
          rw [Hid, ← this, e0]
        go_wp2_with fail
        go_ret
        exact ⟨ret_int hE.out, ext_trans hB0 hB1⟩
      | true =>
      have hh1 := Lib.hid (of_decide_eq_true hq1.out)
      obtain ⟨q2, hq2⟩ : ∃ q, Hid (decide (1 ≤ ct ∧ ct ≤ 1024) = q) := ⟨_, rfl⟩
      have HI2 := Lib.hid (inR_any ct 1 1024 w3 q2 hq2.out)
      go_wp2_with fail
      refine HI2.out.mono ?_
      rintro e w4 ⟨rfl, rfl⟩
      clear HI2
      cases q2 with
      | false =>
        have hE : Hid ((2 : Int) = r) := by
          have h := of_decide_eq_false hq2.out
          have e0 : ruleE la (ev, ct) = 2 := by unfold ruleE; rw [if_pos (by simp only; omega)]
          have := HBAD.out (by rw [e0]; decide)
          rw [Hid, ← this, e0]
        go_wp2_with fail
        go_ret
        exact ⟨ret_int hE.out, ext_trans hB0 hB1⟩
      | true =>
      have hh2 := Lib.hid (of_decide_eq_true hq2.out)
      by_cases hle : ev ≤ la
      · have hE : Hid ((3 : Int) = r) := by
          have h1 := hh1.out
          have h2 := hh2.out
          have e0 : ruleE la (ev, ct) = 3 := by unfold ruleE; rw [if_neg (by simp only; omega), if_pos (by simp only; omega)]
          have := HBAD.out (by rw [e0]; decide)
          rw [Hid, ← this, e0]
        go_wp2_with fail
        go_ret
        exact ⟨ret_int hE.out, ext_trans hB0 hB1⟩
      · have hE : Hid (rulesE 0 (l.take (k + 1)) = 0) := by
          have h1 := hh1.out
          have h2 := hh2.out
          rw [Hid, HSTEP.out]; unfold ruleE; rw [if_neg (by simp only; omega), if_neg (by simp only; omega)]
        go_wp2_with fail
        go_roundw
        case rel => exact ⟨k + 1, ev, hlt, by go_num, rfl, hB1, HLAST.out.symm, hE.out⟩
        case measure => simp [intOf]; omega
    · have hkk : k = l.length := by omega
      subst hkk
      have hE : Hid ((0 : Int) = r) := by
        have h := hok.out
        rw [List.take_length] at h
        rw [Hid, ← hR2.out, h]
      go_wp2_with fail
      go_ret
      exact ⟨ret_int hE.out, hBw⟩
set_option maxHeartbeats 4000000 in
set_option maxRecDepth 100000 in
theorem polMost_any (A : Option Addr) (c n : Nat) (nw : Int) (l : List Rule) (r : Int) (w : World) (hn : l.length = n) (hr : mostP (nw, l) = r) (h1 : SlAt encExt w (Bl w.heap.size) A l) (hl : n ≤ 9223372036854775807) :
    Calls Tryz.prog 16 #[.agg #[.int .i64 nw, .slice A n c]] w fun e w' => e = .returned (.int .i64 r) ∧ Below w.heap.size w w' := by
  subst hn
  have HR := Lib.hid hr; clear hr
  have H1 : Hid (∀ w', Below w.heap.size w w' → SlAt encExt w' (Bl w.heap.size) A l) := fun w' hb => h1.below hb
  clear h1
  obtain ⟨W0, hW0⟩ : ∃ W0, w.alloc (.cells #[.int .i64 nw, .slice A l.length c] 24) = W0 := ⟨_, rfl⟩
  have hB0 : Below w.heap.size w W0 := by rw [← hW0]; exact ext_alloc (Below.refl _ _)
  have hs0 : Hid (W0.heap.size = w.heap.size + 1) := by rw [← hW0]; simp [Hid]
  have hr0 : W0.heap[w.heap.size]? = some (.cells #[.int .i64 nw, .slice A l.length c] 24 (0, 0)) := by rw [← hW0]; exact heap_alloc_new _ _
  have HRW : Hid (∀ W, Below W0.heap.size W0 W → W.cell? ⟨w.heap.size, 0, none⟩ = some (.int .i64 nw) ∧ W.cell? ⟨w.heap.size, 1, none⟩ = some (.slice A l.length c)) := fun W hb => by
    have := hs0.out
    obtain ⟨a, b, _⟩ := blk2 ((hb.block _ (by omega)).trans hr0)
    exact ⟨a, b⟩
  obtain ⟨r0, r1⟩ := HRW.out W0 (Below.refl _ _)
  clear hr0
  obtain ⟨pe, hpe⟩ : ∃ q, Hid (polE (nw, l) = q) := ⟨_, rfl⟩
  have HC := Lib.hid (polCheck_any A c l.length nw l pe W0 rfl hpe.out ((H1.out W0 hB0).more (Bl.mono hB0.size)) hl)
  go_enter Tryz.func16, Tryz.ntmps16
  go_wp2_with fail
  refine HC.out.mono ?_
  rintro e w1 ⟨rfl, hb1⟩
  clear HC hW0 r0 r1
  have hbw1 := ext_trans hB0 hb1
  obtain ⟨r0, r1⟩ := HRW.out w1 hb1
  by_cases hx0 : pe = 0
  case neg =>
    have hx0' : (pe != 0) = true := by simp [hx0]
    have hE : Hid ((0 : Int) = r) := by rw [Hid, ← HR.out, mostP, if_neg (by rw [hpe.out]; exact hx0)]
    clear hx0
    go_wp2_with fail
    go_ret
    exact ⟨ret_int hE.out, hbw1⟩
  have hx0' : (pe != 0) = false := by simp [hx0]
  have hP := Lib.hid (polE_ok (hpe.out.trans hx0))
  have hE : Hid (nw + (l.map (·.2)).sum = r) := by rw [Hid, ← HR.out, mostP, if_pos (hpe.out.trans hx0)]
  clear hx0 HR hpe
  go_wp2_with fail
  clear r0 r1
  go_loopw [3, 14] (fun v i wr => ∃ (k : Nat) (s : Int), k ≤ l.length ∧ i = .int .i64 k ∧ v = .int .i64 s ∧ Below w1.heap.size w1 wr ∧ Hid (s = nw + ((l.take k).map (·.2)).sum) ∧ Hid (0 ≤ s ∧ s ≤ 1024 + 1024 * k)) (fun _ i _ => l.length - (intOf i).toNat)
  case atStart => exact ⟨0, nw, by omega, rfl, rfl, Below.refl _ _, by simp [Hid], by have := hP.out; rw [Hid]; omega⟩
  case round =>
    obtain ⟨k, s, hk, rfl, rfl, hB, hs, hsb⟩ := hrel
    have hBw := ext_trans hbw1 hB
    by_cases hlt : k < l.length
    · obtain ⟨b, off, rfl, hb, g0, g1, hi1, hi2⟩ := (H1.out wr hBw).ext hlt
      have hstep : Hid (((l.take (k + 1)).map (·.2)).sum = ((l.take k).map (·.2)).sum + l[k].2) := by rw [Hid, List.take_succ_eq_append_getElem hlt, List.map_append, List.sum_append, List.map_cons, List.map_nil, List.sum_cons, List.sum_nil]; omega
      have hmem := hP.out.2.2.2.1 l[k] (List.getElem_mem hlt)
      obtain ⟨x, hx⟩ : ∃ x, l[k] = x := ⟨_, rfl⟩
      rw [hx] at g0 g1 hi1 hi2 hstep hmem
      obtain ⟨ev, ct⟩ := x
      simp only at g0 g1 hi1 hi2 hmem
      have hki : (k : Int) < l.length := by omega
      have hnn : (0 : Int) ≤ k := by omega
      have h8 := hP.out.2.2.1
      obtain ⟨hs0, hs1⟩ := hsb.out
      have hwr : IntKind.i64.wrap (s + ct) = s + ct := IntWalk.i64_in _ (by omega)
      clear hx hsb h8
      go_wp2_with fail
      go_roundw
      case rel => exact ⟨k + 1, s + ct, hlt, by go_num, rfl, ext_alloc hB, by rw [Hid, hstep.out, hs.out]; omega, by rw [Hid]; omega⟩
      case measure => simp [intOf]; omega
    · have hkk : k = l.length := by omega
      subst hkk
      have hF : Hid (s = r) := by
        have h := hs.out
        rw [List.take_length] at h
        rw [Hid, ← hE.out, h]
      go_wp2_with fail
      go_ret
      exact ⟨ret_int hF.out, hBw⟩
end Go.Proofs.YtnkmklnlaepdeaaGreat
