/-
  The law of the bounds of Keep: the walk.
-/
import Derived.Test.YtnkmklnlaepdeaaYw
set_option linter.unusedVariables false
set_option linter.unusedSimpArgs false
set_option linter.unusedSectionVars false
set_option linter.unnecessarySimpa false
namespace Go.Proofs.Ytnkmklnlaepdeaa
open Go.RowKit Go.Shelf
attribute [local go_sem] Oper.semAt_some

set_option maxHeartbeats 8000000 in
set_option maxRecDepth 100000 in
theorem rbounded_any (A At : Option Addr) (c ct n m : Nat) (nw now : Int) (l : List Rule) (ts : List Int) (w : World) (hn : l.length = n) (hm : ts.length = m) (h1 : SlAt encExt w (Bl w.heap.size) A l) (h2 : SlAt encInt w (Bl w.heap.size) At ts) (hl : n ≤ 9223372036854775807) (hl2 : m ≤ 9223372036854775807) :
    Calls Try.prog 8 #[.agg #[.int .i64 nw, .slice A n c], .slice At m ct, .int .i64 now] w (LawRet w) := by
  subst hn hm
  have H1 := Lib.hid h1; have H2 := Lib.hid h2; clear h1 h2
  obtain ⟨n0, hn0⟩ : ∃ n0, w.heap.size = n0 := ⟨_, rfl⟩
  obtain ⟨W0, hW0⟩ : ∃ W0, ((w.alloc (.cells #[.int .i64 nw, .slice A l.length c] 24)).alloc (.cells #[.slice At ts.length ct] 30)).alloc (.cells #[.int .i64 now] 3) = W0 := ⟨_, rfl⟩
  have hB0 : Below w.heap.size w W0 := by rw [← hW0]; exact ext_alloc (ext_alloc (ext_alloc (Below.refl _ _)))
  have hs0 : Hid (W0.heap.size = n0 + 3) := by rw [Hid, ← hW0, ← hn0]; simp
  have hr0 : W0.heap[n0]? = some (.cells #[.int .i64 nw, .slice A l.length c] 24 (0, 0)) := by rw [← hW0, ← hn0]; exact (Below.heap_alloc _ _ _ (by simp; omega)).trans ((Below.heap_alloc _ _ _ (by simp)).trans (heap_alloc_new _ _))
  have hr1 : W0.heap[n0 + 1]? = some (.cells #[.slice At ts.length ct] 30 (0, 0)) := by rw [← hW0, ← hn0]; exact (Below.heap_alloc _ _ _ (by simp)).trans (heap_new2 _ _ _)
  have hr2 : W0.heap[n0 + 2]? = some (.cells #[.int .i64 now] 3 (0, 0)) := by rw [← hW0, ← hn0]; exact heap_new3 _ _ _ _
  have HC : Hid (∀ W, Below W0.heap.size W0 W → (W.cell? ⟨n0, 0, none⟩ = some (.int .i64 nw) ∧ W.cell? ⟨n0, 1, none⟩ = some (.slice A l.length c)) ∧ W.cell? ⟨n0 + 1, 0, none⟩ = some (.slice At ts.length ct) ∧ W.cell? ⟨n0 + 2, 0, none⟩ = some (.int .i64 now)) := fun W hb => by
    have := hs0.out
    obtain ⟨a, b, _⟩ := blk2 ((hb.block n0 (by omega)).trans hr0)
    exact ⟨⟨a, b⟩, cell_of_row W _ 0 _ _ _ ((hb.block (n0 + 1) (by omega)).trans hr1), cell_of_row W _ 0 _ _ _ ((hb.block (n0 + 2) (by omega)).trans hr2)⟩
  obtain ⟨⟨p0, p1⟩, p2, p3⟩ := HC.out W0 (Below.refl _ _)
  have p3' : W0.cell? ⟨n0 + 1 + 1, 0, none⟩ = some (.int .i64 now) := p3
  have HW0 := Lib.hid hW0
  clear hr0 hr1 hr2 hW0
  go_enter Try.func8, Try.ntmps8
  go_upto_region 1 with (fail)
  try rw [hn0]
  rw [HW0.out]
  by_cases h40 : 8 < l.length
  · have h40' : (8 : Int) < l.length := by omega
    go_wp2_with fail
    refine (awake38_any _).mono ?_
    rintro e wz ⟨rfl, hbz⟩
    go_wp2
    go_ret
    exact ⟨rfl, ext_trans hB0 hbz⟩
  have h40' : ¬ (8 : Int) < l.length := by omega
  by_cases h60 : 60 < ts.length
  · have h60' : (60 : Int) < ts.length := by omega
    go_wp2_with fail
    refine (awake38_any _).mono ?_
    rintro e wz ⟨rfl, hbz⟩
    go_wp2
    go_ret
    exact ⟨rfl, ext_trans hB0 hbz⟩
  have h60' : ¬ (60 : Int) < ts.length := by omega
  obtain ⟨r, hr⟩ : ∃ r, Hid (keepL (nw, l) ts now = r) := ⟨_, Lib.hid rfl⟩
  obtain ⟨mp, hmp⟩ : ∃ q, Hid (mostP (nw, l) = q) := ⟨_, Lib.hid rfl⟩
  have K1 := Lib.hid (keep_any A At c ct ts.length l.length nw now l ts r W0 rfl rfl hr.out (H1.out.fwd hB0) (H2.out.fwd hB0) hl hl2)
  obtain ⟨ri, hri⟩ : ∃ ri, Hid (intsN r = ri) := ⟨_, Lib.hid rfl⟩
  have hril : ri.length = r.length := by rw [← hri.out]; simp [intsN]
  have hrl : r.length ≤ 60 := by have h := keepL_len (nw, l) ts now; rw [hr.out] at h; omega
  have hmost : ¬ mp < (ri.length : Int) := by
    have h := most_law (nw, l) ts now
    rw [hr.out, hmp.out] at h
    rw [hril]; omega
  have HRIL := Lib.hid hril
  rw [hri.out] at K1
  have hri60 : ri.length ≤ 60 := by omega
  clear hril
  go_wp2_with fail
  refine K1.out.mono ?_
  rintro e w1 ⟨RA, rc, rfl, _, _, hs1, hb1⟩
  have hB1 : Below w.heap.size w w1 := ext_trans hB0 hb1
  have K2 := Lib.hid (polMost_any A c l.length nw l mp w1 rfl hmp.out (H1.out.fwd hB1) hl)
  have HS1 := Lib.hid (show SlAt encInt w1 (Bl w1.heap.size) RA ri from hs1.more (fun g hg => hg.2))
  clear p0 p1 p2 p3 p3' hs1 K1
  obtain ⟨⟨p0, p1⟩, p2, p3⟩ := HC.out w1 hb1
  go_wp2_with fail
  refine K2.out.mono ?_
  rintro e w2 ⟨rfl, hb2⟩
  have hb02 : Below W0.heap.size W0 w2 := ext_trans hb1 hb2
  have hB2 : Below w.heap.size w w2 := ext_trans hB1 hb2
  have HS2 := Lib.hid (HS1.out.fwd hb2)
  clear p0 p1 p2 p3 K2
  obtain ⟨⟨p0, p1⟩, p2, p3⟩ := HC.out w2 hb02
  by_cases hr0 : ri.length = 0
  · have hz : ((ri.length : Int) == 0) = true := by simp [hr0]
    have HNIL : Hid (keepL (nw, l) ts now = []) := by rw [Hid, hr.out]; exact List.eq_nil_of_length_eq_zero (by rw [← HRIL.out]; exact hr0)
    obtain ⟨pe, hpe⟩ : ∃ q, Hid (polE (nw, l) = q) := ⟨_, Lib.hid rfl⟩
    obtain ⟨tb, htb⟩ : ∃ q, Hid (timesB ts = q) := ⟨_, Lib.hid rfl⟩
    have K3 := Lib.hid (polCheck_any A c l.length nw l pe w2 rfl hpe.out (H1.out.fwd hB2) hl)
    clear hr0
    go_wp2_with fail
    refine K3.out.mono ?_
    rintro e w3 ⟨rfl, hb3⟩
    have hb03 : Below W0.heap.size W0 w3 := ext_trans hb02 hb3
    have hB3 : Below w.heap.size w w3 := ext_trans hB2 hb3
    clear p0 p1 p2 p3 K3
    obtain ⟨⟨p0, p1⟩, p2, p3⟩ := HC.out w3 hb03
    have p3' : w3.cell? ⟨n0 + 1 + 1, 0, none⟩ = some (.int .i64 now) := p3
    by_cases hx0 : pe = 0
    case neg =>
      have hx0' : (pe == 0) = false := by simp [hx0]
      clear hx0
      go_wp2_with fail
      refine (awake38_any _).mono ?_
      rintro e wz ⟨rfl, hbz⟩
      go_wp2
      go_ret
      exact ⟨rfl, ext_trans hB3 hbz⟩
    have hx0' : (pe == 0) = true := by simp [hx0]
    have HPE : Hid (polE (nw, l) = 0) := hpe.out.trans hx0
    clear hx0 hpe
    have K4 := Lib.hid (refTimes_any At ct ts.length ts tb w3 rfl (H2.out.fwd hB3) hl2 htb.out)
    go_wp2_with fail
    refine K4.out.mono ?_
    rintro e w4 ⟨rfl, hb4⟩
    have hb04 : Below W0.heap.size W0 w4 := by first | exact ext_trans hb03 hb4 | exact ext_trans hb03 (hb4.below _)
    have hB4 : Below w.heap.size w w4 := ext_trans hB0 hb04
    clear p0 p1 p2 p3 p3' K4
    obtain ⟨⟨p0, p1⟩, p2, p3⟩ := HC.out w4 hb04
    have p3' : w4.cell? ⟨n0 + 1 + 1, 0, none⟩ = some (.int .i64 now) := p3
    cases tb with
    | false =>
      go_wp2_with fail
      refine (awake38_any _).mono ?_
      rintro e wz ⟨rfl, hbz⟩
      go_wp2
      go_ret
      exact ⟨rfl, ext_trans hB4 hbz⟩
    | true =>
      by_cases hn1 : 0 ≤ now
      · by_cases hn2 : now ≤ 1073741824
        · have hnl := bound_nil HNIL.out ⟨HPE.out, htb.out, by simp [okT, hn1, hn2]⟩
          by_cases hw0 : 0 < nw
          · have hl0 : ts.length = 0 := by
              rcases Nat.eq_zero_or_pos ts.length with h | h
              · exact h
              · exact absurd ⟨hw0, h⟩ hnl
            clear hnl
            go_wp2_with fail
            refine (awake38_any _).mono ?_
            rintro e wz ⟨rfl, hbz⟩
            go_wp2
            go_ret
            exact ⟨rfl, ext_trans hB4 hbz⟩
          · clear hnl
            go_wp2_with fail
            refine (awake38_any _).mono ?_
            rintro e wz ⟨rfl, hbz⟩
            go_wp2
            go_ret
            exact ⟨rfl, ext_trans hB4 hbz⟩
        · go_wp2_with fail
          refine (awake38_any _).mono ?_
          rintro e wz ⟨rfl, hbz⟩
          go_wp2
          go_ret
          exact ⟨rfl, ext_trans hB4 hbz⟩
      · go_wp2_with fail
        refine (awake38_any _).mono ?_
        rintro e wz ⟨rfl, hbz⟩
        go_wp2
        go_ret
        exact ⟨rfl, ext_trans hB4 hbz⟩
  have hz : ((ri.length : Int) == 0) = false := by rw [beq_eq_false_iff_ne]; omega
  have hne : ∃ i, i ∈ r := by
    cases r with
    | nil => exact absurd (by rw [HRIL.out]; rfl) hr0
    | cons x _ => exact ⟨x, by simp⟩
  have HCD : Hid (polE (nw, l) = 0 ∧ timesB ts = true ∧ okT now = true) := by
    obtain ⟨i, hi⟩ := hne
    rw [← hr.out] at hi
    exact (keepL_cond hi).1
  have HP := Lib.hid (polE_ok HCD.out.1)
  have HT := Lib.hid (timesB_ok HCD.out.2.1)
  have hnow : Hid (0 ≤ now ∧ now ≤ 1073741824) := by have := HCD.out.2.2; rw [Hid]; simpa [okT] using this
  have hnw0 : 0 ≤ nw := HP.out.1
  have hnw1 : nw ≤ 1024 := HP.out.2.1
  have HIN : Hid (∀ (k : Nat) (hk : k < ri.length), ∃ i : Nat, ri[k] = i ∧ i < ts.length ∧ i ∈ r) := fun k hk => by
    have h : ri[k] ∈ intsN r := by have h := List.getElem_mem hk; have e := hri.out; rw [e]; exact h
    unfold intsN at h
    obtain ⟨i, hi, he⟩ := List.mem_map.1 h
    refine ⟨i, ?_, ?_, hi⟩
    · exact he.symm
    · rw [← hr.out] at hi; exact keepL_lt hi
  have HASC : Hid (ri.Pairwise (· < ·)) := by
    rw [← hri.out]
    unfold intsN
    rw [Hid, List.pairwise_map]
    have h := keepL_pairwise (nw, l) ts now
    rw [hr.out] at h
    exact h.imp (fun h => by omega)
  obtain ⟨n2, hn2⟩ : ∃ n2, w2.heap.size = n2 := ⟨_, rfl⟩
  have HFW : Hid (∀ W, Below n2 w2 W → Below W0.heap.size W0 W) := fun W hb => ext_trans hb02 (by rw [hn2]; exact hb)
  have HRS : Hid (∀ W, Below n2 w2 W → SlAt encInt W (Bl n2) RA ri) := fun W hb => by
    have h := HS2.out.below (w' := W) (by rw [hn2]; exact hb)
    rw [hn2] at h; exact h
  have hz2 := hb02.size
  have hs03 := hs0.out
  have hn23 : n0 + 3 ≤ n2 := by omega
  clear hr0 hne hs03
  go_wp2_with fail
  clear p0 p1 p2 p3
  go_loopw [67] (fun i wr => ∃ k : Nat, k ≤ ri.length ∧ i = .int .i64 k ∧ Below n2 w2 wr) (fun i _ => ri.length - (intOf i).toNat)
  case atStart => exact ⟨0, by omega, rfl, Below.refl _ _⟩
  case round =>
    obtain ⟨wo, rfl⟩ : ∃ wo : World, wo = wr := ⟨_, rfl⟩
    obtain ⟨k, hk, rfl, hB⟩ := hrel
    have hbo := HFW.out wo hB
    by_cases hlt : k < ri.length
    · obtain ⟨i, hie, hit, hir⟩ := HIN.out k hlt
      obtain ⟨b, off, hRA, hb, g0, _⟩ := (HRS.out wo hB).int hlt
      rw [hie] at g0
      have hki : (k : Int) < ri.length := by omega
      have hnn : (0 : Int) ≤ k := by omega
      have hszo := hB.size
      obtain ⟨V, hV⟩ : ∃ V, wo.alloc (.cells #[.int .i64 i] 3) = V := ⟨_, rfl⟩
      obtain ⟨bi, hbi⟩ : ∃ bi, wo.heap.size = bi := ⟨_, rfl⟩
      have hbV : Below wo.heap.size wo V := by rw [← hV]; exact ext_alloc (Below.refl _ _)
      have hrV : V.heap[bi]? = some (.cells #[.int .i64 i] 3 (0, 0)) := by rw [← hV, ← hbi]; exact heap_alloc_new _ _
      have hbiV : bi < V.heap.size := (Array.getElem?_eq_some_iff.1 hrV).1
      have hBV : Below n2 w2 V := hB.trans (hbV.mono (by omega))
      have hb0V := HFW.out V hBV
      have HFV : Hid (∀ W, Drew V W → W.cell? ⟨bi, 0, none⟩ = some (.int .i64 i) ∧ ((W.cell? ⟨n0, 0, none⟩ = some (.int .i64 nw) ∧ W.cell? ⟨n0, 1, none⟩ = some (.slice A l.length c)) ∧ W.cell? ⟨n0 + 1, 0, none⟩ = some (.slice At ts.length ct) ∧ W.cell? ⟨n0 + 2, 0, none⟩ = some (.int .i64 now)) ∧ Below n2 w2 W) := fun W hd => by
        have hx : Below n2 w2 W := hBV.trans (hd.below _)
        exact ⟨(hd.cell _).trans (cell_of_row V _ 0 _ _ _ hrV), HC.out W (HFW.out W hx), hx⟩
      have hpre : Hid (∀ j, k = j + 1 → ∃ i' : Nat, V.cell? ⟨b, off + j, none⟩ = some (.int .i64 i') ∧ (i' : Int) < i) := fun j hj => by
        obtain ⟨i', hie', _, _⟩ := HIN.out j (by omega)
        obtain ⟨b', off', e', _, g0', _⟩ := (HRS.out V hBV).int (k := j) (by omega)
        rw [hRA] at e'
        simp only [Option.some.injEq, Addr.mk.injEq, and_true] at e'
        obtain ⟨rfl, rfl⟩ := e'
        rw [hie'] at g0'
        refine ⟨i', g0', ?_⟩
        have h := (List.pairwise_iff_getElem.1 HASC.out) j k (by omega) hlt (by omega)
        rw [hie, hie'] at h
        exact h
      have hiI : ¬ (i : Int) < 0 := by omega
      have hig : ¬ (ts.length : Int) ≤ i := by omega
      have hiId : decide ((i : Int) < 0) = false := decide_eq_false hiI
      have higd : decide ((ts.length : Int) ≤ i) = false := decide_eq_false hig
      have hit60 : i ≤ 60 := by omega
      have HIR := Lib.hid hir
      subst hRA
      clear hie hir
      obtain ⟨v0, ⟨⟨v1, v2⟩, v3, v4⟩, _⟩ := HFV.out V (Drew.refl _)
      go_upto_region 12 with (fail)
      try rw [hV]
      try rw [hbi]
      go_cut [92] (fun e wx => e = .bool false ∧ Drew V wx)
      case first =>
        cases k with
        | zero =>
          have hkd : decide ((0 : Int) < ((0 : Nat) : Int)) = false := by decide
          go_quiet (fail)
          (try go_wp2)
          go_meet
          exact ⟨rfl, Drew.step (Drew.refl _) _⟩
        | succ j =>
          obtain ⟨i', gp, hlt'⟩ := hpre.out j rfl
          have e5 : ((j + 1 : Nat) : Int) = (j : Int) + 1 := by omega
          have hjr : (j : Int) < ri.length := by omega
          have hj0 : (0 : Int) ≤ j := by omega
          have hii : decide ((i : Int) ≤ i') = false := decide_eq_false (by omega)
          have HJ := Lib.hid hlt'
          clear hpre hlt'
          rw [e5] at hki hnn ⊢
          have hkd : decide ((0 : Int) < (j : Int) + 1) = true := decide_eq_true (by omega)
          go_quiet (fail)
          (try go_wp2)
          go_meet
          exact ⟨by rw [decide_eq_false (show ¬ i ≤ i' by have := HJ.out; omega)], Drew.step (Drew.refl _) _⟩
      case rest =>
        obtain ⟨rfl, hd⟩ := hcut
        clear v0 v1 v2 v3 v4 g0 hpre
        obtain ⟨v0, ⟨⟨v1, v2⟩, v3, v4⟩, hBc⟩ := HFV.out wc hd
        by_cases hnew : (ts.length : Int) - nw ≤ i
        · go_wp2_with fail
          go_roundw
          case rel => exact ⟨k + 1, hlt, by go_num, hBc⟩
          case measure => simp [intOf]; omega
        · have hany : Hid ((l.any (bndB ts now i)) = true) := by rw [Hid]; exact bound_rule (p := (nw, l)) (by rw [hr.out]; exact HIR.out) hnew
          have hbc := HFW.out wc hBc
          have hBwc := ext_trans hB0 hbc
          have hzc : V.heap.size ≤ wc.heap.size := (hd.below V.heap.size).size
          have hs3 := hs0.out
          have hcl : BndCl At ct i bi (n0 + 1) (n0 + 2) ts now wc := ⟨⟨hit, by omega⟩, H2.out.fwd hBwc, HT.out.1, hnow.out, ⟨by omega, by have := hbc.size; omega, by have := hbc.size; omega⟩, v0, v3, v4⟩
          have HK := Lib.hid (containsBnd_any A c l wc (H1.out.fwd hBwc) hl At ct i bi (n0 + 1) (n0 + 2) ts now hcl true hany.out)
          clear hcl hs3
          go_wp2_with fail
          refine HK.out.mono ?_
          rintro e w5 ⟨rfl, hb5⟩
          have hB5 : Below n2 w2 w5 := hBc.trans (hb5.mono (by have := hBc.size; omega))
          go_wp2_with fail
          go_roundw
          case rel => exact ⟨k + 1, hlt, by go_num, hB5⟩
          case measure => simp [intOf]; omega
    · have hkI : ¬ (k : Int) < ri.length := by omega
      clear hlt
      obtain ⟨⟨p0, p1⟩, p2, p3⟩ := HC.out wo hbo
      obtain ⟨s0, hs0'⟩ : ∃ s0 : Nat, max 0 ((ts.length : Int) - nw) = (s0 : Int) := ⟨(max 0 ((ts.length : Int) - nw)).toNat, by omega⟩
      have hsl : s0 ≤ ts.length := by omega
      have HS0 : Hid ((ts.length : Int) - nw ≤ s0) := by rw [Hid, ← hs0']; omega
      have HRo := Lib.hid ((HRS.out wo hB).more (fun g (hg : g < n2) => show g < wo.heap.size by have := hB.size; omega))
      have hBwo := Lib.hid (ext_trans hB0 hbo)
      go_wp2_with fail
      clear p0 p1 p3
      go_loopw [12] (fun i wr => ∃ k : Nat, s0 ≤ k ∧ k ≤ ts.length ∧ i = .int .i64 k ∧ wr = wo) (fun i _ => ts.length - (intOf i).toNat)
      case atStart => exact ⟨s0, Nat.le_refl _, hsl, by go_num, rfl⟩
      case round =>
        obtain ⟨k2, hk0, hk2, rfl, rfl⟩ := hrel
        by_cases hlt2 : k2 < ts.length
        · have hki : (k2 : Int) < ts.length := by omega
          have hnn : (0 : Int) ≤ k2 := by omega
          have hct : Hid (ri.contains (k2 : Int) = true) := by
            rw [Hid, ← hri.out, intsN_has38, decide_eq_true_eq, ← hr.out]
            exact bound_new HCD.out hlt2 (by have := HS0.out; show (ts.length : Int) - nw ≤ k2; omega)
          have HK := Lib.hid (containsI_any RA rc ri.length ri (k2 : Int) true wr rfl HRo.out (by omega) hct.out)
          go_wp2_with fail
          refine HK.out.mono ?_
          rintro e w6 ⟨rfl, rfl⟩
          go_wp2_with fail
          go_roundw
          case rel => exact ⟨k2 + 1, by omega, hlt2, by go_num, by first | rfl | trivial⟩
          case measure => simp [intOf]; omega
        · have hki : ¬ (k2 : Int) < ts.length := by omega
          go_wp2_with fail
          refine (awake38_any _).mono ?_
          rintro e wz ⟨rfl, hbz⟩
          go_wp2
          go_ret
          exact ⟨rfl, ext_trans hBwo.out hbz⟩
end Go.Proofs.Ytnkmklnlaepdeaa
