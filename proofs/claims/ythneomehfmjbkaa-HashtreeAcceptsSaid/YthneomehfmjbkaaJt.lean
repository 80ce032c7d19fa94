/-
  The walk of the law HashtreeAccepts.
-/
import Derived.Test.YthneomehfmjbkaaJj
import Derived.Test.YthneomehfmjbkaaJn
import Derived.Test.YthneomehfmjbkaaJs
import Derived.Test.YthneomehfmjbkaaJg
set_option linter.unusedVariables false
set_option linter.unusedSimpArgs false
set_option linter.unusedSectionVars false
set_option linter.unnecessarySimpa false
namespace Go.Proofs.Ythneomehfmjbkaa
open Go.RowKit Go.Shelf
attribute [local go_sem] Oper.semAt_some

theorem levels_dig_len {l : List Sec} {m : Nat} (hl : l.length ≤ 100) (hm : 1 ≤ m) : (levels (digests l m)).length ≤ 102 := by
  have := levels_len (digests l m); rw [digests_len] at this; have := leavesN_le (n := l.length) hm; omega
theorem levels_zero (v : List Int) (h : 0 < (levels v).length) : (levels v)[0]'h = v := by
  have e : (levels v).headD [] = (levels v)[0]'h := by rw [List.headD_eq_head?_getD, List.head?_eq_getElem?, List.getElem?_eq_getElem h]; rfl
  rw [← e]; exact levels_head v
theorem levels_zero_ (v : List Int) : (levels v)[0]? = some v := by
  rw [List.getElem?_eq_getElem (List.length_pos_iff.2 (levels_ne v)), levels_zero]
set_option maxHeartbeats 2000000 in
set_option maxRecDepth 100000 in
theorem accepts_any (A A2 : Option Addr) (c c2 : Nat) (l data : List Sec) (a0 a1 : Int) (w : World) (h1 : SlAt encSec w (Bl w.heap.size) A l) (h2 : l.length ≤ c) (h3 : c ≤ maxLen) (ha0 : 0 ≤ a0 ∧ a0 < 256) (ha1 : 0 ≤ a1 ∧ a1 < 256) (k1 : SlAt encSec w (Bl w.heap.size) A2 data) (k2 : data.length ≤ c2) (k3 : c2 ≤ maxLen) :
    Calls Try.prog 11 #[.slice A l.length c, .agg #[.int .u8 a0, .int .u8 a1], .slice A2 data.length c2] w (LawRet w) := by
  have H1 := Lib.hid h1; clear h1
  have H2 := Lib.hid k1; clear k1
  have hl64 := max_len11 h2 h3
  have hd64 := max_len11 k2 k3
  have HC := Lib.hid (And.intro h2 h3)
  have HC2 := Lib.hid (And.intro k2 k3)
  obtain ⟨f, rfl⟩ : ∃ f : Nat, a0 = f := ⟨a0.toNat, by omega⟩
  obtain ⟨f', rfl⟩ : ∃ f' : Nat, a1 = f' := ⟨a1.toNat, by omega⟩
  obtain ⟨hf1, hf2⟩ := ha0
  obtain ⟨hf3, hf4⟩ := ha1
  obtain ⟨w0, hw0⟩ : ∃ w0, w.alloc (.cells #[.int .u8 f, .int .u8 f'] 71) = w0 := ⟨_, rfl⟩
  have hb0 : Below w.heap.size w w0 := by rw [← hw0]; exact ext_alloc (Below.refl _ _)
  have hs0 : w0.heap.size = w.heap.size + 1 := by rw [← hw0]; simp
  have hr0 : w0.heap[w.heap.size]? = some (.cells #[.int .u8 f, .int .u8 f'] 71 (0, 0)) := by rw [← hw0]; exact heap_alloc_new _ _
  obtain ⟨p0, p1, _⟩ := blk2 hr0
  have HRW := Lib.hid (fun W (hb : Below w0.heap.size w0 W) => (hb.block w.heap.size (by omega)).trans hr0)
  clear hr0 h2 h3 k2 k3
  by_cases hl1 : (l.length : Int) < 1
  case pos => go_enter Try.func11, Try.ntmps11
              go_wp2_with fail
              refine (awake_any _).mono ?_
              rintro e wz ⟨rfl, hbz⟩
              go_wp2
              go_ret
              exact ⟨rfl, ext_trans hb0 hbz⟩
  by_cases hl2 : (100 : Int) < l.length
  case pos => go_enter Try.func11, Try.ntmps11
              go_wp2_with fail
              refine (awake_any _).mono ?_
              rintro e wz ⟨rfl, hbz⟩
              go_wp2
              go_ret
              exact ⟨rfl, ext_trans hb0 hbz⟩
  by_cases hl3 : (100 : Int) < data.length
  case pos => go_enter Try.func11, Try.ntmps11
              go_wp2_with fail
              refine (awake_any _).mono ?_
              rintro e wz ⟨rfl, hbz⟩
              go_wp2
              go_ret
              exact ⟨rfl, ext_trans hb0 hbz⟩
  obtain ⟨bl, offl, rfl, hbl⟩ := H1.out.some_ (fun e => by rw [e] at hl1; simp at hl1)
  obtain ⟨m, hm⟩ : ∃ m : Nat, f % 20 + 1 = m := ⟨_, rfl⟩
  have hm20 : 1 ≤ m ∧ m ≤ 20 := by omega
  have hmi : (f : Int) % 20 + 1 = m := by omega
  have hbd := build_ok (l := l) (m := m) (by omega) (by omega)
  have HB := Lib.hid (build_any (some ⟨bl, offl, none⟩) c l.length l (m : Int) w0 rfl HC.out (H1.out.fwd hb0) (by omega) (by unfold I64; omega))
  rw [hbd.1, hbd.2.1] at HB
  have hck := hbd.2.2
  have hvl := digests_len l m
  have hN4 := leavesN_le (n := l.length) hm20.1
  obtain ⟨n', m', hn', hm', htok⟩ := checkT_TOk hck
  have en : n' = l.length := by omega
  have em : m' = m := by omega
  subst en em
  have hl0 := htok.ne
  have hat := htok.at_ 0 hl0
  have hN1 : 1 ≤ leavesN l.length m' := hat.2.2.1
  clear hat
  have hl13 := htok.len
  have hhead := levels_zero_ (digests l m')
  obtain ⟨i, hi⟩ : ∃ i : Nat, f' % leavesN l.length m' = i := ⟨_, rfl⟩
  have hiN : i < leavesN l.length m' := by rw [← hi]; exact Nat.mod_lt _ (by omega)
  have him := leaf_lt hm20.1 hiN
  have hacc := accept_law (n := l.length) (m := m') (i := i) (v := digests l m') (data := data) (topL (digests l m')) ⟨by omega, by omega⟩ ⟨by omega, by omega⟩ hvl hiN
  have hacc2 := accept_law (n := l.length) (m := m') (i := i) (v := digests l m') (data := leafAt l m' i) (topL (digests l m')) ⟨by omega, by omega⟩ ⟨by omega, by omega⟩ hvl hiN
  rw [digests_self hiN, leafAt_len] at hacc2
  simp only [decide_true, beq_self_eq_true, Bool.and_self] at hacc2
  have hpe : proofE ((l.length : Int), (m' : Int), levels (digests l m')) (i : Int) = 0 := by
    unfold proofE; rw [hck, if_neg (by decide), levels_head, hvl, if_neg (by omega)]
  have hpt : proofT ((l.length : Int), (m' : Int), levels (digests l m')) (i : Int) = proofL i (levels (digests l m')) := by
    unfold proofT; rw [if_pos hpe]; rfl
  have hrt := rootT_top hck
  have hpl := proofL_len (levels (digests l m')) i
  have hchg := fun h => digests_chg (l := l) (data := data) (m := m') (i := i) hm20.1 hiN h
  obtain ⟨q, hq⟩ : ∃ q, i * m' = q := ⟨_, rfl⟩
  rw [hq] at him hacc hchg
  have hqi : (i : Int) * (m' : Int) = q := by rw [← hq]; simp
  obtain ⟨t, ht⟩ : ∃ t, min l.length (q + m') = t := ⟨_, rfl⟩
  have hmin1 : min (l.length : Int) (q : Int) = q := by omega
  have hmin2 : min (l.length : Int) ((q : Int) + m') = t := by omega
  have hqt : q ≤ t := by omega
  have htl : t ≤ l.length := by omega
  have hlf : min m' (l.length - q) = t - q := by omega
  rw [hlf] at hacc hchg
  have hlq := leafAt_len l m' i
  have hlfq : leafAt l m' i = (l.drop q).take m' := by unfold leafAt; rw [hq]
  rw [hq, hlf] at hlq
  obtain ⟨R, hR⟩ : ∃ R, topL (digests l m') = R := ⟨_, rfl⟩
  rw [hR] at hacc hacc2 hrt
  obtain ⟨lv, hlv⟩ : ∃ lv, levels (digests l m') = lv := ⟨_, rfl⟩
  obtain ⟨v, hv⟩ : ∃ v, digests l m' = v := ⟨_, rfl⟩
  simp only [hv] at hvl hhead hacc hacc2 hchg hlv HB hck htok hpe hpt hrt hl0 hl13 hpl
  simp only [hlv] at hhead hacc hacc2 HB hck htok hpe hpt hrt hl0 hl13 hpl
  obtain ⟨N, hN⟩ : ∃ N, leavesN l.length m' = N := ⟨_, rfl⟩
  simp only [hN] at hvl hN4 hN1 hi hiN
  obtain ⟨pf, hpf⟩ : ∃ pf, proofL i lv = pf := ⟨_, rfl⟩
  simp only [hpf] at hacc hacc2 hpt hpl
  have HHEAD := Lib.hid hhead
  have HACC := Lib.hid hacc
  have HACC2 := Lib.hid hacc2
  have HCHG := Lib.hid hchg
  have HLV := Lib.hid hlv
  have HV := Lib.hid hv
  have HR := Lib.hid hR
  have HLQ := Lib.hid hlq
  have HVL := Lib.hid hvl
  have HLFQ := Lib.hid hlfq
  clear hlfq hbd hm hhead hacc hacc2 hchg hlv hv hR hlq hn' hm' hN hpf hvl htok hq ht hlf
  go_enter Try.func11, Try.ntmps11
  go_wp2_with fail
  refine HB.out.mono ?_
  rintro e w1 ⟨A1, c1, rfl, t1, t2, t3, hb1⟩
  simp only at t1 t3
  have HC1 : Hid (lv.length ≤ c1 ∧ c1 ≤ maxLen) := ⟨t1, t2⟩
  have HT1 := Lib.hid t3
  clear t1 t2 t3 HB p0 p1 hw0
  go_upto_region 5 with (fail)
  obtain ⟨w2, hw2⟩ : ∃ w2, w1.alloc (.cells #[.int .i64 l.length, .int .i64 m', .slice A1 lv.length c1] 26) = w2 := ⟨_, rfl⟩
  rw [hw2]
  have hb2 : Below w1.heap.size w1 w2 := by rw [← hw2]; exact ext_alloc (Below.refl _ _)
  have hr2 : w2.heap[w1.heap.size]? = some (.cells #[.int .i64 l.length, .int .i64 m', .slice A1 lv.length c1] 26 (0, 0)) := by rw [← hw2]; exact heap_alloc_new _ _
  have hs2' : w2.heap.size = w1.heap.size + 1 := by rw [← hw2]; simp
  clear hw2
  have HT2 := HT1.out.blk (w' := w2) (fun g hg => hb2.block g hg.2)
  have HTW := Lib.hid (fun W (hb : Below w2.heap.size w2 W) => (HT2.more (S' := Bl w2.heap.size) (fun g hg => by have : g < w1.heap.size := hg.2; show g < w2.heap.size; omega)).fwd hb)
  have HRT := Lib.hid (fun W (hb : Below w2.heap.size w2 W) => (hb.block w1.heap.size (by omega)).trans hr2)
  have hb02 : Below w0.heap.size w0 w2 := ext_trans hb1 hb2
  have hbw2 : Below w.heap.size w w2 := ext_trans hb0 hb02
  clear HT2 HT1
  obtain ⟨r0, r1, r2, _⟩ := blk3 hr2
  obtain ⟨p0, p1, _⟩ := blk2 (HRW.out w2 hb02)
  obtain ⟨bT, offT, D0, dc0, rfl, hbT, g0, _, _, _⟩ := (HTW.out w2 (Below.refl _ _)).sl hl0
  have hhd := HHEAD.out
  rw [List.getElem?_eq_getElem hl0, Option.some.injEq] at hhd
  rw [hhd, HVL.out] at g0
  clear hhd
  simp only [Nat.add_zero] at g0
  have hlz : ((lv.length : Int) == 0) = false := by simp; intro h; rw [h] at hl0; simp at hl0
  have hNz : ((N : Int) == 0) = false := by simp; omega
  have hNz' : ¬ (N : Int) = 0 := by omega
  have hlz' : (0 : Int) < lv.length := by omega
  have hmod : (f' : Int) % (N : Int) = i := by rw [← hi]; simp
  go_upto_region 7 with (fail)
  go_quiet (fail)
  rw [hmod]
  generalize hW3 : w2.drewN nq = w3
  have hd3 : Drew w2 w3 := ⟨nq, hW3.symm⟩
  have hb3 : Below w2.heap.size w2 w3 := hd3.below _
  clear hW3 r0 r1 r2 p0 p1 g0 hr2
  obtain ⟨r0, r1, r2, _⟩ := blk3 (HRT.out w3 hb3)
  have hTW3 := HTW.out w3 hb3
  have HPF := Lib.hid (proof_any (l.length : Int) (m' : Int) (i : Int) (some ⟨bT, offT, none⟩) c1 lv.length lv w3 rfl hTW3 (by omega) HC1.out ⟨by unfold I64; omega, by unfold I64; omega⟩ (by unfold I64; omega))
  rw [hpt, hpe] at HPF
  clear hTW3 hi hmod hlz hlz' hNz hNz'
  go_wp2_with fail
  refine HPF.out.mono ?_
  rintro e w4 ⟨A4, c4, rfl, t1, t2, t3, hb4⟩
  have HC4 : Hid (pf.length ≤ c4 ∧ c4 ≤ maxLen) := ⟨t1, t2⟩
  have hb24 : Below w2.heap.size w2 w4 := ext_trans hb3 hb4
  have HP4 := Lib.hid (fun W (hb : Below w4.heap.size w4 W) => (t3.more (S' := Bl w4.heap.size) (fun g hg => hg.2)).fwd hb)
  clear t1 t2 t3 HPF r0 r1 r2
  have hct : (t : Int) ≤ c ∧ (c : Int) ≤ 9223372036854775807 := by have := HC.out; unfold maxLen at this; omega
  obtain ⟨hct1, hct2⟩ := hct
  have hqtI : (q : Int) ≤ t := by omega
  have hqcI : (q : Int) < c := by omega
  have hlcI : (l.length : Int) ≤ c := by have := HC.out; omega
  have HCC : Hid (∀ W, Below w2.heap.size w2 W → W.cell? ⟨w1.heap.size, 0, none⟩ = some (.int .i64 l.length) ∧ W.cell? ⟨w1.heap.size, 1, none⟩ = some (.int .i64 m') ∧ W.cell? ⟨w1.heap.size, 2, none⟩ = some (.slice (some ⟨bT, offT, none⟩) lv.length c1)) := fun W hb => by
    obtain ⟨a, b, c, _⟩ := blk3 (HRT.out W hb)
    exact ⟨a, b, c⟩
  have KR := Lib.hid (fun W (hb : Below w2.heap.size w2 W) => root_any (l.length : Int) (m' : Int) (some ⟨bT, offT, none⟩) c1 lv.length lv R W rfl hrt (HTW.out W hb) (by omega) HC1.out ⟨by unfold I64; omega, by unfold I64; omega⟩)
  have HV1 : Hid (∀ W n5 c5, Below w4.heap.size w4 W → n5 = t - q → Calls Try.prog 31 #[.int .u64 R, .int .i64 l.length, .int .i64 m', .int .i64 i, .slice (some ⟨bl, offl + q * 8, none⟩) n5 c5, .slice A4 pf.length c4] W fun e w' => e = .returned (.bool true) ∧ Below W.heap.size W w') := fun W n5 c5 hb hn5 => by
    have hbW : Below w.heap.size w W := ext_trans hbw2 (ext_trans hb24 hb)
    have hsl : SlAt encSec W (Bl W.heap.size) (some ⟨bl, offl + q * 8, none⟩) (leafAt l m' i) := by rw [HLFQ.out]; exact ((H1.out.fwd hbW).drop (k := q)).take
    exact verify_any R (l.length : Int) (m' : Int) (i : Int) _ A4 c5 c4 n5 pf.length (leafAt l m' i) pf true W (by rw [HLQ.out]; exact hn5.symm) rfl HACC2.out hsl (HP4.out W hb) (by omega) (by omega) HC4.out ⟨by unfold I64; omega, by unfold I64; omega, by unfold I64; omega⟩
  have HV2 : Hid (∀ W, Below w4.heap.size w4 W → Calls Try.prog 31 #[.int .u64 R, .int .i64 l.length, .int .i64 m', .int .i64 i, .slice A2 data.length c2, .slice A4 pf.length c4] W fun e w' => e = .returned (.bool (decide (data.length = t - q) && topL (v.set i (digS data)) == R)) ∧ Below W.heap.size W w') := fun W hb => by
    have hbW : Below w.heap.size w W := ext_trans hbw2 (ext_trans hb24 hb)
    exact verify_any R (l.length : Int) (m' : Int) (i : Int) A2 A4 c2 c4 data.length pf.length data pf _ W rfl rfl HACC.out (H2.out.fwd hbW) (HP4.out W hb) (by omega) (by omega) HC4.out ⟨by unfold I64; omega, by unfold I64; omega, by unfold I64; omega⟩
  go_upto_region 10 with (fail)
  have hc0 := HCC.out w4.drew hb24.drew
  have hz24 := hb24.size
  go_region_held3 (fun W => W.cell? ⟨w1.heap.size, 0, none⟩ = some (.int .i64 l.length) ∧ W.cell? ⟨w1.heap.size, 1, none⟩ = some (.int .i64 m') ∧ W.cell? ⟨w1.heap.size, 2, none⟩ = some (.slice (some ⟨bT, offT, none⟩) lv.length c1)) (first | exact hc0 | exact HCC.out _ (ext_trans hb24 hx6) | exact HCC.out _ (ext_trans hb24 hx5)) (first | (go_at_call 31; refine (HV1.out w5 _ _ hx5 (by omega)).mono ?_; rintro e w6 ⟨rfl, h6⟩; have hx6 : Below w4.heap.size w4 w6 := ext_trans hx5 h6) | (go_at_call 27; refine (KR.out w4.drew hb24.drew).mono ?_; rintro e w5 ⟨rfl, h5⟩; have hx5 : Below w4.heap.size w4 w5 := bUn h5))
  have hb26 : Below w2.heap.size w2 w6 := ext_trans hb24 hx6
  have hx46 := hx6
  clear hx5 h5 h6 hc0 HV1 hmin1 hmin2 hqi
  obtain ⟨r0, r1, r2⟩ := HCC.out w6 hb26
  go_wp2_with fail
  refine (KR.out w6 hb26).mono ?_
  rintro e w7 ⟨rfl, hb7⟩
  have hx47 : Below w4.heap.size w4 w7 := ext_trans hx46 hb7
  clear r0 r1 r2 hb26
  go_wp2_with fail
  refine (HV2.out w7 hx47).mono ?_
  rintro e w8 ⟨rfl, hb8⟩
  have hx48 : Below w4.heap.size w4 w8 := ext_trans hx47 hb8
  have hb28 : Below w2.heap.size w2 w8 := ext_trans hb24 hx48
  have hbw8 : Below w.heap.size w w8 := ext_trans hbw2 hb28
  clear HV2 hb7 hb8 hx47 hx46 hx6
  by_cases hd : data.length = t - q
  case neg =>
    have hd' : ((data.length : Int) != (t : Int) - q) = true := by simp; omega
    have hdd : decide (data.length = t - q) = false := decide_eq_false hd
    rw [hdd, Bool.false_and]
    clear hd hdd
    go_wp2_with fail
    refine (awake_any _).mono ?_
    rintro e wz ⟨rfl, hbz⟩
    go_wp2
    go_ret
    exact ⟨rfl, ext_trans hbw8 hbz⟩
  have hd' : ((data.length : Int) != (t : Int) - q) = false := by simp; omega
  have hdd : decide (data.length = t - q) = true := decide_eq_true hd
  rw [hdd, Bool.true_and]
  have hqd : q + data.length = t := by omega
  obtain ⟨md, hmd⟩ : ∃ md, chg l q data = md := ⟨_, rfl⟩
  have hml : md.length = l.length := by rw [← hmd]; exact chg_len _ _ _
  have hcat : ([l.take q, data, l.drop t] : List (List Sec)).flatten = md := by
    rw [← hmd, ← chg_concat (l := l) (data := data) (a := q) (by omega), hqd]; simp
  have hdg := HCHG.out hd
  rw [hmd] at hdg
  have hbm := build_ok (l := md) (m := m') (by omega) (by omega)
  rw [hdg, hml] at hbm
  have hrm := rootT_top hbm.2.2
  obtain ⟨R2, hR2⟩ : ∃ R2, topL (v.set i (digS data)) = R2 := ⟨_, rfl⟩
  rw [hR2] at hrm ⊢
  obtain ⟨lm, hlm⟩ : ∃ lm, levels (v.set i (digS data)) = lm := ⟨_, rfl⟩
  rw [hlm] at hbm hrm
  have hlml : lm.length ≤ 102 := by
    rw [← hlm, ← hdg]; exact levels_dig_len (by omega) hm20.1
  have HBM := Lib.hid hbm
  have HRM := Lib.hid hrm
  have HCAT := Lib.hid hcat
  have HD := Lib.hid hd
  clear hd hdd hdg hbm hrm hcat hmd hR2 hlm
  have s1 : (0 : Int) ≤ q := by omega
  have s2 : (q : Int) ≤ c := by omega
  have s3 : (0 : Int) ≤ t := by omega
  have s4 : (t : Int) ≤ l.length := by omega
  obtain ⟨P3, hP3⟩ : ∃ P3 : Option Addr, (if c = t then some ⟨bl, offl, none⟩ else some ⟨bl, offl + t * 8, none⟩) = P3 := ⟨_, rfl⟩
  obtain ⟨W9, hW9⟩ : ∃ W9, (w8.alloc (.cells #[.slice (some ⟨bl, offl, none⟩) q c, .slice A2 data.length c2, .slice P3 (l.length - t) (c - t)] 22)).drew = W9 := ⟨_, rfl⟩
  have hb9 : Below w8.heap.size w8 W9 := by rw [← hW9]; exact (ext_alloc (Below.refl _ _)).drew
  have hs9 : w8.heap.size < W9.heap.size := by rw [← hW9]; simp [World.drew]
  have hr9 : W9.heap[w8.heap.size]? = some (.cells #[.slice (some ⟨bl, offl, none⟩) q c, .slice A2 data.length c2, .slice P3 (l.length - t) (c - t)] 22 (0, 0)) := by rw [← hW9]; exact heap_alloc_new _ _
  have hbw9 : Below w.heap.size w W9 := ext_trans hbw8 hb9
  have HCON : Hid (Calls Try.prog 34 #[.slice (some ⟨w8.heap.size, 0, none⟩) 3 3] W9 fun e w' => ∃ A c, e = .returned (.slice A l.length c) ∧ (l.length ≤ c ∧ c ≤ maxLen) ∧ SlAt encSec w' (Bl w'.heap.size) A md ∧ Below W9.heap.size W9 w') := by
    have hs1 : SlAt encSec W9 (Bl w8.heap.size) (some ⟨bl, offl, none⟩) (l.take q) := ((H1.out.fwd hbw8).take (n := q)).below hb9
    have hs2 : SlAt encSec W9 (Bl w8.heap.size) A2 data := (H2.out.fwd hbw8).below hb9
    have hs3 : SlAt encSec W9 (Bl w8.heap.size) P3 (l.drop t) := by
      by_cases hctq : c = t
      · have : l.drop t = [] := List.drop_eq_nil_of_le (by have := HC.out.1; omega)
        rw [this]; exact SlAt.nil_
      · rw [← hP3, if_neg hctq]
        exact ((H1.out.fwd hbw8).below hb9 : SlAt encSec W9 (Bl w8.heap.size) (some ⟨bl, offl, none⟩) l).drop (k := t)
    have hL : SlAt (encSl encSec) W9 (Bl W9.heap.size) (some ⟨w8.heap.size, 0, none⟩) [l.take q, data, l.drop t] :=
      litSl (S0 := Bl w8.heap.size) (css := [[.slice (some ⟨bl, offl, none⟩) q c], [.slice A2 data.length c2], [.slice P3 (l.length - t) (c - t)]]) hr9 rfl
        ⟨⟨some ⟨bl, offl, none⟩, c, by rw [List.length_take, Nat.min_eq_left (by omega)], by rw [List.length_take]; omega, HC.out.2, hs1⟩, ⟨A2, c2, rfl, HC2.out.1, HC2.out.2, hs2⟩, ⟨P3, c - t, by rw [List.length_drop], by rw [List.length_drop]; have := HC.out.1; omega, by have := HC.out.2; omega, hs3⟩, trivial⟩
        (fun b hb => Nat.lt_trans hb hs9) hs9 (fun h => Nat.lt_irrefl _ h)
    refine (concatSec (some ⟨w8.heap.size, 0, none⟩) 3 3 l.length [l.take q, data, l.drop t] W9 rfl hL (by rw [HCAT.out]; exact hml) (by omega) (by omega)).mono ?_
    rintro e w' ⟨A, c, rfl, ho, hb⟩
    rw [HCAT.out] at ho
    obtain ⟨A', c', he, k1, k2, k3⟩ := ho.reads (S' := Bl w'.heap.size) (fun g hg => Nat.lt_of_lt_of_le hg hb.size) (fun g hg => (ho.lt g hg).2)
    simp only [List.cons.injEq, Value.slice.injEq, and_true] at he
    obtain ⟨rfl, e2, rfl⟩ := he
    exact ⟨A, c, rfl, ⟨by omega, k2⟩, k3, hb⟩
  clear hr9
  go_upto_region 15 with (fail)
  go_region_held3 (fun _ => True) (first | trivial) (first | (go_at_call 34; refine HCON.out.mono ?_; rintro e w10 ⟨A10, d10, rfl, hd10, o10, h10⟩; have hx10 : Below W9.heap.size W9 w10 := h10))
  have hb10 := hx10
  have hbw10 : Below w.heap.size w w10 := ext_trans hbw9 hb10
  have hb210 : Below w2.heap.size w2 w10 := ext_trans hb28 (ext_trans hb9 hb10)
  have HB2 := Lib.hid (build_any A10 d10 l.length md (m' : Int) w10 hml hd10 o10 (by omega) (by unfold I64; omega))
  rw [HBM.out.1, HBM.out.2.1] at HB2
  clear hW9 hb9 hs9 hbw9 HCON h10 hx10 o10 hd10 s1 s2 s3 s4
  go_wp2_with fail
  refine HB2.out.mono ?_
  rintro e w11 ⟨A11, c11, rfl, t1, t2, t3, hb11⟩
  simp only at t1 t3
  have HC11 : Hid (lm.length ≤ c11 ∧ c11 ≤ maxLen) := ⟨t1, t2⟩
  have HT11 := Lib.hid t3
  clear t1 t2 t3 HB2
  go_upto_region 17 with (fail)
  obtain ⟨w12, hw12⟩ : ∃ w12, w11.alloc (.cells #[.int .i64 l.length, .int .i64 m', .slice A11 lm.length c11] 26) = w12 := ⟨_, rfl⟩
  rw [hw12]
  have hb12 : Below w11.heap.size w11 w12 := by rw [← hw12]; exact ext_alloc (Below.refl _ _)
  have hr12 : w12.heap[w11.heap.size]? = some (.cells #[.int .i64 l.length, .int .i64 m', .slice A11 lm.length c11] 26 (0, 0)) := by rw [← hw12]; exact heap_alloc_new _ _
  have hs12 : w12.heap.size = w11.heap.size + 1 := by rw [← hw12]; simp
  have hb212 : Below w2.heap.size w2 w12 := ext_trans hb210 (ext_trans hb11 hb12)
  have HT12 := HT11.out.blk (w' := w12) (fun g hg => hb12.block g hg.2)
  have HTW2 := Lib.hid (fun W (hb : Below w12.heap.size w12 W) => (HT12.more (S' := Bl w12.heap.size) (fun g hg => by have : g < w11.heap.size := hg.2; show g < w12.heap.size; omega)).fwd hb)
  have KR2 := Lib.hid (fun W (hb : Below w12.heap.size w12 W) => root_any (l.length : Int) (m' : Int) A11 c11 lm.length lm R2 W rfl HRM.out (HTW2.out W hb) (by omega) HC11.out ⟨by unfold I64; omega, by unfold I64; omega⟩)
  have HC2' : Hid (∀ W, Below w12.heap.size w12 W → (W.cell? ⟨w1.heap.size, 0, none⟩ = some (.int .i64 l.length) ∧ W.cell? ⟨w1.heap.size, 1, none⟩ = some (.int .i64 m') ∧ W.cell? ⟨w1.heap.size, 2, none⟩ = some (.slice (some ⟨bT, offT, none⟩) lv.length c1)) ∧ W.cell? ⟨w11.heap.size, 0, none⟩ = some (.int .i64 l.length) ∧ W.cell? ⟨w11.heap.size, 1, none⟩ = some (.int .i64 m') ∧ W.cell? ⟨w11.heap.size, 2, none⟩ = some (.slice A11 lm.length c11)) := fun W hb => by
    obtain ⟨a, b, c, _⟩ := blk3 ((hb.block w11.heap.size (by omega)).trans hr12)
    exact ⟨HCC.out W (ext_trans hb212 hb), a, b, c⟩
  have hbw12 : Below w.heap.size w w12 := ext_trans hbw2 hb212
  have hc0 := HC2'.out w12.drew (Below.refl _ _).drew
  clear hw12 hr12 HT12 HT11 hb210 hb10 hb11 hb12
  go_region_held3 (fun W => (W.cell? ⟨w1.heap.size, 0, none⟩ = some (.int .i64 l.length) ∧ W.cell? ⟨w1.heap.size, 1, none⟩ = some (.int .i64 m') ∧ W.cell? ⟨w1.heap.size, 2, none⟩ = some (.slice (some ⟨bT, offT, none⟩) lv.length c1)) ∧ W.cell? ⟨w11.heap.size, 0, none⟩ = some (.int .i64 l.length) ∧ W.cell? ⟨w11.heap.size, 1, none⟩ = some (.int .i64 m') ∧ W.cell? ⟨w11.heap.size, 2, none⟩ = some (.slice A11 lm.length c11)) (first | exact hc0 | exact HC2'.out _ hx15 | exact HC2'.out _ hx14 | exact HC2'.out _ hx13) (first | (go_at_call 12; refine (awake_any w14).mono ?_; rintro e w15 ⟨rfl, h15⟩; have hx15 : Below w12.heap.size w12 w15 := ext_trans hx14 h15) | (go_at_call 27; refine (KR.out w13 (ext_trans hb212 hx13)).mono ?_; rintro e w14 ⟨rfl, h14⟩; have hx14 : Below w12.heap.size w12 w14 := ext_trans hx13 h14) | (go_at_call 27; refine (KR2.out w12.drew (Below.refl _ _).drew).mono ?_; rintro e w13 ⟨rfl, h13⟩; have hx13 : Below w12.heap.size w12 w13 := bUn h13))
  go_wp2_with fail
  go_ret
  refine ⟨?_, ext_trans hbw12 hx15⟩
  first | rfl | simp
end Go.Proofs.Ythneomehfmjbkaa
