/-
  The walk of the law HashtreeFinds.
-/
import Derived.Test.YthneomehfmjbkaaJu
import Derived.Test.YthneomehfmjbkaaHz
import Derived.Test.YthneomehfmjbkaaHc
import Derived.Test.YthneomehfmjbkaaBr
import Derived.Deep.OwnRows
set_option linter.unusedVariables false
set_option linter.unusedSimpArgs false
set_option linter.unusedSectionVars false
set_option linter.unnecessarySimpa false
namespace Go.Proofs.Ythneomehfmjbkaa
open Go.RowKit Go.Shelf
attribute [local go_sem] Oper.semAt_some

/-- the marks of extents -/
def mkL (n : Nat) (es : List Ext) : List Bool := (List.range n).map fun (s : Nat) => es.any (inExt (s : Int))
theorem mkL_len (n : Nat) (es : List Ext) : (mkL n es).length = n := by simp [mkL]
theorem mkL_snoc {n : Nat} (hn : n ≤ 100) (es : List Ext) (e : Ext) : mkL n (es ++ [e]) = addM (mkL n es) e := by
  refine List.ext_getElem (by simp [mkL, addM]) fun i h1 h2 => ?_
  have hi : i < n := by rw [mkL_len] at h1; exact h1
  have he : inExt (i : Int) e = decide (e.1 ≤ i ∧ (i : Int) < e.1 + e.2) := by unfold inExt; rw [decide_eq_decide]; omega
  simp only [mkL, addM, List.getElem_map, List.getElem_range, List.getElem_mapIdx, List.any_append, List.any_cons, List.any_nil, Bool.or_false, he]
theorem mkL_nil (n : Nat) : (mkL n [] : List Bool) = List.replicate n false := by
  refine List.ext_getElem (by simp [mkL]) fun i h1 h2 => ?_
  simp [mkL]
theorem makeBools (n : Nat) (hn : n ≤ 100) (w : World) : (Instr.makeSlice 54 (.int .i64 n) (.int .i64 n)).run Try.prog w = .ok (.slice (some ⟨w.heap.size, 0, none⟩) n n) (w.alloc (.cells ((mkL n []).map Value.bool).toArray 4)) := by
  have h := run_make_row' (P := Try.prog) 54 4 (.bool false) 1 Try.underlying54 (by kernel_rfl) rfl .i64 .i64 n (by omega) (by omega) w
  have e : ((mkL n []).map Value.bool).toArray = madeCells #[.bool false] n := by
    apply Array.ext'
    rw [toList_madeCells_one, mkL_nil]
    simp
  rw [e]; exact h
set_option maxHeartbeats 4000000 in
set_option maxRecDepth 100000 in
theorem finds_any (A A2 : Option Addr) (c c2 : Nat) (l l' : List Sec) (a0 : Int) (w : World) (h1 : SlAt encSec w (Bl w.heap.size) A l) (h2 : l.length ≤ c) (h3 : c ≤ maxLen) (k1 : SlAt encSec w (Bl w.heap.size) A2 l') (k2 : l'.length ≤ c2) (k3 : c2 ≤ maxLen) (ha0 : 0 ≤ a0 ∧ a0 < 256) :
    Calls Try.prog 7 #[.slice A l.length c, .slice A2 l'.length c2, .int .u8 a0] w (LawRet w) := by
  have H1 := Lib.hid h1; clear h1
  have H2 := Lib.hid k1; clear k1
  have hl64 := max_len11 h2 h3
  have hd64 := max_len11 k2 k3
  have HC := Lib.hid (And.intro h2 h3)
  have HC2 := Lib.hid (And.intro k2 k3)
  obtain ⟨f, rfl⟩ : ∃ f : Nat, a0 = f := ⟨a0.toNat, by omega⟩
  obtain ⟨hf1, hf2⟩ := ha0
  clear h2 h3 k2 k3
  by_cases hl1 : (l.length : Int) < 1
  case pos => go_enter Try.func7, Try.ntmps7
              go_wp2_with fail
              refine (awake_any _).mono ?_
              rintro e wz ⟨rfl, hbz⟩
              go_wp2
              go_ret
              exact ⟨rfl, hbz⟩
  by_cases hl2 : (100 : Int) < l.length
  case pos => go_enter Try.func7, Try.ntmps7
              go_wp2_with fail
              refine (awake_any _).mono ?_
              rintro e wz ⟨rfl, hbz⟩
              go_wp2
              go_ret
              exact ⟨rfl, hbz⟩
  by_cases hl3 : l.length = l'.length
  case neg =>
    have hl3' : ((l.length : Int) != (l'.length : Int)) = true := by simp; omega
    clear hl3
    go_enter Try.func7, Try.ntmps7
    go_wp2_with fail
    refine (awake_any _).mono ?_
    rintro e wz ⟨rfl, hbz⟩
    go_wp2
    go_ret
    exact ⟨rfl, hbz⟩
  have hl3' : ((l.length : Int) != (l'.length : Int)) = false := by simp; omega
  obtain ⟨bl, offl, rfl, hbl⟩ := H1.out.some_ (fun e => by rw [e] at hl1; simp at hl1)
  obtain ⟨bm, offm, rfl, hbm⟩ := H2.out.some_ (fun e => by rw [e] at hl3; simp at hl3; rw [hl3] at hl1; simp at hl1)
  obtain ⟨m, hm⟩ : ∃ m : Nat, f % 20 + 1 = m := ⟨_, rfl⟩
  have hm20 : 1 ≤ m ∧ m ≤ 20 := by omega
  have hmi : (f : Int) % 20 + 1 = m := by omega
  have hbd := build_ok (l := l) (m := m) (by omega) (by omega)
  have hbd' := build_ok (l := l') (m := m) (by omega) (by omega)
  obtain ⟨n, hn⟩ : ∃ n, l.length = n := ⟨_, rfl⟩
  have hn' : l'.length = n := by omega
  rw [hn] at hl1 hl2 hl3' hl64 HC hbd
  rw [hn'] at hl3' hd64 HC2 hbd'
  have RB1 := Lib.hid (fun W (hb : Below w.heap.size w W) => refBuild_any (some ⟨bl, offl, none⟩) c n l (m : Int) W hn HC.out (H1.out.fwd hb) (by omega) (by unfold I64; omega))
  have RB2 := Lib.hid (fun W (hb : Below w.heap.size w W) => refBuild_any (some ⟨bm, offm, none⟩) c2 n l' (m : Int) W hn' HC2.out (H2.out.fwd hb) (by omega) (by unfold I64; omega))
  have CB1 := Lib.hid (fun W (hb : Below w.heap.size w W) => build_any (some ⟨bl, offl, none⟩) c n l (m : Int) W hn HC.out (H1.out.fwd hb) (by omega) (by unfold I64; omega))
  have CB2 := Lib.hid (fun W (hb : Below w.heap.size w W) => build_any (some ⟨bm, offm, none⟩) c2 n l' (m : Int) W hn' HC2.out (H2.out.fwd hb) (by omega) (by unfold I64; omega))
  rw [hbd.1, hbd.2.1] at RB1 CB1
  rw [hbd'.1, hbd'.2.1] at RB2 CB2
  obtain ⟨n0, m0, e1, e2, htok⟩ := checkT_TOk hbd.2.2
  have en : n0 = n := by omega
  have em : m0 = m := by omega
  rw [en, em] at htok
  clear e1 e2 en em
  have hck := hbd.2.2
  have hck' := hbd'.2.2
  have hlv1 := levels_dig_len (l := l) (m := m) (by omega) hm20.1
  have hlv2 := levels_dig_len (l := l') (m := m) (by omega) hm20.1
  have hde : difErr ((n : Int), (m : Int), levels (digests l m)) ((n : Int), (m : Int), levels (digests l' m)) = 0 := by
    unfold difErr; rw [hck, hck', if_neg (by decide), if_neg (by decide), if_neg (by simp)]
  have hdt : difT ((n : Int), (m : Int), levels (digests l m)) ((n : Int), (m : Int), levels (digests l' m)) = opL or ((difN (levels (digests l m)) (levels (digests l' m))).map (leafE n m)) [] := by
    unfold difT; rw [if_pos hde]; simp only [difE, Int.toNat_natCast]
  have HCOL := Lib.hid (fun W Aa Ab ca cb (hb : Below w.heap.size w W) (ha : SlAt (encSl encU64) W (Bl W.heap.size) Aa (levels (digests l m))) (hb2 : SlAt (encSl encU64) W (Bl W.heap.size) Ab (levels (digests l' m))) => collide_any m n ca cb c c2 Aa Ab bl offl bm offm l l' W hn hn' ⟨by omega, by omega⟩ hm20 htok ha hb2 (H1.out.fwd hb) (H2.out.fwd hb) HC.out HC2.out _ _ rfl rfl)
  have HDF := Lib.hid (fun W Aa Ab ca cb (ha : SlAt (encSl encU64) W (Bl W.heap.size) Aa (levels (digests l m))) (hb2 : SlAt (encSl encU64) W (Bl W.heap.size) Ab (levels (digests l' m))) (hca : (levels (digests l m)).length ≤ ca ∧ ca ≤ maxLen) (hcb : (levels (digests l' m)).length ≤ cb ∧ cb ≤ maxLen) => differ_any (n : Int) (m : Int) (n : Int) (m : Int) Aa Ab ca cb _ _ (levels (digests l m)) (levels (digests l' m)) W rfl rfl ha hb2 (by omega) (by omega) hca hcb ⟨by unfold I64; omega, by unfold I64; omega⟩ ⟨by unfold I64; omega, by unfold I64; omega⟩)
  rw [hde, hdt] at HDF
  have HFIN : Hid (NoCol l l' m → (∀ s : Nat, s < n → ((opL or ((difN (levels (digests l m)) (levels (digests l' m))).map (leafE n m)) []).any (inExt (s : Int))) = decide (leafAt l m (s / m) ≠ leafAt l' m (s / m)))) := fun hc s hs => by
    rw [opL_mem]
    subst hn
    rw [finds_law ⟨by omega, by omega⟩ ⟨by omega, by omega⟩ (by omega) hc htok s hs]
    have h4 : decide ((0 : Int) ≤ (s : Int) ∧ (s : Int) < 4096) = true := decide_eq_true (by omega)
    rw [h4]; simp
  have HDB : Hid (∀ e ∈ opL or ((difN (levels (digests l m)) (levels (digests l' m))).map (leafE n m)) [], 0 ≤ e.1 ∧ 0 < e.2 ∧ e.1 + e.2 ≤ n) := fun e he => by
    obtain ⟨b1, b2, b3⟩ := (opL_bound or _ _).1 e he
    refine ⟨b1, b2, ?_⟩
    have hmem := opL_mem or ((difN (levels (digests l m)) (levels (digests l' m))).map (leafE n m)) [] (e.1 + e.2 - 1)
    have h5 : (opL or ((difN (levels (digests l m)) (levels (digests l' m))).map (leafE n m)) []).any (inExt (e.1 + e.2 - 1)) = true := by
      rw [List.any_eq_true]; exact ⟨e, he, by unfold inExt; exact decide_eq_true (by omega)⟩
    rw [h5] at hmem
    have h6 : ((difN (levels (digests l m)) (levels (digests l' m))).map (leafE n m)).any (inExt (e.1 + e.2 - 1)) = true := by
      have := hmem.symm
      rw [Bool.and_eq_true] at this
      simpa using this.2
    obtain ⟨e', he', hin⟩ := List.any_eq_true.1 h6
    subst hn
    have := finds_in hm20.1 htok e' he'
    unfold inExt at hin
    have := of_decide_eq_true hin
    omega
  have hdl : (opL or ((difN (levels (digests l m)) (levels (digests l' m))).map (leafE n m)) []).length ≤ 4096 := (opL_bound _ _ _).2
  obtain ⟨d, hd⟩ : ∃ d, opL or ((difN (levels (digests l m)) (levels (digests l' m))).map (leafE n m)) [] = d := ⟨_, rfl⟩
  rw [hd] at HDF HFIN HDB hdl
  obtain ⟨lv, hlv⟩ : ∃ lv, levels (digests l m) = lv := ⟨_, rfl⟩
  obtain ⟨lv', hlv'⟩ : ∃ lv, levels (digests l' m) = lv := ⟨_, rfl⟩
  rw [hlv] at RB1 CB1 hlv1
  rw [hlv'] at RB2 CB2 hlv2
  simp only [hlv, hlv'] at HCOL HDF
  have HNN := Lib.hid (And.intro hn hn')
  clear hbd hbd' hck hck' hde hdt hm hlv hlv' hd htok
  clear hl3
  rw [HNN.out.1, HNN.out.2]
  clear hn hn'
  go_enter Try.func7, Try.ntmps7
  go_wp2_with fail
  refine (RB1.out w (Below.refl _ _)).mono ?_
  rintro e w1 ⟨A1, c1, rfl, t1, t2, t3, hb1⟩
  simp only at t1 t3
  have HT1 := Lib.hid t3
  clear t1 t2 t3 RB1
  go_upto_region 5 with (fail)
  obtain ⟨w2, hw2⟩ : ∃ w2, w1.alloc (.cells #[.int .i64 n, .int .i64 m, .slice A1 lv.length c1] 26) = w2 := ⟨_, rfl⟩
  rw [hw2]
  have hb2 : Below w1.heap.size w1 w2 := by rw [← hw2]; exact ext_alloc (Below.refl _ _)
  have hr2 : w2.heap[w1.heap.size]? = some (.cells #[.int .i64 n, .int .i64 m, .slice A1 lv.length c1] 26 (0, 0)) := by rw [← hw2]; exact heap_alloc_new _ _
  have hs2 : w2.heap.size = w1.heap.size + 1 := by rw [← hw2]; simp
  have hbw2 : Below w.heap.size w w2 := ext_trans hb1 hb2
  have HT2 := HT1.out.blk (w' := w2) (fun g hg => hb2.block g hg.2)
  have HTW := Lib.hid (fun W (hb : Below w2.heap.size w2 W) => (HT2.more (S' := Bl w2.heap.size) (fun g hg => by have : g < w1.heap.size := hg.2; show g < w2.heap.size; omega)).fwd hb)
  have HRT := Lib.hid (fun W (hb : Below w2.heap.size w2 W) => (hb.block w1.heap.size (by omega)).trans hr2)
  clear hw2 HT2 HT1 hr2
  go_wp2_with fail
  refine (RB2.out w2 hbw2).mono ?_
  rintro e w3 ⟨A3, c3, rfl, t1, t2, t3, hb3⟩
  simp only at t1 t3
  have HT3 := Lib.hid t3
  clear t1 t2 t3 RB2
  go_upto_region 6 with (fail)
  obtain ⟨w4, hw4⟩ : ∃ w4, w3.alloc (.cells #[.int .i64 n, .int .i64 m, .slice A3 lv'.length c3] 26) = w4 := ⟨_, rfl⟩
  rw [hw4]
  have hb4 : Below w3.heap.size w3 w4 := by rw [← hw4]; exact ext_alloc (Below.refl _ _)
  have hr4 : w4.heap[w3.heap.size]? = some (.cells #[.int .i64 n, .int .i64 m, .slice A3 lv'.length c3] 26 (0, 0)) := by rw [← hw4]; exact heap_alloc_new _ _
  have hs4 : w4.heap.size = w3.heap.size + 1 := by rw [← hw4]; simp
  have hb24 : Below w2.heap.size w2 w4 := ext_trans hb3 hb4
  have hbw4 : Below w.heap.size w w4 := ext_trans hbw2 hb24
  have HT4 := HT3.out.blk (w' := w4) (fun g hg => hb4.block g hg.2)
  have hcol := Lib.hid (HCOL.out w4 A1 A3 c1 c3 hbw4 (HTW.out w4 hb24) (HT4.more (S' := Bl w4.heap.size) (fun g hg => by have : g < w3.heap.size := hg.2; show g < w4.heap.size; omega)))
  obtain ⟨r0, r1, r2, _⟩ := blk3 (HRT.out w4 hb24)
  obtain ⟨e0, e1, e2, _⟩ := blk3 hr4
  clear hw4 HT4 HT3 hr4 HCOL
  go_wp2_with fail
  refine hcol.out.mono ?_
  rintro e w5 ⟨q, rfl, hq, hb5⟩
  have hbw5 : Below w.heap.size w w5 := ext_trans hbw4 hb5
  have HQ := Lib.hid hq
  clear hq hcol r0 r1 r2 e0 e1 e2 HTW HRT hb1 hb2 hb3 hb4 hb24 hs2 hs4 hb5 hbw2 hbw4
  cases q with
  | true =>
    go_wp2_with fail
    refine (awake_any _).mono ?_
    rintro e wz ⟨rfl, hbz⟩
    go_wp2
    go_ret
    exact ⟨rfl, ext_trans hbw5 hbz⟩
  | false =>
  have HF := Lib.hid (HFIN.out (HQ.out rfl))
  clear HQ HFIN
  go_wp2_with fail
  refine (CB1.out w5 hbw5).mono ?_
  rintro e w6 ⟨A6, c6, rfl, t1, t2, t3, hb6⟩
  simp only at t1 t3
  have HT6 := Lib.hid t3
  have HC6 : Hid (lv.length ≤ c6 ∧ c6 ≤ maxLen) := ⟨t1, t2⟩
  clear t1 t2 t3 CB1
  go_upto_region 9 with (fail)
  obtain ⟨w7, hw7⟩ : ∃ w7, w6.alloc (.cells #[.int .i64 n, .int .i64 m, .slice A6 lv.length c6] 26) = w7 := ⟨_, rfl⟩
  rw [hw7]
  have hb7 : Below w6.heap.size w6 w7 := by rw [← hw7]; exact ext_alloc (Below.refl _ _)
  have hr7 : w7.heap[w6.heap.size]? = some (.cells #[.int .i64 n, .int .i64 m, .slice A6 lv.length c6] 26 (0, 0)) := by rw [← hw7]; exact heap_alloc_new _ _
  have hs7 : w7.heap.size = w6.heap.size + 1 := by rw [← hw7]; simp
  have hbw7 : Below w.heap.size w w7 := ext_trans hbw5 (ext_trans hb6 hb7)
  have HT7 := HT6.out.blk (w' := w7) (fun g hg => hb7.block g hg.2)
  have HTW := Lib.hid (fun W (hb : Below w7.heap.size w7 W) => (HT7.more (S' := Bl w7.heap.size) (fun g hg => by have : g < w6.heap.size := hg.2; show g < w7.heap.size; omega)).fwd hb)
  have HRT := Lib.hid (fun W (hb : Below w7.heap.size w7 W) => (hb.block w6.heap.size (by omega)).trans hr7)
  clear hw7 HT7 HT6 hr7
  go_wp2_with fail
  refine (CB2.out w7 hbw7).mono ?_
  rintro e w8 ⟨A8, c8, rfl, t1, t2, t3, hb8⟩
  simp only at t1 t3
  have HT8 := Lib.hid t3
  have HC8 : Hid (lv'.length ≤ c8 ∧ c8 ≤ maxLen) := ⟨t1, t2⟩
  clear t1 t2 t3 CB2
  go_upto_region 10 with (fail)
  obtain ⟨w9, hw9⟩ : ∃ w9, w8.alloc (.cells #[.int .i64 n, .int .i64 m, .slice A8 lv'.length c8] 26) = w9 := ⟨_, rfl⟩
  rw [hw9]
  have hb9 : Below w8.heap.size w8 w9 := by rw [← hw9]; exact ext_alloc (Below.refl _ _)
  have hr9 : w9.heap[w8.heap.size]? = some (.cells #[.int .i64 n, .int .i64 m, .slice A8 lv'.length c8] 26 (0, 0)) := by rw [← hw9]; exact heap_alloc_new _ _
  have hs9 : w9.heap.size = w8.heap.size + 1 := by rw [← hw9]; simp
  have hb79 : Below w7.heap.size w7 w9 := ext_trans hb8 hb9
  have hbw9 : Below w.heap.size w w9 := ext_trans hbw7 hb79
  have HT9 := HT8.out.blk (w' := w9) (fun g hg => hb9.block g hg.2)
  have hdf := Lib.hid (HDF.out w9 A6 A8 c6 c8 (HTW.out w9 hb79) (HT9.more (S' := Bl w9.heap.size) (fun g hg => by have : g < w8.heap.size := hg.2; show g < w9.heap.size; omega)) HC6.out HC8.out)
  obtain ⟨r0, r1, r2, _⟩ := blk3 (HRT.out w9 hb79)
  obtain ⟨e0, e1, e2, _⟩ := blk3 hr9
  clear hw9 HT9 HT8 hr9 HDF
  go_wp2_with fail
  refine hdf.out.mono ?_
  rintro e w10 ⟨AD, cD, rfl, t1, t2, t3, hb10⟩
  have hbw10 : Below w.heap.size w w10 := ext_trans hbw9 hb10
  have HD10 := Lib.hid (t3.more (S' := Bl w10.heap.size) (fun g hg => hg.2))
  clear t1 t2 t3 hdf r0 r1 r2 e0 e1 e2 HTW HRT hb6 hb7 hb8 hb9 hb79 hs7 hs9 hb10 hbw5 hbw7 hbw9 HC6 HC8 hlv1 hlv2
  have hmk := makeBools n (by omega)
  go_upto_region 14 with (fail)
  obtain ⟨w11, hw11⟩ : ∃ w11, w10.alloc (.cells ((mkL n []).map Value.bool).toArray 4) = w11 := ⟨_, rfl⟩
  rw [hw11]
  have hR11 : BRow w11 w10.heap.size (mkL n []) := by rw [← hw11]; exact heap_alloc_new _ _
  have hb11 : Below w10.heap.size w10 w11 := by rw [← hw11]; exact ext_alloc (Below.refl _ _)
  clear hw11 hmk
  go_wp2_with fail
  go_loopw [104] (fun kk wr => ∃ k : Nat, k ≤ d.length ∧ kk = .int .i64 (k : Nat) ∧ Below w10.heap.size w10 wr ∧ Hid (BRow wr w10.heap.size (mkL n (d.take k)))) (fun kk _ => d.length - (intOf kk).toNat)
  case atStart => exact ⟨0, by omega, rfl, hb11, by rw [List.take_zero]; exact hR11⟩
  case round =>
    obtain ⟨wo, rfl⟩ : ∃ wo : World, wo = wr := ⟨_, rfl⟩
    obtain ⟨k, hk, rfl, hBo, hrow⟩ := hrel
    by_cases hlt : k < d.length
    · obtain ⟨b, off, rfl, hb, g0, g1, _, _⟩ := (HD10.out.below hBo).ext hlt
      have hdb := HDB.out d[k] (List.getElem_mem hlt)
      have hst : Hid (mkL n (d.take (k + 1)) = addM (mkL n (d.take k)) d[k]) := by rw [Hid, List.take_succ_eq_append_getElem hlt, mkL_snoc (by omega)]
      obtain ⟨x, hx⟩ : ∃ x, d[k] = x := ⟨_, rfl⟩
      rw [hx] at g0 g1 hdb hst
      obtain ⟨x1, x2⟩ := x
      simp only at g0 g1 hdb
      obtain ⟨st, rfl⟩ : ∃ st : Nat, x1 = st := ⟨x1.toNat, by omega⟩
      obtain ⟨ct, rfl⟩ : ∃ ct : Nat, x2 = ct := ⟨x2.toNat, by omega⟩
      have hki : (k : Int) < d.length := by omega
      have hk0 : (0 : Int) ≤ k := by omega
      have hct1 : 1 ≤ ct := by omega
      have hsn : st + ct ≤ n := by omega
      have i1 : ¬ (st : Int) < 0 := by omega
      have i2 : ¬ (ct : Int) < 1 := by omega
      have i3 : ¬ (n : Int) < st := by omega
      have i4 : ¬ (n : Int) - st < ct := by omega
      have hso := hBo.size
      obtain ⟨M, hM⟩ : ∃ M, mkL n (d.take k) = M := ⟨_, rfl⟩
      rw [hM] at hrow hst
      have hMl : M.length = n := by rw [← hM]; exact mkL_len _ _
      clear hx hdb hM
      go_upto_region 17 with (fail)
      obtain ⟨wz, hwz⟩ : ∃ wz, wo.alloc (.cells #[.int .i64 st, .int .i64 ct] 35) = wz := ⟨_, rfl⟩
      rw [hwz]
      have hbz : Below wo.heap.size wo wz := by rw [← hwz]; exact ext_alloc (Below.refl _ _)
      have hrz : wz.heap[wo.heap.size]? = some (.cells #[.int .i64 st, .int .i64 ct] 35 (0, 0)) := by rw [← hwz]; exact heap_alloc_new _ _
      have hBz : Below w10.heap.size w10 wz := hBo.trans (hbz.mono hso)
      have hfb : w10.heap.size < wo.heap.size := hrow.out.lt
      have hrowz : Hid (BRow wz w10.heap.size M) := hrow.out.blk (hbz.block _ hfb)
      obtain ⟨z0, z1, _⟩ := blk2 hrz
      have HRZ := Lib.hid hrz
      clear hwz hrz g0 g1 hrow
      go_wp2_with fail
      clear z0 z1
      go_loopw [135] (fun jj wr => ∃ j : Nat, j ≤ ct ∧ jj = .int .i64 (j : Nat) ∧ Below w10.heap.size w10 wr ∧ Hid (BRow wr w10.heap.size (addTo M st (st + j))) ∧ Hid (wr.heap[wo.heap.size]? = some (.cells #[.int .i64 st, .int .i64 ct] 35 (0, 0)))) (fun jj _ => ct - (intOf jj).toNat)
      case atStart => exact ⟨0, by omega, rfl, hBz, by rw [Nat.add_zero, addTo_lo]; exact hrowz.out, HRZ.out⟩
      case round =>
        obtain ⟨wj, rfl⟩ : ∃ wo : World, wo = wr := ⟨_, rfl⟩
        obtain ⟨j, hj, rfl, hBj, hrj, hzj⟩ := hrel
        by_cases hjc : j < ct
        · obtain ⟨z0, z1, _⟩ := blk2 hzj.out
          have hji : (j : Int) < ct := by omega
          have hf := hrj.out.frozen (st + j)
          have hcl := hrj.out.cell (k := st + j) (by rw [addTo_len]; omega)
          have e1 : ((st : Int) + j).toNat = st + j := by omega
          have e2 : (0 : Int) ≤ (st : Int) + j := by omega
          have e3 : (st : Int) + j < n := by omega
          go_wp2_with fail
          go_roundw
          case rel =>
            refine ⟨j + 1, hjc, by go_num, hBj.setCell (p := ⟨w10.heap.size, st + j, none⟩) (Nat.le_refl w10.heap.size) _, ?_, (heap_setCell_other _ _ _ _ (Nat.ne_of_gt hfb)).trans hzj.out⟩
            rw [← Nat.add_assoc, ← addTo_succ M st (st + j) (by omega)]
            exact hrj.out.set (st + j) true
          case measure => simp [intOf]; omega
        · have hjj : j = ct := by omega
          subst hjj
          go_wp2_with fail
          go_roundw
          case rel =>
            refine ⟨k + 1, hlt, by go_num, hBj, ?_⟩
            rw [hst.out, ← addTo_hi M ((st : Int), (j : Int)) st (st + j) (fun i hi => by show (st ≤ i ∧ i < st + j) ↔ ((st : Int) ≤ (i : Int) ∧ (i : Int) < (st : Int) + (j : Int)); omega)]
            exact hrj.out
          case measure => simp [intOf]; omega
    · have hkk : k = d.length := by omega
      subst hkk
      rw [List.take_length] at hrow
      go_wp2_with fail
      go_loopw [148] (fun kk wr => ∃ s : Nat, s ≤ n ∧ kk = .int .i64 (s : Nat) ∧ Below w10.heap.size w10 wr ∧ Hid (BRow wr w10.heap.size (mkL n d))) (fun kk _ => n - (intOf kk).toNat)
      case atStart => exact ⟨0, by omega, rfl, hBo, hrow⟩
      case round =>
        obtain ⟨wj, rfl⟩ : ∃ wo : World, wo = wr := ⟨_, rfl⟩
        obtain ⟨s, hs, rfl, hBj, hrj⟩ := hrel
        by_cases hsn : s < n
        · have hc0 := hrj.out.cell (k := s) (by rw [mkL_len]; exact hsn)
          have hfs := HF.out s hsn
          have hmk : (mkL n d)[s]'(by rw [mkL_len]; exact hsn) = d.any (inExt (s : Int)) := by simp [mkL]
          rw [hmk, hfs] at hc0
          obtain ⟨q, hq⟩ : ∃ q, s / m = q := ⟨_, rfl⟩
          have hdiv : (s : Int) / (m : Int) = q := by rw [← hq]; simp
          have hqi : (q : Int) ≤ 100 := by have := Nat.div_le_self s m; rw [hq] at this; omega
          have hqs : q * m ≤ s := by rw [← hq]; exact Nat.div_mul_le_self s m
          have hsp := span_slice l m q
          have hsp' := span_slice l' m q
          rw [HNN.out.1] at hsp
          rw [HNN.out.2] at hsp'
          have hlf : leafAt l m q = span l m q := rfl
          have hlf' : leafAt l' m q = span l' m q := rfl
          rw [hq, hlf, hlf', ← hsp, ← hsp'] at hc0
          obtain ⟨a, ha⟩ : ∃ a, q * m = a := ⟨_, rfl⟩
          have hqm : (q : Int) * (m : Int) = a := by rw [← ha]; simp
          rw [ha] at hqs hc0
          have hmin : min n a = a := Nat.min_eq_right (by omega)
          rw [hmin] at hc0
          obtain ⟨z, hz⟩ : ∃ z, min n (a + m) = z := ⟨_, rfl⟩
          rw [hz] at hc0
          have hmin2 : min (n : Int) ((a : Int) + m) = z := by omega
          have hki : (s : Int) < n := by omega
          have hk0 : (0 : Int) ≤ s := by omega
          have hm0 : ((m : Int) == 0) = false := by simp; omega
          have hm0' : ¬ (m : Int) = 0 := by omega
          clear hfs hmk hsp hsp' hlf hlf' hq ha hz
          go_upto_region 28 with (fail)
          go_quiet (fail)
          generalize hW3 : wj.drewN nq = W3
          have hd3 : Drew wj W3 := ⟨nq, hW3.symm⟩
          have hB3 : Below w10.heap.size w10 W3 := hBj.trans ((hd3.below _).mono hBj.size)
          have hc3 := (hd3.cell ⟨w10.heap.size, s, none⟩).trans hc0
          have hrow3 : Hid (BRow W3 w10.heap.size (mkL n d)) := hrj.out.blk ((hd3.below (w10.heap.size + 1)).block _ (Nat.lt_succ_self _))
          obtain ⟨X, hX⟩ : ∃ X, (l.drop a).take (z - a) = X := ⟨_, rfl⟩
          obtain ⟨Y, hY⟩ : ∃ Y, (l'.drop a).take (z - a) = Y := ⟨_, rfl⟩
          rw [hX, hY] at hc3
          obtain ⟨g, hg⟩ : ∃ g, (X == Y) = g := ⟨_, rfl⟩
          have hfg : decide (X ≠ Y) = !g := by rw [← hg]; by_cases e : X = Y <;> simp [e]
          rw [hfg] at hc3
          obtain ⟨P, hP⟩ : ∃ P : Option Addr, (if c = a then some ⟨bl, offl, none⟩ else some ⟨bl, offl + a * 8, none⟩) = P := ⟨_, rfl⟩
          obtain ⟨P', hP'⟩ : ∃ P : Option Addr, (if c2 = a then some ⟨bm, offm, none⟩ else some ⟨bm, offm + a * 8, none⟩) = P := ⟨_, rfl⟩
          have hBd : Below w.heap.size w W3.drew := (ext_trans hbw10 hB3).drew
          have hlX : X.length = z - a := by rw [← hX, List.length_take, List.length_drop, HNN.out.1]; omega
          have hlY : Y.length = z - a := by rw [← hY, List.length_take, List.length_drop, HNN.out.2]; omega
          have HEQ := Lib.hid (eqSecsX P P' (c - a) (c2 - a) (z - a) (z - a) X Y W3.drew hlX hlY (by rw [← hX]; exact sub_slice (H1.out.fwd hBd) (by rw [HNN.out.1]; exact HC.out.1) hP) (by rw [← hY]; exact sub_slice (H2.out.fwd hBd) (by rw [HNN.out.2]; exact HC2.out.1) hP') (by omega) (by omega) g hg)
          have s1 : (z : Int) ≤ c := by have := HC.out; omega
          have s2 : (z : Int) ≤ c2 := by have := HC2.out; omega
          have s3 : (c : Int) ≤ 9223372036854775807 := by have := HC.out; unfold maxLen at this; omega
          have s4 : (c2 : Int) ≤ 9223372036854775807 := by have := HC2.out; unfold maxLen at this; omega
          have s5 : (0 : Int) ≤ a := by omega
          have s6 : (a : Int) ≤ z := by omega
          have hfb3 : w10.heap.size < W3.heap.size := hrow3.out.lt
          clear hW3 hd3 hX hY hg hfg hlX hlY hc0 hdiv hqm hmin hmin2 hm0 hm0' hqi hqs hrj
          go_upto_region 29 with (fail)
          have hk3 : W3.drew.cell? ⟨w10.heap.size, s, none⟩ = some (.bool !g) := hc3
          go_region_held3 (fun W => W.cell? ⟨w10.heap.size, s, none⟩ = some (.bool !g)) (first | exact hk3 | exact (hx5.cell (p := ⟨w10.heap.size, s, none⟩) hfb3).trans hc3) (first | (go_at_call 25; refine HEQ.out.mono ?_; rintro e w5 ⟨rfl, h5⟩; have hx5 : Below W3.heap.size W3 w5 := bUn h5))
          have hb5 := hx5
          have hB5 : Below w10.heap.size w10 w5 := hB3.trans (hb5.mono hB3.size)
          have hrow5 : Hid (BRow w5 w10.heap.size (mkL n d)) := hrow3.out.blk (hb5.block _ hfb3)
          clear h5 hx5 hk3 hc3 HEQ
          cases g
          all_goals
            go_wp2_with fail
            go_roundw
            case rel => exact ⟨s + 1, hsn, by go_num, hB5, hrow5.out⟩
            case measure => simp [intOf]; omega
        · have hss : s = n := by omega
          subst hss
          go_wp2_with fail
          refine (awake_any _).mono ?_
          rintro e wz ⟨rfl, hbz⟩
          go_wp2
          go_ret
          exact ⟨rfl, ext_trans (ext_trans hbw10 hBj) hbz⟩
end Go.Proofs.Ythneomehfmjbkaa
