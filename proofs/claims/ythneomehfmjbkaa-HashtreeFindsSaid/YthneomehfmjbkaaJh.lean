/-
  What is built is correct; the walk of the law HashtreeShapes.
-/
import Derived.Test.YthneomehfmjbkaaJa
set_option linter.unusedVariables false
set_option linter.unusedSimpArgs false
set_option linter.unusedSectionVars false
set_option linter.unnecessarySimpa false
namespace Go.Proofs.Ythneomehfmjbkaa
open Go.RowKit Go.Shelf
attribute [local go_sem] Oper.semAt_some

theorem shapeB_levels : ∀ (n : Nat) (v : List Int), v.length ≤ n → 1 ≤ v.length → shapeB v.length (levels v) = true
  | 0, v, h, h1 => by omega
  | n + 1, v, h, h1 => by
    by_cases h2 : v.length ≤ 1
    · rw [levels_one h2]
      have : v.length = 1 := by omega
      simp [shapeB, this]
    · rw [levels_up h2]
      have ih := shapeB_levels n (upL v) (by rw [upL_len]; omega) (by rw [upL_len]; omega)
      have hne := shapeB_ne ih
      cases hl : levels (upL v) with
      | nil => exact absurd hl hne
      | cons x r =>
        rw [hl, upL_len] at ih
        have h3 : (v.length != 1) = true := by simp; omega
        simp only [shapeB, beq_self_eq_true, h3, Bool.true_and]
        exact ih
theorem levels_head (v : List Int) : (levels v).headD [] = v := by
  by_cases h2 : v.length ≤ 1
  · rw [levels_one h2]; rfl
  · rw [levels_up h2]; rfl
theorem digests_len (l : List Sec) (m : Nat) : (digests l m).length = leavesN l.length m := by simp [digests]
/-- the tree over leaves is correct -/
theorem check_levels {n m : Nat} {v : List Int} (hn : 1 ≤ n ∧ n ≤ 4096) (hm : 1 ≤ m ∧ m ≤ 4096) (hv : v.length = leavesN n m) : checkT ((n : Int), (m : Int), levels v) = 0 := by
  have h1 : limN (n : Int) (m : Int) = 0 := by unfold limN; rw [if_neg (by omega), if_neg (by omega)]
  have h2 : shapeB (leavesN ((n : Int)).toNat ((m : Int)).toNat) (levels v) = true := by
    show shapeB (leavesN n m) (levels v) = true
    rw [← hv]
    exact shapeB_levels v.length v (Nat.le_refl _) (by rw [hv]; exact leavesN_pos hn.1 hm.1)
  simp only [checkT]
  rw [if_neg (by simpa using h1), if_neg (by rw [h2]; decide), if_neg (by rw [levels_head]; simp)]
theorem build_ok {l : List Sec} {m : Nat} (hn : 1 ≤ l.length ∧ l.length ≤ 4096) (hm : 1 ≤ m ∧ m ≤ 4096) : buildErr l (m : Int) = 0 ∧ buildT l (m : Int) = ((l.length : Int), (m : Int), levels (digests l m)) ∧ checkT ((l.length : Int), (m : Int), levels (digests l m)) = 0 := by
  have h1 : buildErr l (m : Int) = 0 := by unfold buildErr limN; rw [if_neg (by omega), if_neg (by omega)]
  exact ⟨h1, buildT_ok h1, check_levels hn hm (digests_len l m)⟩
theorem leaf_ge {n m k : Nat} (hm : 1 ≤ m) (h : n ≤ k * m) : leavesN n m ≤ k := by
  unfold leavesN
  refine Nat.le_of_lt_succ ((Nat.div_lt_iff_lt_mul (by omega)).2 ?_)
  rw [Nat.succ_mul]; omega
theorem leaf_cover {n m : Nat} (hm : 1 ≤ m) : n ≤ leavesN n m * m := by
  unfold leavesN
  have h1 := Nat.div_add_mod (n + m - 1) m
  have h2 := Nat.mod_lt (n + m - 1) (show 0 < m by omega)
  rw [Nat.mul_comm] at h1
  omega
set_option maxHeartbeats 8000000 in
set_option maxRecDepth 100000 in
theorem shapes_any (A : Option Addr) (c : Nat) (l : List Sec) (lf : Int) (w : World) (h1 : SlAt encSec w (Bl w.heap.size) A l) (h2 : l.length ≤ c) (h3 : c ≤ maxLen) (hlf : 0 ≤ lf ∧ lf < 256) :
    Calls Try.prog 9 #[.slice A l.length c, .int .u8 lf] w (LawRet w) := by
  have H1 := Lib.hid h1; clear h1
  have hl64 := max_len11 h2 h3
  have HC := Lib.hid (And.intro h2 h3)
  obtain ⟨f, rfl⟩ : ∃ f : Nat, lf = f := ⟨lf.toNat, by omega⟩
  obtain ⟨hf1, hf2⟩ := hlf
  by_cases hl1 : (l.length : Int) < 1
  case pos =>
    go_enter Try.func9, Try.ntmps9
    go_wp2_with fail
    refine (awake_any _).mono ?_
    rintro e wz ⟨rfl, hbz⟩
    go_wp2
    go_ret
    exact ⟨rfl, hbz⟩
  by_cases hl2 : (100 : Int) < l.length
  case pos =>
    go_enter Try.func9, Try.ntmps9
    go_wp2_with fail
    refine (awake_any _).mono ?_
    rintro e wz ⟨rfl, hbz⟩
    go_wp2
    go_ret
    exact ⟨rfl, hbz⟩
  obtain ⟨m, hm⟩ : ∃ m : Nat, f % 20 + 1 = m := ⟨_, rfl⟩
  have hm20 : 1 ≤ m ∧ m ≤ 20 := by omega
  have hmi : (f : Int) % 20 + 1 = m := by omega
  have hbd := build_ok (l := l) (m := m) (by omega) (by omega)
  have HB := Lib.hid (build_any A c l.length l (m : Int) w rfl HC.out H1.out (by omega) (by unfold I64; omega))
  rw [hbd.1, hbd.2.1] at HB
  obtain ⟨lv, hlv⟩ : ∃ lv, levels (digests l m) = lv := ⟨_, rfl⟩
  rw [hlv] at HB hbd
  have hck := Lib.hid hbd.2.2
  clear hbd hm h2 h3
  obtain ⟨n', m', hn', hm', htok⟩ := checkT_TOk hck.out
  have en : n' = l.length := by omega
  have em : m' = m := by omega
  subst en em
  have HT := Lib.hid htok
  have hl13 := htok.len
  have hl0 := htok.ne
  clear htok hn' hm' hlv
  go_enter Try.func9, Try.ntmps9
  go_wp2_with fail
  refine HB.out.mono ?_
  rintro e w1 ⟨A1, c1, rfl, t1, t2, t3, hb1⟩
  simp only at t1 t3
  have HT1 := Lib.hid t3
  have HC1 : Hid (lv.length ≤ c1 ∧ c1 ≤ maxLen) := ⟨t1, t2⟩
  clear t1 t2 t3 HB
  go_upto_region 5 with (fail)
  obtain ⟨w2, hw2⟩ : ∃ w2, w1.alloc (.cells #[.int .i64 l.length, .int .i64 m', .slice A1 lv.length c1] 26) = w2 := ⟨_, rfl⟩
  rw [hw2]
  have hb2 : Below w1.heap.size w1 w2 := by rw [← hw2]; exact ext_alloc (Below.refl _ _)
  have hr2 : w2.heap[w1.heap.size]? = some (.cells #[.int .i64 l.length, .int .i64 m', .slice A1 lv.length c1] 26 (0, 0)) := by rw [← hw2]; exact heap_alloc_new _ _
  have hs2 : w2.heap.size = w1.heap.size + 1 := by rw [← hw2]; simp
  clear hw2
  have HT2 := HT1.out.blk (w' := w2) (fun g hg => hb2.block g hg.2)
  have HT2' : SlAt (encSl encU64) w2 (Bl w2.heap.size) A1 lv := HT2.more (fun g hg => by have : g < w1.heap.size := hg.2; show g < w2.heap.size; omega)
  have HCK := Lib.hid (check_any (l.length : Int) (m' : Int) A1 c1 lv.length lv 0 w2 rfl hck.out HT2' (by omega) HC1.out ⟨by unfold I64; omega, by unfold I64; omega⟩)
  have HTW := Lib.hid (fun W (hb : Below w2.heap.size w2 W) => HT2'.fwd hb)
  have HRW := Lib.hid (fun W (hb : Below w2.heap.size w2 W) => (hb.block w1.heap.size (by omega)).trans hr2)
  obtain ⟨r0, r1, r2, _⟩ := blk3 hr2
  clear hr2 HT2 HT2' HT1
  go_wp2_with fail
  refine HCK.out.mono ?_
  rintro e w3 ⟨rfl, hb3⟩
  clear r0 r1 r2 HCK
  obtain ⟨r0, r1, r2, _⟩ := blk3 (HRW.out w3 hb3)
  have hbw3 : Below w.heap.size w w3 := ext_trans (ext_trans hb1 hb2) hb3
  have hlz : ((lv.length : Int) == 0) = false := by simp; intro h; rw [h] at hl0; simp at hl0
  obtain ⟨N, hN⟩ : ∃ N, leavesN l.length m' = N := ⟨_, rfl⟩
  have HNL : Hid (N ≤ l.length) := by rw [← hN]; exact leavesN_le (by omega)
  have HLT : Hid (∀ i, i < N → i * m' < l.length) := fun i h => leaf_lt (by omega) (by rw [hN]; exact h)
  have HGE : Hid (∀ k, l.length ≤ k * m' → N ≤ k) := fun k h => by rw [← hN]; exact leaf_ge (by omega) h
  have HCV : Hid (l.length ≤ N * m') := by rw [← hN]; exact leaf_cover (by omega)
  have HAT := Lib.hid HT.out.at_
  rw [hN] at HAT
  clear hN
  go_wp2_with fail
  go_loopw [8] (fun u wr => ∃ k : Nat, k ≤ N ∧ u = .int .i64 (k : Nat) ∧ wr = w3) (fun u _ => N - (intOf u).toNat)
  case atStart => exact ⟨0, by omega, rfl, rfl⟩
  case round =>
    obtain ⟨k, hk, rfl, rfl⟩ := hrel
    have hk100 : k ≤ 100 := by have := HNL.out; omega
    obtain ⟨q, hq⟩ : ∃ q, k * m' = q := ⟨_, rfl⟩
    have hq2 : (k : Int) * (m' : Int) = q := by rw [← hq]; simp
    have hq3 : q ≤ 2000 := by rw [← hq]; exact Nat.mul_le_mul hk100 hm20.2
    by_cases hlt : (q : Int) < l.length
    · have hkN : k < N := by
        rcases Nat.lt_or_ge k N with h | h
        · exact h
        · have hkk : k = N := by omega
          have hg := HCV.out
          rw [← hkk, hq] at hg
          omega
      go_wp2_with fail
      go_roundw
      case rel => exact ⟨k + 1, by omega, by go_num, by trivial⟩
      case measure => simp [intOf]; omega
    · have hkN : k = N := by
        have := HGE.out k (by rw [hq]; omega)
        omega
      subst hkN
      have hno : ¬ ((q : Int) < l.length) := hlt
      have hN1 : 1 ≤ k := by have := HAT.out 0 hl0; simpa [nk] using this.2.2.1
      go_wp2_with fail
      go_loopw [8, 68] (fun u kk W => ∃ j : Nat, j ≤ lv.length ∧ kk = .int .i64 (j : Nat) ∧ u = .int .i64 (nk k j : Nat) ∧ W = wr) (fun _ kk _ => lv.length - (intOf kk).toNat)
      case atStart => exact ⟨0, by omega, rfl, rfl, rfl⟩
      case round =>
        obtain ⟨j, hj, rfl, rfl, rfl⟩ := hrel
        by_cases hjl : j < lv.length
        · have hji : (j : Int) < lv.length := by omega
          have hj0 : (0 : Int) ≤ j := by omega
          obtain ⟨b, off, D, dc, he, hb, g0, hD, hd1, hd2⟩ := (HTW.out wr hb3).sl hjl
          have hat := HAT.out j hjl
          obtain ⟨nj, hnj⟩ : ∃ nj, nk k j = nj := ⟨_, rfl⟩
          have hnx : Hid (nk k (j + 1) = nj / 2 + nj % 2) := by rw [Hid, nk_succ, hnj]; omega
          rw [hnj] at hat ⊢
          rw [hat.1] at g0
          have hnj4 : nj ≤ 4096 := hat.2.2.2
          subst he
          clear hat hD hd1 hd2 hnj
          go_wp2_with fail
          go_roundw
          case rel => exact ⟨j + 1, hjl, by go_num, by rw [hnx.out]; go_num, by trivial⟩
          case measure => simp [intOf]; omega
        · have hjj : j = lv.length := by omega
          subst hjj
          have hjno : ¬ ((lv.length : Int) < lv.length) := by omega
          have hk1 : lv.length - 1 < lv.length := by omega
          obtain ⟨b, off, D, dc, rfl, hb, g0, hD, hd1, hd2⟩ := (HTW.out wr hb3).sl hk1
          have hat := HAT.out (lv.length - 1) hk1
          have hlast := hat.1.trans (hat.2.1.2 (by omega))
          obtain ⟨y, hy⟩ : ∃ y, Hid (y = lv[lv.length - 1]'hk1) := ⟨_, rfl⟩
          have hrt := Lib.hid (rootT_ok hck.out hl0 (by rw [hlast]; decide))
          have hyl : y.length = 1 := by rw [hy.out]; exact hlast
          have hrt2 : Hid (rootT ((l.length : Int), (m' : Int), lv) = y[0]'(by omega)) := by
            rw [Hid, hrt.out]
            have := hy.out
            subst this
            rfl
          rw [hlast] at g0
          rw [← hy.out] at hD
          obtain ⟨b2, off2, rfl, hb2', k0, ku⟩ := hD.u64 (k := 0) (by omega)
          simp only [Nat.add_zero] at k0
          obtain ⟨x, hx⟩ : ∃ x, Hid (x = y[0]'(by omega)) := ⟨_, Lib.hid rfl⟩
          rw [← hx.out] at k0 hrt2
          have hkl : (lv.length : Int) - 1 < lv.length := by omega
          have hkn : (0 : Int) ≤ (lv.length : Int) - 1 := by omega
          have hone : Hid (((lv.length : Int) == 1) = decide ((l.length : Int) ≤ m')) := by
            have h0 := HAT.out 0 hl0
            have hcov := HCV.out
            have hge := HGE.out 1
            have e1 : (k = 1) ↔ lv.length = 1 := by
              have := h0.2.1
              simp only [nk] at this
              omega
            have e2 : k = 1 ↔ l.length ≤ m' := by
              constructor
              · intro h; rw [h] at hcov; omega
              · intro h; have := hge (by omega); omega
            have e3 : ((lv.length : Int) = 1) ↔ ((l.length : Int) ≤ m') := by omega
            rw [Hid]
            by_cases h : (l.length : Int) ≤ m'
            · rw [decide_eq_true h]; simp; omega
            · rw [decide_eq_false h]; simp; intro h5; exact h (e3.1 h5)
          have KR := Lib.hid (fun W (hb : Below w2.heap.size w2 W) => root_any (l.length : Int) (m' : Int) (some ⟨b, off, none⟩) c1 lv.length lv x W rfl hrt2.out (HTW.out W hb) (by omega) HC1.out ⟨by unfold I64; omega, by unfold I64; omega⟩)
          have hbq : b < wr.heap.size := hb
          have hb2q : b2 < wr.heap.size := hb2'
          have hTq : w1.heap.size < wr.heap.size := by have := hb3.size; omega
          clear hat hlast hrt hd1 hd2 hD hx ku hyl
          by_cases hle : (l.length : Int) ≤ m'
          · have hA : ((lv.length : Int) == 1) = true := by rw [hone.out, decide_eq_true hle]
            go_upto_region 18 with (fail)
            have HCC : Hid (∀ w', Below wr.heap.size wr w' → w'.cell? ⟨w1.heap.size, 0, none⟩ = some (.int .i64 l.length) ∧ w'.cell? ⟨w1.heap.size, 1, none⟩ = some (.int .i64 m') ∧ w'.cell? ⟨w1.heap.size, 2, none⟩ = some (.slice (some ⟨b, off, none⟩) lv.length c1) ∧ w'.cell? ⟨b2, off2, none⟩ = some (.int .u64 x)) := fun w' hb => by
              obtain ⟨a, b, c, _⟩ := blk3 (HRW.out w' (ext_trans hb3 hb))
              exact ⟨a, b, c, (hb.cell (p := ⟨b2, off2, none⟩) hb2q).trans k0⟩
            have hc0 := HCC.out wr.drew (Below.refl _ _).drew
            go_region_held3 (fun w' => w'.cell? ⟨w1.heap.size, 0, none⟩ = some (.int .i64 l.length) ∧ w'.cell? ⟨w1.heap.size, 1, none⟩ = some (.int .i64 m') ∧ w'.cell? ⟨w1.heap.size, 2, none⟩ = some (.slice (some ⟨b, off, none⟩) lv.length c1) ∧ w'.cell? ⟨b2, off2, none⟩ = some (.int .u64 x)) (first | exact hc0 | exact HCC.out _ hx5 | exact HCC.out _ hx4 | go_keep) (first | (go_at_call 27; refine (KR.out wr.drew hb3.drew).mono ?_; rintro e w4 ⟨rfl, h4⟩; have hx4 : Below wr.heap.size wr w4 := bUn h4) | (go_at_call 12; refine (awake_any w4).mono ?_; rintro e w5 ⟨rfl, h5⟩; have hx5 : Below wr.heap.size wr w5 := ext_trans hx4 h5))
            go_wp2_with fail
            go_ret
            refine ⟨?_, ext_trans hbw3 hx5⟩
            first | rfl | (simp; omega)
          · have hA : ((lv.length : Int) == 1) = false := by rw [hone.out, decide_eq_false hle]
            go_upto_region 18 with (fail)
            have HCC : Hid (∀ w', Below wr.heap.size wr w' → w'.cell? ⟨w1.heap.size, 0, none⟩ = some (.int .i64 l.length) ∧ w'.cell? ⟨w1.heap.size, 1, none⟩ = some (.int .i64 m') ∧ w'.cell? ⟨w1.heap.size, 2, none⟩ = some (.slice (some ⟨b, off, none⟩) lv.length c1) ∧ w'.cell? ⟨b2, off2, none⟩ = some (.int .u64 x)) := fun w' hb => by
              obtain ⟨a, b, c, _⟩ := blk3 (HRW.out w' (ext_trans hb3 hb))
              exact ⟨a, b, c, (hb.cell (p := ⟨b2, off2, none⟩) hb2q).trans k0⟩
            have hc0 := HCC.out wr.drew (Below.refl _ _).drew
            go_region_held3 (fun w' => w'.cell? ⟨w1.heap.size, 0, none⟩ = some (.int .i64 l.length) ∧ w'.cell? ⟨w1.heap.size, 1, none⟩ = some (.int .i64 m') ∧ w'.cell? ⟨w1.heap.size, 2, none⟩ = some (.slice (some ⟨b, off, none⟩) lv.length c1) ∧ w'.cell? ⟨b2, off2, none⟩ = some (.int .u64 x)) (first | exact hc0 | exact HCC.out _ hx5 | exact HCC.out _ hx4 | go_keep) (first | (go_at_call 27; refine (KR.out wr.drew hb3.drew).mono ?_; rintro e w4 ⟨rfl, h4⟩; have hx4 : Below wr.heap.size wr w4 := bUn h4) | (go_at_call 12; refine (awake_any w4).mono ?_; rintro e w5 ⟨rfl, h5⟩; have hx5 : Below wr.heap.size wr w5 := ext_trans hx4 h5))
            go_wp2_with fail
            go_ret
            refine ⟨?_, ext_trans hbw3 hx5⟩
            first | rfl | (simp; omega)
end Go.Proofs.Ythneomehfmjbkaa
