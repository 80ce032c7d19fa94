/-
  The walk of the law HashtreeUpdates.
-/
import Derived.Test.YthneomehfmjbkaaJa
import Derived.Test.YthneomehfmjbkaaJb
set_option linter.unusedVariables false
set_option linter.unusedSimpArgs false
set_option linter.unusedSectionVars false
set_option linter.unnecessarySimpa false
namespace Go.Proofs.Ythneomehfmjbkaa
open Go.RowKit Go.Shelf
attribute [local go_sem] Oper.semAt_some

theorem few_levs {s lf : Int} {l : List (List Int)} (h : fewT (s, lf, l) = true) : l.length ≤ 12 ∧ (l.headD []).length ≤ 100 := by
  simp [fewT] at h
  refine ⟨h.1.1, ?_⟩
  cases l with
  | nil => simp
  | cons x r => exact h.2 x (by simp)
theorem updT_levs {s lf : Int} {l : List (List Int)} (ss : List Sec) (e : Ext) (h : fewT (s, lf, l) = true) (hI : I64 s ∧ I64 lf) : (updT (s, lf, l) ss e).2.2.length ≤ 5000 ∧ I64 (updT (s, lf, l) ss e).1 ∧ I64 (updT (s, lf, l) ss e).2.1 := by
  by_cases hb : updE (s, lf, l) ss e = 0
  · rw [updT_ok hb]
    have h1 := levels_few (updL ss lf.toNat e.1 e.2 (l.headD []))
    rw [updL_len] at h1
    have h2 := (few_levs h).2
    exact ⟨by show (levels (updL ss lf.toNat e.1 e.2 (l.headD []))).length ≤ _; omega, hI.1, hI.2⟩
  · rw [updT_err hb]; exact ⟨by simp [zTree], by show I64 0; unfold I64; omega, by show I64 0; unfold I64; omega⟩
set_option maxHeartbeats 4000000 in
theorem updates_any (s lf : Int) (A A2 : Option Addr) (c c2 : Nat) (l : List (List Int)) (ss : List Sec) (st ct : Int) (w : World) (h1 : SlAt (encSl encU64) w (Bl w.heap.size) A l) (h2 : l.length ≤ c) (h3 : c ≤ maxLen) (hI : I64 s ∧ I64 lf) (k1 : SlAt encSec w (Bl w.heap.size) A2 ss) (k2 : ss.length ≤ c2) (k3 : c2 ≤ maxLen) (hI2 : I64 st ∧ I64 ct) :
    Calls Try.prog 4 #[.agg #[.int .i64 s, .int .i64 lf, .slice A l.length c], .slice A2 ss.length c2, .agg #[.int .i64 st, .int .i64 ct]] w (LawRet w) := by
  have H1 := Lib.hid h1; clear h1
  have H2 := Lib.hid k1; clear k1
  have hl64 := max_len11 h2 h3
  have hs64 := max_len11 k2 k3
  have HC := Lib.hid (And.intro h2 h3)
  have HC2 := Lib.hid (And.intro k2 k3)
  obtain ⟨q, hq⟩ : ∃ q, Hid (fewT (s, lf, l) = q) := ⟨_, rfl⟩
  obtain ⟨w0, hw0⟩ : ∃ w0, (w.alloc (.cells #[.int .i64 s, .int .i64 lf, .slice A l.length c] 26)).alloc (.cells #[.int .i64 st, .int .i64 ct] 35) = w0 := ⟨_, rfl⟩
  have hb0 : Below w.heap.size w w0 := by rw [← hw0]; exact ext_alloc (ext_alloc (Below.refl _ _))
  have hs0 : w0.heap.size = w.heap.size + 2 := by rw [← hw0]; simp
  have hr0 : w0.heap[w.heap.size]? = some (.cells #[.int .i64 s, .int .i64 lf, .slice A l.length c] 26 (0, 0)) := by rw [← hw0]; exact (Below.heap_alloc _ _ _ (by simp)).trans (heap_alloc_new _ _)
  have he0 : w0.heap[w.heap.size + 1]? = some (.cells #[.int .i64 st, .int .i64 ct] 35 (0, 0)) := by rw [← hw0]; exact heap_new2 _ _ _
  obtain ⟨r0, r1, r2, _⟩ := blk3 hr0
  have HFW := Lib.hid (few_any s lf A c l.length l q w0 rfl hq.out (H1.out.fwd hb0) hl64)
  clear h2 h3 k2 k3
  go_enter Try.func4, Try.ntmps4
  go_wp2_with fail
  refine HFW.out.mono ?_
  rintro e w1 ⟨rfl, hb1⟩
  have HRW : Hid (∀ W, Below w1.heap.size w1 W → W.heap[w.heap.size]? = some (.cells #[.int .i64 s, .int .i64 lf, .slice A l.length c] 26 (0, 0)) ∧ W.heap[w.heap.size + 1]? = some (.cells #[.int .i64 st, .int .i64 ct] 35 (0, 0))) := fun W hb => by
    have := hb1.size
    exact ⟨(hb.block _ (by omega)).trans ((hb1.block _ (by omega)).trans hr0), (hb.block _ (by omega)).trans ((hb1.block _ (by omega)).trans he0)⟩
  have hbw1 : Below w.heap.size w w1 := ext_trans hb0 hb1
  clear HFW r0 r1 r2 hr0 he0 hw0
  cases q with
  | false =>
    go_wp2_with fail
    refine (awake_any _).mono ?_
    rintro e wz ⟨rfl, hbz⟩
    go_wp2
    go_ret
    exact ⟨rfl, ext_trans hbw1 hbz⟩
  | true =>
    by_cases hl : ss.length ≤ 100
    case neg =>
      have hl' : (100 : Int) < ss.length := by omega
      go_wp2_with fail
      refine (awake_any _).mono ?_
      rintro e wz ⟨rfl, hbz⟩
      go_wp2
      go_ret
      exact ⟨rfl, ext_trans hbw1 hbz⟩
    have hl' : ¬ (100 : Int) < ss.length := by omega
    have hlv := (few_levs hq.out).1
    have hTL := updT_levs ss (st, ct) hq.out hI
    have HU := Lib.hid (fun W (hb : Below w1.heap.size w1 W) => update_any s lf A A2 c c2 l.length ss.length l ss st ct W rfl rfl (H1.out.fwd (ext_trans hbw1 hb)) (H2.out.fwd (ext_trans hbw1 hb)) (by omega) HC.out HC2.out hI hI2)
    have HU2 := Lib.hid (fun W (hb : Below w1.heap.size w1 W) => refUpdate_any s lf A A2 c c2 l.length ss.length l ss st ct W rfl rfl (H1.out.fwd (ext_trans hbw1 hb)) (H2.out.fwd (ext_trans hbw1 hb)) (by omega) HC.out HC2.out hI hI2)
    obtain ⟨t, ht⟩ : ∃ t, updT (s, lf, l) ss (st, ct) = t := ⟨_, rfl⟩
    obtain ⟨n, hn⟩ : ∃ n, updE (s, lf, l) ss (st, ct) = n := ⟨_, rfl⟩
    rw [ht] at hTL
    rw [ht, hn] at HU HU2
    obtain ⟨s', f', lv⟩ := t
    simp only at hTL
    obtain ⟨htl, _, _⟩ := hTL
    clear hI hI2
    obtain ⟨g1, g2⟩ := HRW.out w1 (Below.refl _ _)
    obtain ⟨r0, r1, r2, _⟩ := blk3 g1
    obtain ⟨e0, e1, _⟩ := blk2 g2
    clear g1 g2
    go_wp2_with fail
    refine (HU.out w1 (Below.refl _ _)).mono ?_
    rintro e w2 ⟨A1, c1, rfl, t1, t2, t3, hb2⟩
    have HT1 := Lib.hid t3
    clear t1 t2 t3 r0 r1 r2 e0 e1
    go_upto_region 4 with (fail)
    obtain ⟨w3, hw3⟩ : ∃ w3, w2.alloc (.cells #[.int .i64 s', .int .i64 f', .slice A1 lv.length c1] 26) = w3 := ⟨_, rfl⟩
    rw [hw3]
    have hb3 : Below w2.heap.size w2 w3 := by rw [← hw3]; exact ext_alloc (Below.refl _ _)
    have hr3 : w3.heap[w2.heap.size]? = some (.cells #[.int .i64 s', .int .i64 f', .slice A1 lv.length c1] 26 (0, 0)) := by rw [← hw3]; exact heap_alloc_new _ _
    have hs3 : w3.heap.size = w2.heap.size + 1 := by rw [← hw3]; simp
    have hb13 : Below w1.heap.size w1 w3 := ext_trans hb2 hb3
    clear hw3
    obtain ⟨g1, g2⟩ := HRW.out w3 hb13
    obtain ⟨r0, r1, r2, _⟩ := blk3 g1
    obtain ⟨e0, e1, _⟩ := blk2 g2
    clear g1 g2
    go_wp2_with fail
    refine (HU2.out w3 hb13).mono ?_
    rintro e w4 ⟨A3, c3, rfl, t1, t2, t3, hb4⟩
    have HT3 := Lib.hid t3
    clear t1 t2 t3 r0 r1 r2 e0 e1 HU HU2
    go_upto_region 5 with (fail)
    obtain ⟨w5, hw5⟩ : ∃ w5, w4.alloc (.cells #[.int .i64 s', .int .i64 f', .slice A3 lv.length c3] 26) = w5 := ⟨_, rfl⟩
    rw [hw5]
    have hb5 : Below w4.heap.size w4 w5 := by rw [← hw5]; exact ext_alloc (Below.refl _ _)
    have hr5 : w5.heap[w4.heap.size]? = some (.cells #[.int .i64 s', .int .i64 f', .slice A3 lv.length c3] 26 (0, 0)) := by rw [← hw5]; exact heap_alloc_new _ _
    have hs5 : w5.heap.size = w4.heap.size + 1 := by rw [← hw5]; simp
    have hs4 := hb4.size
    have hr3' := (hb5.block w2.heap.size (by omega)).trans ((hb4.block w2.heap.size (by omega)).trans hr3)
    obtain ⟨r0, r1, r2, _⟩ := blk3 hr3'
    obtain ⟨e0, e1, e2, _⟩ := blk3 hr5
    have hb25 : Below w2.heap.size w2 w5 := ext_trans (ext_trans hb3 hb4) hb5
    have HSM := Lib.hid (same_any s' f' s' f' A1 A3 c1 c3 lv.length lv.length lv lv true w5 rfl rfl (by simp) ((HT1.out.blk (w' := w5) (fun g hg => hb25.block g hg.2)).more (fun g hg => by have : g < w2.heap.size := hg.2; show g < w5.heap.size; omega)) ((HT3.out.blk (w' := w5) (fun g hg => hb5.block g hg.2)).more (fun g hg => by have : g < w4.heap.size := hg.2; show g < w5.heap.size; omega)) (by omega) (by omega))
    have hbA : Below w.heap.size w w5 := ext_trans hbw1 (ext_trans hb2 hb25)
    clear hw5 hr3 hr5 hr3'
    go_wp2_with fail
    refine HSM.out.mono ?_
    rintro e w6 ⟨rfl, hb6⟩
    clear HSM r0 r1 r2 e0 e1 e2
    go_wp2_with fail
    refine (awake_any _).mono ?_
    rintro e wz ⟨rfl, hbz⟩
    go_wp2
    go_ret
    exact ⟨rfl, ext_trans (ext_trans hbA hb6) hbz⟩
end Go.Proofs.Ythneomehfmjbkaa
