/-
  The walk of the law HashtreeDiffers.
-/
import Derived.Test.YthneomehfmjbkaaJc
import Derived.Test.YthneomehfmjbkaaJq
set_option linter.unusedVariables false
set_option linter.unusedSimpArgs false
set_option linter.unusedSectionVars false
set_option linter.unnecessarySimpa false
namespace Go.Proofs.Ythneomehfmjbkaa
open Go.RowKit Go.Shelf
attribute [local go_sem] Oper.semAt_some

theorem difT_len (a b : Tr) : (difT a b).length ≤ 4096 := by
  unfold difT
  split
  · exact (opL_bound _ _ _).2
  · simp
set_option maxHeartbeats 4000000 in
theorem differs_any (s lf s' lf' : Int) (A A' : Option Addr) (c c' : Nat) (l l' : List (List Int)) (w : World) (h1 : SlAt (encSl encU64) w (Bl w.heap.size) A l) (h2 : l.length ≤ c) (h3 : c ≤ maxLen) (hI : I64 s ∧ I64 lf) (k1 : SlAt (encSl encU64) w (Bl w.heap.size) A' l') (k2 : l'.length ≤ c') (k3 : c' ≤ maxLen) (hI' : I64 s' ∧ I64 lf') :
    Calls Try.prog 5 #[.agg #[.int .i64 s, .int .i64 lf, .slice A l.length c], .agg #[.int .i64 s', .int .i64 lf', .slice A' l'.length c']] w (LawRet w) := by
  have H1 := Lib.hid h1; clear h1
  have H2 := Lib.hid k1; clear k1
  have hl64 := max_len11 h2 h3
  have hl64' := max_len11 k2 k3
  have HC := Lib.hid (And.intro h2 h3)
  have HC' := Lib.hid (And.intro k2 k3)
  obtain ⟨q, hq⟩ : ∃ q, Hid (fewT (s, lf, l) = q) := ⟨_, rfl⟩
  obtain ⟨q', hq'⟩ : ∃ q, Hid (fewT (s', lf', l') = q) := ⟨_, rfl⟩
  obtain ⟨w0, hw0⟩ : ∃ w0, (w.alloc (.cells #[.int .i64 s, .int .i64 lf, .slice A l.length c] 26)).alloc (.cells #[.int .i64 s', .int .i64 lf', .slice A' l'.length c'] 26) = w0 := ⟨_, rfl⟩
  have hb0 : Below w.heap.size w w0 := by rw [← hw0]; exact ext_alloc (ext_alloc (Below.refl _ _))
  have hs0 : Hid (w0.heap.size = w.heap.size + 2) := by rw [← hw0]; simp [Hid]
  have hr0 : w0.heap[w.heap.size]? = some (.cells #[.int .i64 s, .int .i64 lf, .slice A l.length c] 26 (0, 0)) := by rw [← hw0]; exact (Below.heap_alloc _ _ _ (by simp)).trans (heap_alloc_new _ _)
  have he0 : w0.heap[w.heap.size + 1]? = some (.cells #[.int .i64 s', .int .i64 lf', .slice A' l'.length c'] 26 (0, 0)) := by rw [← hw0]; exact heap_new2 _ _ _
  have HRW : Hid (∀ W, Below w0.heap.size w0 W → W.cell? ⟨w.heap.size, 0, none⟩ = some (.int .i64 s) ∧ W.cell? ⟨w.heap.size, 1, none⟩ = some (.int .i64 lf) ∧ W.cell? ⟨w.heap.size, 2, none⟩ = some (.slice A l.length c) ∧ W.cell? ⟨w.heap.size + 1, 0, none⟩ = some (.int .i64 s') ∧ W.cell? ⟨w.heap.size + 1, 1, none⟩ = some (.int .i64 lf') ∧ W.cell? ⟨w.heap.size + 1, 2, none⟩ = some (.slice A' l'.length c')) := fun W hb => by
    have := hs0.out
    obtain ⟨a0, a1, a2, _⟩ := blk3 ((hb.block _ (by omega)).trans hr0)
    obtain ⟨b0, b1, b2, _⟩ := blk3 ((hb.block _ (by omega)).trans he0)
    exact ⟨a0, a1, a2, b0, b1, b2⟩
  have HFW := Lib.hid (fun W (hb : Below w.heap.size w W) => few_any s lf A c l.length l q W rfl hq.out (H1.out.fwd hb) hl64)
  have HFW' := Lib.hid (fun W (hb : Below w.heap.size w W) => few_any s' lf' A' c' l'.length l' q' W rfl hq'.out (H2.out.fwd hb) hl64')
  obtain ⟨r0, r1, r2, e0, e1, e2⟩ := HRW.out w0 (Below.refl _ _)
  clear h2 h3 k2 k3 hr0 he0
  go_enter Try.func5, Try.ntmps5
  go_wp2_with fail
  refine (HFW.out w0 hb0).mono ?_
  rintro e w1 ⟨rfl, hb1⟩
  have hbw1 : Below w.heap.size w w1 := ext_trans hb0 hb1
  clear r0 r1 r2 e0 e1 e2 HFW hw0
  cases q with
  | false =>
    go_wp2_with fail
    refine (awake_any _).mono ?_
    rintro e wz ⟨rfl, hbz⟩
    go_wp2
    go_ret
    exact ⟨rfl, ext_trans hbw1 hbz⟩
  | true =>
    obtain ⟨r0, r1, r2, e0, e1, e2⟩ := HRW.out w1 hb1
    go_wp2_with fail
    refine (HFW'.out w1 hbw1).mono ?_
    rintro e w2 ⟨rfl, hb2⟩
    have hbw2 : Below w.heap.size w w2 := ext_trans hbw1 hb2
    have hb02 : Below w0.heap.size w0 w2 := ext_trans hb1 hb2
    clear r0 r1 r2 e0 e1 e2 HFW' hbw1 hb1 hb2
    cases q' with
    | false =>
      go_wp2_with fail
      refine (awake_any _).mono ?_
      rintro e wz ⟨rfl, hbz⟩
      go_wp2
      go_ret
      exact ⟨rfl, ext_trans hbw2 hbz⟩
    | true =>
      have hlv := (few_levs hq.out).1
      have hlv' := (few_levs hq'.out).1
      have hdl := difT_len (s, lf, l) (s', lf', l')
      have HU := Lib.hid (fun W (hb : Below w.heap.size w W) => differ_any s lf s' lf' A A' c c' l.length l'.length l l' W rfl rfl (H1.out.fwd hb) (H2.out.fwd hb) (by omega) (by omega) HC.out HC'.out hI hI')
      have HU2 := Lib.hid (fun W (hb : Below w.heap.size w W) => refDiffer_any s lf s' lf' A A' c c' l.length l'.length l l' W rfl rfl (H1.out.fwd hb) (H2.out.fwd hb) (by omega) (by omega) HC.out HC'.out hI hI')
      obtain ⟨t, ht⟩ : ∃ t, difT (s, lf, l) (s', lf', l') = t := ⟨_, rfl⟩
      obtain ⟨n, hn⟩ : ∃ n, difErr (s, lf, l) (s', lf', l') = n := ⟨_, rfl⟩
      rw [ht] at hdl
      rw [ht, hn] at HU HU2
      clear hI hI' ht hn
      obtain ⟨r0, r1, r2, e0, e1, e2⟩ := HRW.out w2 hb02
      go_wp2_with fail
      refine (HU.out w2 hbw2).mono ?_
      rintro e w3 ⟨A1, c1, rfl, t1, t2, t3, hb3⟩
      have HT1 := Lib.hid t3
      have hbw3 : Below w.heap.size w w3 := ext_trans hbw2 hb3
      have hb03 : Below w0.heap.size w0 w3 := ext_trans hb02 hb3
      clear t1 t2 t3 r0 r1 r2 e0 e1 e2
      obtain ⟨r0, r1, r2, e0, e1, e2⟩ := HRW.out w3 hb03
      go_wp2_with fail
      refine (HU2.out w3 hbw3).mono ?_
      rintro e w4 ⟨A2, c2, rfl, t1, t2, t3, hb4⟩
      have HT2 := Lib.hid t3
      have hbw4 : Below w.heap.size w w4 := ext_trans hbw3 hb4
      have hb04 : Below w0.heap.size w0 w4 := ext_trans hb03 hb4
      clear t1 t2 t3 r0 r1 r2 e0 e1 e2 HU HU2
      have HEQ := Lib.hid (eqExts_any A1 A2 c1 c2 t.length t.length _ _ t t true w4 rfl rfl (by simp) (HT1.out.blk (w' := w4) (fun g hg => hb4.block g hg.2)) HT2.out (by omega) (by omega))
      clear HT1 HT2 hb3 hb4
      go_wp2_with fail
      refine HEQ.out.mono ?_
      rintro e w5 ⟨rfl, hd5⟩
      have hbw5 : Below w.heap.size w w5 := ext_trans hbw4 (hd5.below _)
      go_wp2_with fail
      refine (awake_any _).mono ?_
      rintro e wz ⟨rfl, hbz⟩
      go_wp2
      go_ret
      exact ⟨rfl, ext_trans hbw5 hbz⟩
end Go.Proofs.Ythneomehfmjbkaa
