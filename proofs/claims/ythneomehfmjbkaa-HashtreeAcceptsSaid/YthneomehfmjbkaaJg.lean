/-
  The walk of the law HashtreeProves.
-/
import Derived.Test.YthneomehfmjbkaaJc
import Derived.Test.YthneomehfmjbkaaJf
set_option linter.unusedVariables false
set_option linter.unusedSimpArgs false
set_option linter.unusedSectionVars false
set_option linter.unnecessarySimpa false
namespace Go.Proofs.Ythneomehfmjbkaa
open Go.RowKit Go.Shelf
attribute [local go_sem] Oper.semAt_some

theorem proofL_len : ∀ (l : List (List Int)) (i : Nat), (proofL i l).length ≤ l.length
  | [], i => by simp [proofL]
  | x :: r, i => by
    have := proofL_len r (i / 2)
    have h2 : ((x[oth i]?).toList).length ≤ 1 := by cases x[oth i]? <;> simp
    simp only [proofL, List.length_append, List.length_cons]; omega
theorem proofT_len (t : Tr) (i : Int) : (proofT t i).length ≤ t.2.2.length := by
  unfold proofT
  split
  · exact proofL_len _ _
  · simp
set_option maxHeartbeats 4000000 in
theorem proves_any (s lf ix : Int) (A : Option Addr) (c : Nat) (l : List (List Int)) (root s2 lf2 ix2 : Int) (A2 A3 : Option Addr) (c2 c3 : Nat) (data : List Sec) (pf : List Int) (w : World) (h1 : SlAt (encSl encU64) w (Bl w.heap.size) A l) (h2 : l.length ≤ c) (h3 : c ≤ maxLen) (hI : I64 s ∧ I64 lf) (hix : I64 ix) (k1 : SlAt encSec w (Bl w.heap.size) A2 data) (k2 : data.length ≤ c2) (k3 : c2 ≤ maxLen) (m1 : SlAt encU64 w (Bl w.heap.size) A3 pf) (m2 : pf.length ≤ c3) (m3 : c3 ≤ maxLen) (hI2 : I64 s2 ∧ I64 lf2 ∧ I64 ix2) :
    Calls Try.prog 10 #[.agg #[.int .i64 s, .int .i64 lf, .slice A l.length c], .int .i64 ix, .agg #[.int .u64 root, .int .i64 s2, .int .i64 lf2, .int .i64 ix2, .slice A2 data.length c2, .slice A3 pf.length c3]] w (LawRet w) := by
  have H1 := Lib.hid h1; clear h1
  have H2 := Lib.hid k1; clear k1
  have H3 := Lib.hid m1; clear m1
  have hl64 := max_len11 h2 h3
  have hs64 := max_len11 k2 k3
  have hp64 := max_len11 m2 m3
  have HC := Lib.hid (And.intro h2 h3)
  have HC3 := Lib.hid (And.intro m2 m3)
  obtain ⟨q, hq⟩ : ∃ q, Hid (fewT (s, lf, l) = q) := ⟨_, rfl⟩
  obtain ⟨w0, hw0⟩ : ∃ w0, (w.alloc (.cells #[.int .i64 s, .int .i64 lf, .slice A l.length c] 26)).alloc (.cells #[.int .u64 root, .int .i64 s2, .int .i64 lf2, .int .i64 ix2, .slice A2 data.length c2, .slice A3 pf.length c3] 63) = w0 := ⟨_, rfl⟩
  have hb0 : Below w.heap.size w w0 := by rw [← hw0]; exact ext_alloc (ext_alloc (Below.refl _ _))
  have hs0 : w0.heap.size = w.heap.size + 2 := by rw [← hw0]; simp
  have hr0 : w0.heap[w.heap.size]? = some (.cells #[.int .i64 s, .int .i64 lf, .slice A l.length c] 26 (0, 0)) := by rw [← hw0]; exact (Below.heap_alloc _ _ _ (by simp)).trans (heap_alloc_new _ _)
  have he0 : w0.heap[w.heap.size + 1]? = some (.cells #[.int .u64 root, .int .i64 s2, .int .i64 lf2, .int .i64 ix2, .slice A2 data.length c2, .slice A3 pf.length c3] 63 (0, 0)) := by rw [← hw0]; exact heap_new2 _ _ _
  obtain ⟨r0, r1, r2, _⟩ := blk3 hr0
  have HFW := Lib.hid (few_any s lf A c l.length l q w0 rfl hq.out (H1.out.fwd hb0) hl64)
  clear h2 h3 k2 k3 m2 m3
  go_enter Try.func10, Try.ntmps10
  go_wp2_with fail
  refine HFW.out.mono ?_
  rintro e w1 ⟨rfl, hb1⟩
  have HRW : Hid (∀ W, Below w1.heap.size w1 W → W.heap[w.heap.size]? = some (.cells #[.int .i64 s, .int .i64 lf, .slice A l.length c] 26 (0, 0)) ∧ W.heap[w.heap.size + 1]? = some (.cells #[.int .u64 root, .int .i64 s2, .int .i64 lf2, .int .i64 ix2, .slice A2 data.length c2, .slice A3 pf.length c3] 63 (0, 0))) := fun W hb => by
    have := hb1.size
    exact ⟨(hb.block _ (by omega)).trans ((hb1.block _ (by omega)).trans hr0), (hb.block _ (by omega)).trans ((hb1.block _ (by omega)).trans he0)⟩
  have hbw1 : Below w.heap.size w w1 := ext_trans hb0 hb1
  clear HFW r0 r1 r2 hr0 he0 hw0
  obtain ⟨g1, g2⟩ := HRW.out w1 (Below.refl _ _)
  obtain ⟨r0, r1, r2, _⟩ := blk3 g1
  obtain ⟨e0, e1, e2, e3, e4, e5⟩ := blk6 g2
  clear g1 g2
  cases q with
  | false =>
    go_wp2_with fail
    refine (awake_any _).mono ?_
    rintro e wz ⟨rfl, hbz⟩
    go_wp2
    go_ret
    exact ⟨rfl, ext_trans hbw1 hbz⟩
  | true =>
    by_cases hl : data.length ≤ 100
    case neg =>
      have hl' : (100 : Int) < data.length := by omega
      go_wp2_with fail
      refine (awake_any _).mono ?_
      rintro e wz ⟨rfl, hbz⟩
      go_wp2
      go_ret
      exact ⟨rfl, ext_trans hbw1 hbz⟩
    have hl' : ¬ (100 : Int) < data.length := by omega
    by_cases hp : pf.length ≤ 20
    case neg =>
      have hp' : (20 : Int) < pf.length := by omega
      go_wp2_with fail
      refine (awake_any _).mono ?_
      rintro e wz ⟨rfl, hbz⟩
      go_wp2
      go_ret
      exact ⟨rfl, ext_trans hbw1 hbz⟩
    have hp' : ¬ (20 : Int) < pf.length := by omega
    have hlv := (few_levs hq.out).1
    have K1 := Lib.hid (fun W (hb : Below w1.heap.size w1 W) => proof_any s lf ix A c l.length l W rfl (H1.out.fwd (ext_trans hbw1 hb)) (by omega) HC.out hI hix)
    have K2 := Lib.hid (fun W (hb : Below w1.heap.size w1 W) => refProof_any s lf ix A c l.length l W rfl (H1.out.fwd (ext_trans hbw1 hb)) (by omega) HC.out hI hix)
    obtain ⟨y, hy⟩ : ∃ y, Hid (verT root s2 lf2 ix2 data pf = y) := ⟨_, rfl⟩
    have K3 := Lib.hid (fun W (hb : Below w1.heap.size w1 W) => verify_any root s2 lf2 ix2 A2 A3 c2 c3 data.length pf.length data pf y W rfl rfl hy.out (H2.out.fwd (ext_trans hbw1 hb)) (H3.out.fwd (ext_trans hbw1 hb)) (by omega) (by omega) HC3.out hI2)
    have K4 := Lib.hid (fun W (hb : Below w1.heap.size w1 W) => refVerify_any root s2 lf2 ix2 A2 A3 c2 c3 data.length pf.length data pf y W rfl rfl hy.out (H2.out.fwd (ext_trans hbw1 hb)) (H3.out.fwd (ext_trans hbw1 hb)) (by omega) (by omega) HC3.out hI2)
    have hpl := proofT_len (s, lf, l) ix
    obtain ⟨o, ho⟩ : ∃ o, proofT (s, lf, l) ix = o := ⟨_, rfl⟩
    obtain ⟨n, hn⟩ : ∃ n, proofE (s, lf, l) ix = n := ⟨_, rfl⟩
    rw [ho] at hpl
    rw [ho, hn] at K1 K2
    simp only at hpl
    clear hI hI2 hix
    go_wp2_with fail
    refine (K1.out w1 (Below.refl _ _)).mono ?_
    rintro e w2 ⟨B1, d1, rfl, t1, t2, t3, hb2⟩
    have HT1 := Lib.hid t3
    clear t1 t2 t3 r0 r1 r2 e0 e1 e2 e3 e4 e5
    obtain ⟨g1, g2⟩ := HRW.out w2 hb2
    obtain ⟨r0, r1, r2, _⟩ := blk3 g1
    clear g1 g2
    go_wp2_with fail
    refine (K2.out w2 hb2).mono ?_
    rintro e w3 ⟨B2, d2, rfl, t1, t2, t3, hb3⟩
    have HT2 := Lib.hid t3
    have hb13 : Below w1.heap.size w1 w3 := ext_trans hb2 hb3
    clear t1 t2 t3 r0 r1 r2
    obtain ⟨g1, g2⟩ := HRW.out w3 hb13
    obtain ⟨e0, e1, e2, e3, e4, e5⟩ := blk6 g2
    clear g1 g2
    go_wp2_with fail
    refine (K3.out w3 hb13).mono ?_
    rintro e w4 ⟨rfl, hb4⟩
    clear e0 e1 e2 e3 e4 e5
    have hb14 : Below w1.heap.size w1 w4 := ext_trans hb13 hb4
    have hb24 : Below w2.heap.size w2 w4 := ext_trans hb3 hb4
    go_wp2_with fail
    refine (eqU64_any B1 B2 d1 d2 o.length o.length _ _ o o true w4 rfl rfl (by simp) (HT1.out.blk (w' := w4) (fun g hg => hb24.block g hg.2)) (HT2.out.blk (w' := w4) (fun g hg => hb4.block g hg.2)) (by omega) (by omega)).mono ?_
    rintro e w5 ⟨rfl, hd5⟩
    have hb15 : Below w1.heap.size w1 w5 := hb14.trans (hd5.below _)
    obtain ⟨g1, g2⟩ := HRW.out w5 hb15
    obtain ⟨e0, e1, e2, e3, e4, e5⟩ := blk6 g2
    clear g1 g2
    go_wp2_with fail
    refine (K4.out w5 hb15).mono ?_
    rintro e w6 ⟨rfl, hb6⟩
    clear e0 e1 e2 e3 e4 e5
    have hb16 : Below w1.heap.size w1 w6 := ext_trans hb15 hb6
    go_wp2_with fail
    refine (awake_any _).mono ?_
    rintro e wz ⟨rfl, hbz⟩
    go_wp2
    go_ret
    exact ⟨rfl, ext_trans (ext_trans hbw1 hb16) hbz⟩
end Go.Proofs.Ythneomehfmjbkaa
