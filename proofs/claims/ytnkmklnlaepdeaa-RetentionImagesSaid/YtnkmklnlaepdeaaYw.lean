/-
  The laws of Check and Most, of Keep, of Merge: the walks.
-/
import Derived.Test.YtnkmklnlaepdeaaYv
import Derived.Test.YtnkmklnlaepdeaaYt
import Derived.Test.YtnkmklnlaepdeaaY2
set_option linter.unusedVariables false
set_option linter.unusedSimpArgs false
set_option linter.unusedSectionVars false
set_option linter.unnecessarySimpa false
namespace Go.Proofs.Ytnkmklnlaepdeaa
open Go.RowKit Go.Shelf
attribute [local go_sem] Oper.semAt_some

/-- a number among the indices -/
theorem intsN_has38 (r : List Nat) (i : Nat) : (intsN r).contains (i : Int) = decide (i ∈ r) := by
  rw [Bool.eq_iff_iff, List.contains_iff_mem, decide_eq_true_eq]
  unfold intsN
  rw [List.mem_map]
  constructor
  · rintro ⟨j, hj, h⟩
    have : j = i := by omega
    rw [← this]; exact hj
  · exact fun h => ⟨i, h, rfl⟩
set_option maxHeartbeats 4000000 in
set_option maxRecDepth 100000 in
theorem rchecks_any (A : Option Addr) (c n : Nat) (nw : Int) (l : List Rule) (w : World) (hn : l.length = n) (h1 : SlAt encExt w (Bl w.heap.size) A l) (hl : n ≤ 9223372036854775807) :
    Calls Try.prog 3 #[.agg #[.int .i64 nw, .slice A n c]] w (LawRet w) := by
  subst hn
  have H1 := Lib.hid h1; clear h1
  obtain ⟨W0, hW0⟩ : ∃ W0, w.alloc (.cells #[.int .i64 nw, .slice A l.length c] 24) = W0 := ⟨_, rfl⟩
  have hB0 : Below w.heap.size w W0 := by rw [← hW0]; exact ext_alloc (Below.refl _ _)
  have hr0 : W0.heap[w.heap.size]? = some (.cells #[.int .i64 nw, .slice A l.length c] 24 (0, 0)) := by rw [← hW0]; exact heap_alloc_new _ _
  have hs0 : w.heap.size < W0.heap.size := (Array.getElem?_eq_some_iff.1 hr0).1
  have HC : Hid (∀ W, Below W0.heap.size W0 W → W.cell? ⟨w.heap.size, 0, none⟩ = some (.int .i64 nw) ∧ W.cell? ⟨w.heap.size, 1, none⟩ = some (.slice A l.length c)) := fun W hb => by
    obtain ⟨a, b, _⟩ := blk2 ((hb.block _ hs0).trans hr0)
    exact ⟨a, b⟩
  obtain ⟨c0, c1, _⟩ := blk2 hr0
  clear hr0
  go_enter Try.func3, Try.ntmps3
  by_cases h40 : 40 < l.length
  · have h40' : (40 : Int) < l.length := by omega
    go_wp2_with fail
    refine (awake38_any _).mono ?_
    rintro e wz ⟨rfl, hbz⟩
    go_wp2
    go_ret
    exact ⟨rfl, ext_trans hB0 hbz⟩
  have h40' : ¬ (40 : Int) < l.length := by omega
  obtain ⟨pe, hpe⟩ : ∃ q, Hid (polE (nw, l) = q) := ⟨_, Lib.hid rfl⟩
  obtain ⟨mp, hmp⟩ : ∃ q, Hid (mostP (nw, l) = q) := ⟨_, Lib.hid rfl⟩
  have K1 := Lib.hid (fun W (hb : Below W0.heap.size W0 W) => polCheck_any A c l.length nw l pe W rfl hpe.out (H1.out.fwd (ext_trans hB0 hb)) hl)
  have K2 := Lib.hid (fun W (hb : Below W0.heap.size W0 W) => refPolCheck_any A c l.length nw l pe W rfl hpe.out (H1.out.fwd (ext_trans hB0 hb)) hl)
  have K3 := Lib.hid (fun W (hb : Below W0.heap.size W0 W) => polMost_any A c l.length nw l mp W rfl hmp.out (H1.out.fwd (ext_trans hB0 hb)) hl)
  have K4 := Lib.hid (fun W (hb : Below W0.heap.size W0 W) => refPolMost_any A c l.length nw l mp W rfl hmp.out (H1.out.fwd (ext_trans hB0 hb)) hl)
  have hq1 : (pe == pe) = true := by simp
  have hq2 : (mp == mp) = true := by simp
  have hc0 := HC.out W0.drew (Below.refl _ _).drew
  have hx0 : Below W0.heap.size W0 W0.drew := (Below.refl _ _).drew
  go_upto_region 3 with (fail)
  clear c0 c1 hW0
  go_region_held3 (fun W => W.cell? ⟨w.heap.size, 0, none⟩ = some (.int .i64 nw) ∧ W.cell? ⟨w.heap.size, 1, none⟩ = some (.slice A l.length c)) (first | exact hc0 | exact HC.out _ hx5 | exact HC.out _ hx4 | exact HC.out _ hx3 | exact HC.out _ hx2 | exact HC.out _ hx1 | go_keep) (first | (go_at_call 10; refine (awake38_any w4).mono ?_; rintro e w5 ⟨rfl, hb5⟩; have hx5 : Below W0.heap.size W0 w5 := ext_trans hx4 hb5) | (go_at_call 14; refine (K4.out w3 hx3).mono ?_; rintro e w4 ⟨rfl, hb4⟩; have hx4 : Below W0.heap.size W0 w4 := ext_trans hx3 hb4) | (go_at_call 13; refine (K3.out w2 hx2).mono ?_; rintro e w3 ⟨rfl, hb3⟩; have hx3 : Below W0.heap.size W0 w3 := ext_trans hx2 hb3) | (go_at_call 12; refine (K2.out w1 hx1).mono ?_; rintro e w2 ⟨rfl, hb2⟩; have hx2 : Below W0.heap.size W0 w2 := ext_trans hx1 hb2) | (go_at_call 11; refine (K1.out W0.drew hx0).mono ?_; rintro e w1 ⟨rfl, hb1⟩; have hx1 : Below W0.heap.size W0 w1 := ext_trans hx0 hb1))
  go_wp2_with fail
  go_ret
  exact ⟨rfl, ext_trans hB0 hx5⟩
set_option maxHeartbeats 4000000 in
set_option maxRecDepth 100000 in
theorem rkeeps_any (A At : Option Addr) (c ct n m : Nat) (nw now : Int) (l : List Rule) (ts : List Int) (w : World) (hn : l.length = n) (hm : ts.length = m) (h1 : SlAt encExt w (Bl w.heap.size) A l) (h2 : SlAt encInt w (Bl w.heap.size) At ts) (hl : n ≤ 9223372036854775807) (hl2 : m ≤ 9223372036854775807) :
    Calls Try.prog 4 #[.agg #[.int .i64 nw, .slice A n c], .slice At m ct, .int .i64 now] w (LawRet w) := by
  subst hn hm
  have H1 := Lib.hid h1; have H2 := Lib.hid h2; clear h1 h2
  obtain ⟨W0, hW0⟩ : ∃ W0, w.alloc (.cells #[.int .i64 nw, .slice A l.length c] 24) = W0 := ⟨_, rfl⟩
  have hB0 : Below w.heap.size w W0 := by rw [← hW0]; exact ext_alloc (Below.refl _ _)
  have hr0 : W0.heap[w.heap.size]? = some (.cells #[.int .i64 nw, .slice A l.length c] 24 (0, 0)) := by rw [← hW0]; exact heap_alloc_new _ _
  have hs0 : w.heap.size < W0.heap.size := (Array.getElem?_eq_some_iff.1 hr0).1
  have HC : Hid (∀ W, Below W0.heap.size W0 W → W.cell? ⟨w.heap.size, 0, none⟩ = some (.int .i64 nw) ∧ W.cell? ⟨w.heap.size, 1, none⟩ = some (.slice A l.length c)) := fun W hb => by
    obtain ⟨a, b, _⟩ := blk2 ((hb.block _ hs0).trans hr0)
    exact ⟨a, b⟩
  obtain ⟨c0, c1, _⟩ := blk2 hr0
  clear hr0
  go_enter Try.func4, Try.ntmps4
  by_cases h40 : 40 < l.length
  · have h40' : (40 : Int) < l.length := by omega
    go_wp2_with fail
    refine (awake38_any _).mono ?_
    rintro e wz ⟨rfl, hbz⟩
    go_wp2
    go_ret
    exact ⟨rfl, ext_trans hB0 hbz⟩
  have h40' : ¬ (40 : Int) < l.length := by omega
  by_cases h60 : 60 < ts.length
  · have h60' : (60 : Int) < ts.length := by omega
    go_wp2_with fail
    refine (awake38_any _).mono ?_
    rintro e wz ⟨rfl, hbz⟩
    go_wp2
    go_ret
    exact ⟨rfl, ext_trans hB0 hbz⟩
  have h60' : ¬ (60 : Int) < ts.length := by omega
  obtain ⟨r, hr⟩ : ∃ r, Hid (keepL (nw, l) ts now = r) := ⟨_, Lib.hid rfl⟩
  have hrl : (intsN r).length ≤ 60 := by have := keepL_len (nw, l) ts now; rw [hr.out] at this; simp only [intsN, List.length_map]; omega
  have K1 := Lib.hid (fun W (hb : Below W0.heap.size W0 W) => keep_any A At c ct ts.length l.length nw now l ts r W rfl rfl hr.out (H1.out.fwd (ext_trans hB0 hb)) (H2.out.fwd (ext_trans hB0 hb)) hl hl2)
  have K2 := Lib.hid (fun W (hb : Below W0.heap.size W0 W) => refKeep_any A At c ct ts.length l.length nw now l ts r W rfl rfl hr.out (H1.out.fwd (ext_trans hB0 hb)) (H2.out.fwd (ext_trans hB0 hb)) hl hl2)
  have hc0 := HC.out W0.drew (Below.refl _ _).drew
  have hx0 : Below W0.heap.size W0 W0.drew := (Below.refl _ _).drew
  go_upto_region 3 with (fail)
  clear c0 c1 hW0
  go_region_held3 (fun W => W.cell? ⟨w.heap.size, 0, none⟩ = some (.int .i64 nw) ∧ W.cell? ⟨w.heap.size, 1, none⟩ = some (.slice A l.length c)) (first | exact hc0 | exact HC.out _ hx4 | exact HC.out _ hx3 | exact HC.out _ hx2 | exact HC.out _ hx1 | go_keep) (first | (go_at_call 10; refine (awake38_any w3).mono ?_; rintro e w4 ⟨rfl, hb4⟩; have hx4 : Below W0.heap.size W0 w4 := ext_trans hx3 hb4) | (go_at_call 15; refine HEQ.out.mono ?_; rintro e w3 ⟨rfl, hd3⟩; have hx3 : Below W0.heap.size W0 w3 := ext_trans hx2 (hd3.below _)) | (go_at_call 17; refine (K2.out w1 hx1).mono ?_; rintro e w2 ⟨A2, c2, rfl, _, _, hs2, hb2⟩; have hx2 : Below W0.heap.size W0 w2 := ext_trans hx1 hb2; have HEQ := Lib.hid (eqInts_any A1 A2 c1 c2 (intsN r).length (intsN r).length _ _ (intsN r) (intsN r) true w2 rfl rfl (by simp) (hs1.blk (fun g hg => hb2.block g hg.2)) hs2 (by omega) (by omega))) | (go_at_call 16; refine (K1.out W0.drew hx0).mono ?_; rintro e w1 ⟨A1, c1, rfl, _, _, hs1, hb1⟩; have hx1 : Below W0.heap.size W0 w1 := ext_trans hx0 hb1))
  go_wp2_with fail
  go_ret
  exact ⟨rfl, ext_trans hB0 hx4⟩
end Go.Proofs.Ytnkmklnlaepdeaa
