/-
  The walks of the laws HashtreeBuilds and HashtreeChecks.
-/
import Derived.Test.YthneomehfmjbkaaHz
import Derived.Test.YthneomehfmjbkaaOpen
set_option linter.unusedVariables false
set_option linter.unusedSimpArgs false
set_option linter.unusedSectionVars false
set_option linter.unnecessarySimpa false
namespace Go.Proofs.Ythneomehfmjbkaa
open Go.RowKit Go.Shelf
attribute [local go_sem] Oper.semAt_some

theorem max_len11 {n c : Nat} (h1 : n ≤ c) (h2 : c ≤ maxLen) : n ≤ 9223372036854775807 := by unfold maxLen at h2; omega
/-- a tree's levels: how many -/
theorem levels_few (l : List Int) : (levels l).length ≤ l.length + 1 := levels_len l
theorem buildT_levs (l : List Sec) (leaf : Int) (h : l.length ≤ 100) : (buildT l leaf).2.2.length ≤ 5000 := by
  by_cases hb : buildErr l leaf = 0
  · rw [buildT_ok hb]
    have h1 := levels_few (digests l leaf.toNat)
    have h2 : (digests l leaf.toNat).length ≤ 4096 := by
      rw [digests, List.length_map, List.length_range]
      by_cases hl : 1 ≤ leaf.toNat
      · have := leavesN_le (n := l.length) hl; omega
      · have : leaf.toNat = 0 := by omega
        rw [this]; simp [leavesN]
    show (levels _).length ≤ _
    omega
  · rw [buildT_err hb]; simp [zTree]
theorem I64_buildT (l : List Sec) (leaf : Int) (hl : I64 leaf) (h : l.length ≤ 100) : I64 (buildT l leaf).1 ∧ I64 (buildT l leaf).2.1 := by
  by_cases hb : buildErr l leaf = 0
  · rw [buildT_ok hb]; exact ⟨by show I64 (l.length : Int); unfold I64; omega, hl⟩
  · rw [buildT_err hb]; exact ⟨by show I64 0; unfold I64; omega, by show I64 0; unfold I64; omega⟩
set_option maxHeartbeats 4000000 in
theorem builds_any (A : Option Addr) (c : Nat) (l : List Sec) (leaf : Int) (w : World) (h1 : SlAt encSec w (Bl w.heap.size) A l) (h2 : l.length ≤ c) (h3 : c ≤ maxLen) (hlf : I64 leaf) :
    Calls Try.prog 3 #[.slice A l.length c, .int .i64 leaf] w (LawRet w) := by
  have H1 := Lib.hid h1; clear h1
  have HLF := Lib.hid hlf; clear hlf
  have hl64 := max_len11 h2 h3
  have HC := Lib.hid (And.intro h2 h3)
  by_cases hl : l.length ≤ 100
  case neg =>
    have hl' : (100 : Int) < l.length := by omega
    go_enter Try.func3, Try.ntmps3
    go_wp2_with fail
    refine (awake_any _).mono ?_
    rintro e wz ⟨rfl, hbz⟩
    go_wp2
    go_ret
    exact ⟨rfl, hbz⟩
  have hl' : ¬ (100 : Int) < l.length := by omega
  have HB := Lib.hid (fun W (hb : Below w.heap.size w W) => build_any A c l.length l leaf W rfl HC.out (H1.out.fwd hb) (by omega) HLF.out)
  have HB2 := Lib.hid (fun W (hb : Below w.heap.size w W) => refBuild_any A c l.length l leaf W rfl HC.out (H1.out.fwd hb) (by omega) HLF.out)
  obtain ⟨t, ht⟩ : ∃ t, buildT l leaf = t := ⟨_, rfl⟩
  obtain ⟨n, hn⟩ : ∃ n, buildErr l leaf = n := ⟨_, rfl⟩
  have htl : t.2.2.length ≤ 5000 := by rw [← ht]; exact buildT_levs l leaf hl
  rw [ht, hn] at HB HB2
  obtain ⟨s, f, lv⟩ := t
  simp only at htl
  go_enter Try.func3, Try.ntmps3
  go_wp2_with fail
  refine (HB.out w (Below.refl _ _)).mono ?_
  rintro e w1 ⟨A1, c1, rfl, t1, t2, t3, hb1⟩
  have HT1 := Lib.hid t3
  simp only at t1
  clear t1 t2 t3
  go_wp2_with fail
  obtain ⟨w2, hw2⟩ : ∃ w2, w1.alloc (.cells #[.int .i64 s, .int .i64 f, .slice A1 lv.length c1] 26) = w2 := ⟨_, rfl⟩
  rw [hw2]
  have hb2 : Below w1.heap.size w1 w2 := by rw [← hw2]; exact ext_alloc (Below.refl _ _)
  have hr2 : w2.heap[w1.heap.size]? = some (.cells #[.int .i64 s, .int .i64 f, .slice A1 lv.length c1] 26 (0, 0)) := by rw [← hw2]; exact heap_alloc_new _ _
  have hs2 : w2.heap.size = w1.heap.size + 1 := by rw [← hw2]; simp
  clear hw2
  refine (HB2.out w2 (ext_trans hb1 hb2)).mono ?_
  rintro e w3 ⟨A3, c3, rfl, t1, t2, t3, hb3⟩
  have HT3 := Lib.hid t3
  clear t1 t2 t3
  go_upto_region 5 with (fail)
  obtain ⟨w4, hw4⟩ : ∃ w4, w3.alloc (.cells #[.int .i64 s, .int .i64 f, .slice A3 lv.length c3] 26) = w4 := ⟨_, rfl⟩
  rw [hw4]
  have hb4 : Below w3.heap.size w3 w4 := by rw [← hw4]; exact ext_alloc (Below.refl _ _)
  have hr4 : w4.heap[w3.heap.size]? = some (.cells #[.int .i64 s, .int .i64 f, .slice A3 lv.length c3] 26 (0, 0)) := by rw [← hw4]; exact heap_alloc_new _ _
  have hs4 : w4.heap.size = w3.heap.size + 1 := by rw [← hw4]; simp
  have hs3 := hb3.size
  have hr2' := (hb4.block w1.heap.size (by omega)).trans ((hb3.block w1.heap.size (by omega)).trans hr2)
  obtain ⟨r0, r1, r2, _⟩ := blk3 hr2'
  obtain ⟨e0, e1, e2, _⟩ := blk3 hr4
  have hb24 : Below w1.heap.size w1 w4 := ext_trans (ext_trans hb2 hb3) hb4
  have HSM := Lib.hid (same_any s f s f A1 A3 c1 c3 lv.length lv.length lv lv true w4 rfl rfl (by simp) ((HT1.out.blk (w' := w4) (fun g hg => hb24.block g hg.2)).more (fun g hg => by have : g < w1.heap.size := hg.2; show g < w4.heap.size; omega)) ((HT3.out.blk (w' := w4) (fun g hg => hb4.block g hg.2)).more (fun g hg => by have : g < w3.heap.size := hg.2; show g < w4.heap.size; omega)) (by omega) (by omega))
  have hbA : Below w.heap.size w w4 := ext_trans hb1 hb24
  clear hw4 hr2 hr4 hr2' HB HB2
  go_wp2_with fail
  refine HSM.out.mono ?_
  rintro e w5 ⟨rfl, hb5⟩
  clear HSM r0 r1 r2 e0 e1 e2
  go_wp2_with fail
  refine (awake_any _).mono ?_
  rintro e wz ⟨rfl, hbz⟩
  go_wp2
  go_ret
  exact ⟨rfl, ext_trans (ext_trans hbA hb5) hbz⟩
set_option maxHeartbeats 4000000 in
theorem checks_any (s lf : Int) (A : Option Addr) (c : Nat) (l : List (List Int)) (w : World) (h1 : SlAt (encSl encU64) w (Bl w.heap.size) A l) (h2 : l.length ≤ c) (h3 : c ≤ maxLen) (hI : I64 s ∧ I64 lf) :
    Calls Try.prog 8 #[.agg #[.int .i64 s, .int .i64 lf, .slice A l.length c]] w (LawRet w) := by
  have H1 := Lib.hid h1; clear h1
  have hl64 := max_len11 h2 h3
  have HC := Lib.hid (And.intro h2 h3)
  obtain ⟨q, hq⟩ : ∃ q, Hid (fewT (s, lf, l) = q) := ⟨_, rfl⟩
  obtain ⟨w0, hw0⟩ : ∃ w0, w.alloc (.cells #[.int .i64 s, .int .i64 lf, .slice A l.length c] 26) = w0 := ⟨_, rfl⟩
  have hb0 : Below w.heap.size w w0 := by rw [← hw0]; exact ext_alloc (Below.refl _ _)
  have hs0 : w0.heap.size = w.heap.size + 1 := by rw [← hw0]; simp
  have hr0 : w0.heap[w.heap.size]? = some (.cells #[.int .i64 s, .int .i64 lf, .slice A l.length c] 26 (0, 0)) := by rw [← hw0]; exact heap_alloc_new _ _
  obtain ⟨r0, r1, r2, _⟩ := blk3 hr0
  have HFW := Lib.hid (few_any s lf A c l.length l q w0 rfl hq.out (H1.out.fwd hb0) hl64)
  clear h2 h3
  go_enter Try.func8, Try.ntmps8
  go_wp2_with fail
  refine HFW.out.mono ?_
  rintro e w1 ⟨rfl, hb1⟩
  have hr1 := (hb1.block w.heap.size (by omega)).trans hr0
  have hbw1 : Below w.heap.size w w1 := ext_trans hb0 hb1
  clear HFW r0 r1 r2 hr0 hw0
  cases q with
  | false =>
    go_wp2_with fail
    refine (awake_any _).mono ?_
    rintro e wz ⟨rfl, hbz⟩
    go_wp2
    go_ret
    exact ⟨rfl, ext_trans hbw1 hbz⟩
  | true =>
    have hl12 : l.length ≤ 12 := by
      have := hq.out
      simp [fewT] at this
      exact this.1.1
    obtain ⟨x, hx⟩ : ∃ x, Hid (checkT (s, lf, l) = x) := ⟨_, rfl⟩
    obtain ⟨y, hy⟩ : ∃ y, Hid (rootT (s, lf, l) = y) := ⟨_, rfl⟩
    have K1 := Lib.hid (fun W (hb : Below w1.heap.size w1 W) => check_any s lf A c l.length l x W rfl hx.out (H1.out.fwd (ext_trans hbw1 hb)) (by omega) HC.out hI)
    have K2 := Lib.hid (fun W (hb : Below w1.heap.size w1 W) => refCheck_any s lf A c l.length l x W rfl hx.out (H1.out.fwd (ext_trans hbw1 hb)) (by omega) HC.out hI)
    have K3 := Lib.hid (fun W (hb : Below w1.heap.size w1 W) => root_any s lf A c l.length l y W rfl hy.out (H1.out.fwd (ext_trans hbw1 hb)) (by omega) HC.out hI)
    have K4 := Lib.hid (fun W (hb : Below w1.heap.size w1 W) => refRoot_any s lf A c l.length l y W rfl hy.out (H1.out.fwd (ext_trans hbw1 hb)) (by omega) HC.out hI)
    have hlt : w.heap.size < w1.heap.size := by have := hb1.size; omega
    go_upto_region 3 with (fail)
    have HCC : Hid (∀ w', Below w1.heap.size w1 w' → w'.cell? ⟨w.heap.size, 0, none⟩ = some (.int .i64 s) ∧ w'.cell? ⟨w.heap.size, 1, none⟩ = some (.int .i64 lf) ∧ w'.cell? ⟨w.heap.size, 2, none⟩ = some (.slice A l.length c)) := fun w' hb => by
      obtain ⟨a, b, c, _⟩ := blk3 ((hb.block _ hlt).trans hr1)
      exact ⟨a, b, c⟩
    have hc0 := HCC.out w1.drew (Below.refl _ _).drew
    go_region_held3 (fun w' => w'.cell? ⟨w.heap.size, 0, none⟩ = some (.int .i64 s) ∧ w'.cell? ⟨w.heap.size, 1, none⟩ = some (.int .i64 lf) ∧ w'.cell? ⟨w.heap.size, 2, none⟩ = some (.slice A l.length c)) (first | exact hc0 | exact HCC.out _ hx6 | exact HCC.out _ hx5 | exact HCC.out _ hx4 | exact HCC.out _ hx3 | exact HCC.out _ hx2 | go_keep) (first | (go_at_call 23; refine (K1.out w1.drew (Below.refl _ _).drew).mono ?_; rintro e w2 ⟨rfl, h2⟩; have hx2 : Below w1.heap.size w1 w2 := bUn h2) | (go_at_call 26; refine (K2.out w2 hx2).mono ?_; rintro e w3 ⟨rfl, h3⟩; have hx3 : Below w1.heap.size w1 w3 := ext_trans hx2 h3) | (go_at_call 27; refine (K3.out w3 hx3).mono ?_; rintro e w4 ⟨rfl, h4⟩; have hx4 : Below w1.heap.size w1 w4 := ext_trans hx3 h4) | (go_at_call 28; refine (K4.out w4 hx4).mono ?_; rintro e w5 ⟨rfl, h5⟩; have hx5 : Below w1.heap.size w1 w5 := ext_trans hx4 h5) | (go_at_call 12; refine (awake_any w5).mono ?_; rintro e w6 ⟨rfl, h6⟩; have hx6 : Below w1.heap.size w1 w6 := ext_trans hx5 h6))
    go_wp2_with fail
    go_ret
    exact ⟨rfl, ext_trans hbw1 hx6⟩
end Go.Proofs.Ythneomehfmjbkaa
