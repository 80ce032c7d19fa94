/-
  The law CompareLearns: the walk.
-/
import Derived.Test.YtjehedfdikdfpaaZ15
import Derived.Test.YtjehedfdikdfpaaZ18
set_option linter.unusedVariables false
set_option linter.unusedSimpArgs false
set_option linter.unusedSectionVars false
set_option linter.unnecessarySimpa false
namespace Go.Proofs.Ytjehedfdikdfpaa
open Go.RowKit Go.Shelf
attribute [local go_sem] Oper.semAt_some

theorem fewW_ok {s lf lv sent : Int} {l : List (List Int)} {p f : List Ext} {done : Bool} (h : fewW ((s, lf, l), p, lv, f, sent, done) = true) : (l.length ≤ 12 ∧ ∀ row ∈ l, row.length ≤ 1000000) ∧ p.length ≤ 60 ∧ f.length ≤ 60 := by
  unfold fewW at h
  simp only [Bool.and_eq_true, decide_eq_true_eq] at h
  exact ⟨fewT_ok h.1, h.2.1, h.2.2⟩
set_option maxHeartbeats 8000000 in
set_option maxRecDepth 100000 in
theorem learns44_any (x : Wk) (m : Msg) (v u : Value) (w : World) (hx : WkVal w (Bl w.heap.size) x v) (hm : MsgVal w (Bl w.heap.size) m u) :
    Calls Try.prog 5 #[v, u] w (LawRet w) := by
  have hm' := hm
  have hx' := hx
  obtain ⟨k0, k1, k2, k3, k4, k5, vs, bs⟩ := m
  obtain ⟨V, vc, B, bc, rfl, hi, ⟨v1, v2, v3⟩, b1, b2, b3⟩ := hm
  obtain ⟨⟨s, lf, l⟩, p, lv, f, sent, done⟩ := x
  obtain ⟨A, c, P, pc, F, fc, rfl, ⟨a1, a2, a3⟩, ⟨d1, d2, d3⟩, ⟨f1, f2, f3⟩, hI⟩ := hx
  simp only at hi v1 v2 v3 b1 b2 b3 hm' hx' a1 a2 a3 d1 d2 d3 f1 f2 f3 hI ⊢
  obtain ⟨n0, hn0⟩ : ∃ n0, w.heap.size = n0 := ⟨_, rfl⟩
  obtain ⟨W0, hW0⟩ : ∃ W0, (w.alloc (.cells #[.int .i64 s, .int .i64 lf, .slice A l.length c, .slice P p.length pc, .int .i64 lv, .slice F f.length fc, .int .i64 sent, .bool done] 27)).alloc (.cells #[.int .i64 k0, .int .i64 k1, .int .i64 k2, .int .i64 k3, .int .i64 k4, .int .i64 k5, .slice V vs.length vc, .slice B bs.length bc] 45) = W0 := ⟨_, rfl⟩
  have hB0 : Below n0 w W0 := by rw [← hW0, ← hn0]; exact ext_alloc (ext_alloc (Below.refl _ _))
  have hr0 : W0.heap[n0]? = some (.cells #[.int .i64 s, .int .i64 lf, .slice A l.length c, .slice P p.length pc, .int .i64 lv, .slice F f.length fc, .int .i64 sent, .bool done] 27 (0, 0)) := by
    rw [← hW0, ← hn0]; exact (Below.heap_alloc _ _ _ (by simp)).trans (heap_alloc_new _ _)
  have hr1 : W0.heap[n0 + 1]? = some (.cells #[.int .i64 k0, .int .i64 k1, .int .i64 k2, .int .i64 k3, .int .i64 k4, .int .i64 k5, .slice V vs.length vc, .slice B bs.length bc] 45 (0, 0)) := by
    rw [← hW0, ← hn0]; exact heap_new2 _ _ _
  have hz0 : W0.heap.size = n0 + 2 := by rw [← hW0, ← hn0]; simp
  obtain ⟨n1, hn1⟩ : ∃ n1, W0.heap.size = n1 := ⟨_, rfl⟩
  have hn01 : n0 + 2 ≤ n1 := by omega
  have HALL : Hid (∀ W, Below n1 W0 W → (W.heap[n0]? = some (.cells #[.int .i64 s, .int .i64 lf, .slice A l.length c, .slice P p.length pc, .int .i64 lv, .slice F f.length fc, .int .i64 sent, .bool done] 27 (0, 0)) ∧ W.heap[n0 + 1]? = some (.cells #[.int .i64 k0, .int .i64 k1, .int .i64 k2, .int .i64 k3, .int .i64 k4, .int .i64 k5, .slice V vs.length vc, .slice B bs.length bc] 45 (0, 0))) ∧ Below w.heap.size w W) := fun W hb =>
    ⟨⟨(hb.block n0 (by omega)).trans hr0, (hb.block (n0 + 1) (by omega)).trans hr1⟩, by rw [hn0]; exact hB0.trans (hb.mono (by omega))⟩
  have HXV : Hid (∀ W, Below n1 W0 W → WkVal W (Bl W.heap.size) ((s, lf, l), p, lv, f, sent, done) (.agg #[.int .i64 s, .int .i64 lf, .slice A l.length c, .slice P p.length pc, .int .i64 lv, .slice F f.length fc, .int .i64 sent, .bool done])) := fun W hb => hx'.fwd (HALL.out W hb).2
  have HMV : Hid (∀ W, Below n1 W0 W → MsgVal W (Bl W.heap.size) (k0, k1, k2, k3, k4, k5, vs, bs) (.agg #[.int .i64 k0, .int .i64 k1, .int .i64 k2, .int .i64 k3, .int .i64 k4, .int .i64 k5, .slice V vs.length vc, .slice B bs.length bc])) := fun W hb => hm'.fwd (HALL.out W hb).2
  have HA := Lib.hid (fun W (hb : Below n1 W0 W) => a3.fwd (HALL.out W hb).2)
  have HP := Lib.hid (fun W (hb : Below n1 W0 W) => d3.fwd (HALL.out W hb).2)
  have HF := Lib.hid (fun W (hb : Below n1 W0 W) => f3.fwd (HALL.out W hb).2)
  have HV := Lib.hid (fun W (hb : Below n1 W0 W) => v3.fwd (HALL.out W hb).2)
  have HBB := Lib.hid (fun W (hb : Below n1 W0 W) => b3.fwd (HALL.out W hb).2)
  obtain ⟨q, hq⟩ : ∃ q, fewW ((s, lf, l), p, lv, f, sent, done) = q := ⟨_, rfl⟩
  obtain ⟨q2, hq2⟩ : ∃ q2, fewM (k0, k1, k2, k3, k4, k5, vs, bs) = q2 := ⟨_, rfl⟩
  have HF1 := Lib.hid (fewWk_any ((s, lf, l), p, lv, f, sent, done) _ W0 q (HXV.out W0 (Below.refl _ _)) hq)
  have HF2 := Lib.hid (fun W (hb : Below n1 W0 W) => fewMsg_any (k0, k1, k2, k3, k4, k5, vs, bs) _ W q2 (HMV.out W hb) hq2)
  have HQ := Lib.hid hq
  have HQ2 := Lib.hid hq2
  obtain ⟨p0, p1, p2, p3, p4, p5, p6, p7, _⟩ := blk8 (HALL.out W0 (Below.refl _ _)).1.1
  clear a3 d3 f3 v3 b3 hm' hx' hr0 hr1 hz0 hq hq2
  go_enter Try.func5, Try.ntmps5
  go_wp2_with fail
  refine HF1.out.mono ?_
  rintro e w1 ⟨rfl, hb1⟩
  rw [hn1] at hb1
  clear p0 p1 p2 p3 p4 p5 p6 p7 hW0 HF1
  cases q with
  | false =>
    go_wp2_with fail
    refine (awake44_any w1).mono ?_
    rintro e wz ⟨rfl, hbz⟩
    go_wp2_with fail
    go_ret
    exact ⟨by first | trivial | rfl | simp, ((HALL.out w1 hb1).2).trans (hbz.mono (((HALL.out w1 hb1).2)).size)⟩
  | true =>
    obtain ⟨z0, z1, z2, z3, z4, z5, z6, z7, _⟩ := blk8 (HALL.out w1 hb1).1.2
    have HF3 := Lib.hid (HF2.out w1 hb1)
    go_wp2_with fail
    refine HF3.out.mono ?_
    rintro e w2 ⟨rfl, hb2⟩
    have hb02 : Below n1 W0 w2 := hb1.trans (hb2.mono (by have := hb1.size; omega))
    clear z0 z1 z2 z3 z4 z5 z6 z7 HF3 HF2
    cases q2 with
    | false =>
      go_wp2_with fail
      refine (awake44_any w2).mono ?_
      rintro e wz ⟨rfl, hbz⟩
      go_wp2_with fail
      go_ret
      exact ⟨by first | trivial | rfl | simp, ((HALL.out w2 hb02).2).trans (hbz.mono (((HALL.out w2 hb02).2)).size)⟩
    | true =>
      obtain ⟨⟨hl12, hlv⟩, hp60, hf60⟩ := fewW_ok HQ.out
      have hvl : vs.length ≤ 200 := by have := HQ2.out; simp [fewM] at this; exact this.1
      have hbl : bs.length ≤ 2000 := by have := HQ2.out; simp [fewM] at this; exact this.2
      obtain ⟨X, hX⟩ : ∃ X, learnW ((s, lf, l), p, lv, f, sent, done) (k0, k1, k2, k3, k4, k5, vs, bs) = X := ⟨_, rfl⟩
      obtain ⟨M, hM⟩ : ∃ M, learnM ((s, lf, l), p, lv, f, sent, done) (k0, k1, k2, k3, k4, k5, vs, bs) = M := ⟨_, rfl⟩
      obtain ⟨r, hr⟩ : ∃ r, learnE ((s, lf, l), p, lv, f, sent, done) (k0, k1, k2, k3, k4, k5, vs, bs) = r := ⟨_, rfl⟩
      have hM1 : M.length ≤ 1 := by
        rw [← hM]; unfold learnM
        split
        · simp
        · split <;> simp
      have HA1 := Lib.hid (fun W (hb : Below n1 W0 W) => learn_any s lf lv sent k0 k1 k2 k3 k4 k5 done A P F V B c pc fc l.length p.length f.length vs.length vc bs.length bc l p f vs bs W rfl rfl rfl rfl rfl (HA.out W hb) (HP.out W hb) (HF.out W hb) (HV.out W hb) (HBB.out W hb) (by omega) ⟨a1, a2⟩ (by omega) ⟨d1, d2⟩ (by omega) ⟨f1, f2⟩ (by omega) ⟨b1, b2⟩ hI hlv)
      have HA2 := Lib.hid (fun W (hb : Below n1 W0 W) => refLearn_any (Bl W.heap.size) s lf lv sent k0 k1 k2 k3 k4 k5 done A P F V B c pc fc l.length p.length f.length vs.length vc bs.length bc l p f vs bs W rfl rfl rfl rfl rfl (fun _ h => h) (HA.out W hb) (HP.out W hb) (HF.out W hb) (HV.out W hb) (HBB.out W hb) (by omega) ⟨a1, a2⟩ (by omega) (by omega) (by omega) (by omega) hI hlv)
      rw [hX, hM, hr] at HA1 HA2
      clear hX hM hr
      have HA1' := Lib.hid (HA1.out w2 hb02)
      obtain ⟨⟨p0, p1, p2, p3, p4, p5, p6, p7, _⟩, z0, z1, z2, z3, z4, z5, z6, z7, _⟩ := And.intro (blk8 (HALL.out w2 hb02).1.1) (blk8 (HALL.out w2 hb02).1.2)
      go_wp2_with fail
      refine HA1'.out.mono ?_
      rintro e w3 ⟨v3, B3, bc3, rfl, hv3, hms1, hms2, hms3, hb3⟩
      have hv3' := hv3.keep (S' := Bl w3.heap.size) (fun _ _ => rfl) (fun g hg => hg.2)
      obtain ⟨A3, c3, P3, pc3, F3, fc3, rfl, _⟩ := hv3
      have HV3 : Hid (∀ W, Below w3.heap.size w3 W → WkVal W (Bl W.heap.size) X (.agg #[.int .i64 X.1.1, .int .i64 X.1.2.1, .slice A3 X.1.2.2.length c3, .slice P3 X.2.1.length pc3, .int .i64 X.2.2.1, .slice F3 X.2.2.2.1.length fc3, .int .i64 X.2.2.2.2.1, .bool X.2.2.2.2.2]) ∧ SlAt encMsg W (Bl W.heap.size) B3 M) := fun W hb => ⟨hv3'.fwd hb, (hms3.more (S' := Bl w3.heap.size) (fun g hg => hg.2)).fwd hb⟩
      clear p0 p1 p2 p3 p4 p5 p6 p7 z0 z1 z2 z3 z4 z5 z6 z7 HA1' HA1
      obtain ⟨n3, hn3⟩ : ∃ n3, w3.heap.size = n3 := ⟨_, rfl⟩
      obtain ⟨W4, hW4⟩ : ∃ W4, w3.alloc (.cells #[.int .i64 X.1.1, .int .i64 X.1.2.1, .slice A3 X.1.2.2.length c3, .slice P3 X.2.1.length pc3, .int .i64 X.2.2.1, .slice F3 X.2.2.2.1.length fc3, .int .i64 X.2.2.2.2.1, .bool X.2.2.2.2.2] 27) = W4 := ⟨_, rfl⟩
      have hb34 : Below n3 w3 W4 := by rw [← hW4, ← hn3]; exact ext_alloc (Below.refl _ _)
      have hr4 : W4.heap[n3]? = some (.cells #[.int .i64 X.1.1, .int .i64 X.1.2.1, .slice A3 X.1.2.2.length c3, .slice P3 X.2.1.length pc3, .int .i64 X.2.2.1, .slice F3 X.2.2.2.1.length fc3, .int .i64 X.2.2.2.2.1, .bool X.2.2.2.2.2] 27 (0, 0)) := by rw [← hW4, ← hn3]; exact heap_alloc_new _ _
      have hz4 : n3 < W4.heap.size := by rw [← hW4, ← hn3]; simp
      have hz3 := hb3.size
      have hz02 := hb02.size
      have hb03 : Below n1 W0 w3 := hb02.trans (hb3.mono (by omega))
      have hb04 : Below n1 W0 W4 := hb03.trans (hb34.mono (by omega))
      have HA2' := Lib.hid (HA2.out W4 hb04)
      obtain ⟨⟨p0, p1, p2, p3, p4, p5, p6, p7, _⟩, z0, z1, z2, z3, z4, z5, z6, z7, _⟩ := And.intro (blk8 (HALL.out W4 hb04).1.1) (blk8 (HALL.out W4 hb04).1.2)
      have HW4 := Lib.hid hW4
      have HR4 := Lib.hid hr4
      have HB34 := Lib.hid hb34
      have HN3 := Lib.hid hn3
      clear hW4 hr4 hb34 hb3 hv3' hms3
      go_upto_region 4 with (fail)
      rw [HW4.out]
      clear hn3
      go_wp2_with fail
      refine HA2'.out.mono ?_
      rintro e w5 ⟨v5, B5, bc5, rfl, hv5, hmt1, hmt2, hmt3, hb5⟩
      have hv5' := hv5.keep (S' := Bl w5.heap.size) (fun _ _ => rfl) (fun g hg => hg.elim (fun h => Nat.lt_of_lt_of_le h hb5.size) (fun h => h.2))
      have hmt3' := hmt3.more (S' := Bl w5.heap.size) (fun g hg => hg.2)
      obtain ⟨A5, c5, P5, pc5, F5, fc5, rfl, _⟩ := hv5
      clear p0 p1 p2 p3 p4 p5 p6 p7 z0 z1 z2 z3 z4 z5 z6 z7 HA2' HA2
      have hb5' := hb5.size
      obtain ⟨n5, hn5⟩ : ∃ n5, w5.heap.size = n5 := ⟨_, rfl⟩
      obtain ⟨W6, hW6⟩ : ∃ W6, w5.alloc (.cells #[.int .i64 X.1.1, .int .i64 X.1.2.1, .slice A5 X.1.2.2.length c5, .slice P5 X.2.1.length pc5, .int .i64 X.2.2.1, .slice F5 X.2.2.2.1.length fc5, .int .i64 X.2.2.2.2.1, .bool X.2.2.2.2.2] 27) = W6 := ⟨_, rfl⟩
      have hb56 : Below n5 w5 W6 := by rw [← hW6, ← hn5]; exact ext_alloc (Below.refl _ _)
      have hr6 : W6.heap[n5]? = some (.cells #[.int .i64 X.1.1, .int .i64 X.1.2.1, .slice A5 X.1.2.2.length c5, .slice P5 X.2.1.length pc5, .int .i64 X.2.2.1, .slice F5 X.2.2.2.1.length fc5, .int .i64 X.2.2.2.2.1, .bool X.2.2.2.2.2] 27 (0, 0)) := by rw [← hW6, ← hn5]; exact heap_alloc_new _ _
      have hb46 : Below W4.heap.size W4 W6 := hb5.trans (hb56.mono (by omega))
      have hV5 := hv5'.fwd (w' := W6) (by rw [hn5]; exact hb56)
      have hM5 := hmt3'.fwd (w' := W6) (by rw [hn5]; exact hb56)
      have hb36 : Below n3 w3 W6 := HB34.out.trans (hb46.mono (by omega))
      obtain ⟨hV4, hM4⟩ := HV3.out W6 (by rw [HN3.out]; exact hb36)
      have HSM := Lib.hid (sameWk_true X _ _ W6 hV4 hV5)
      have HSL := Lib.hid (fun W (hb : Below W6.heap.size W6 W) => sameMsgs_true B3 B5 bc3 bc5 M.length M W rfl (hM4.fwd hb) (hM5.fwd hb) (by omega))
      have hr46 := (hb46.block n3 hz4).trans HR4.out
      have HB06 : Hid (Below n1 W0 W6) := hb04.trans (hb46.mono (by have := hb04.size; omega))
      have HR46 := Lib.hid hr46
      have HR6 := Lib.hid hr6
      have HW6 := Lib.hid hW6
      have hrr : (r == r) = true := by simp
      clear hW6 hr6 hr46 hV5 hV4 hM4 hM5 hmt3 hmt3' hv5' hb56 hb5 hb36 HV3
      go_upto_region 5 with (fail)
      rw [HW6.out]
      clear hn5
      obtain ⟨p0, p1, p2, p3, p4, p5, p6, p7, _⟩ := blk8 HR46.out
      obtain ⟨z0, z1, z2, z3, z4, z5, z6, z7, _⟩ := blk8 HR6.out
      go_wp2_with fail
      refine HSM.out.mono ?_
      rintro e w7 ⟨rfl, hb7⟩
      clear p0 p1 p2 p3 p4 p5 p6 p7 z0 z1 z2 z3 z4 z5 z6 z7 HSM
      have HSL' := Lib.hid (HSL.out w7 hb7)
      go_wp2_with fail
      refine HSL'.out.mono ?_
      rintro e w8 ⟨rfl, hb8⟩
      have hb08 : Below n1 W0 w8 := HB06.out.trans ((hb7.trans (hb8.mono hb7.size)).mono (by have := HB06.out.size; omega))
      go_wp2_with fail
      refine (awake44_any w8).mono ?_
      rintro e wz ⟨rfl, hbz⟩
      go_wp2_with fail
      go_ret
      exact ⟨by first | trivial | rfl | simp, ((HALL.out w8 hb08).2).trans (hbz.mono (((HALL.out w8 hb08).2)).size)⟩
end Go.Proofs.Ytjehedfdikdfpaa
