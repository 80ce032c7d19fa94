/-
  The law CompareBegins: the walk.
-/
import Derived.IntWalk
import Derived.Deep.RegionHeld3
import Derived.Laws.Closers25b
import Derived.RegionTactic
import Derived.BigRegion
import Derived.Deep.RegionLaw
import Derived.Deep.Cut
import Derived.Laws.Entries
import Derived.WalkKit
import Derived.WalkSpells
import Derived.WalkLawsBesides
import Derived.Lib.Hide
import Derived.Deep.QuietTactic
import Derived.BigQuiet
import Derived.StillTailTactics
import Derived.Maps.AppendAt
import Derived.Deep.AppendLies
import Derived.Test.YtjehedfdikdfpaaProg
import Derived.ChangeKeysEq
import Derived.RangeFuncNested
import Derived.RangeFuncBound
import Derived.RangeFuncCalls
import Derived.RangeFuncLeaves
import Derived.RangeFuncBox
import Derived.Shelf.Abstract
import Derived.Shelf.RegionOpen
import Derived.OwnWalkIn
import Derived.TacticsInMore
import Derived.LoopNIn
import Derived.LoopIn
import Derived.Laws.OwnMore
import Derived.Sort.QuietIn
import Derived.Shelf.SlGeneric
import Derived.Shelf.SlSortCmp.NoneTotal
import Derived.Ground.SlsfProg
import Derived.Laws.IdiomCopy
import Derived.Lib.SliceRun
import Derived.Lib.AppendZerosOnto
import Derived.Laws.CopyOwn
import Derived.Laws.MakeOwn
import Derived.Deep.OwnRows
import Derived.Maps.RangeWalk
import Derived.OpenShut
import Derived.Carry
import Derived.ProofKit
import Derived.ChangeSame
import GoSem.Claim
import GoSem.ClaimJoined
import GoSem.ClaimMapViews
import Derived.JoinedTies
import Derived.KernelRfl
import Derived.Deep.DeepCutAuto
import Derived.OrdersHeld
import Derived.WalkMore
import Derived.OrdersIn
import Derived.Deep.RegionHeld
import Derived.Sort.CutIn
import Derived.Test.YtjehedfdikdfpaaZ01
import Derived.Test.YtjehedfdikdfpaaZ02
import Derived.Test.YtjehedfdikdfpaaZ03
import Derived.Test.YtjehedfdikdfpaaZ04
import Derived.Test.YtjehedfdikdfpaaZ05
import Derived.Test.YtjehedfdikdfpaaZ06
import Derived.Test.YtjehedfdikdfpaaZ07
import Derived.Test.YtjehedfdikdfpaaZ08
import Derived.Test.YtjehedfdikdfpaaZ09
import Derived.Test.YtjehedfdikdfpaaZ10
import Derived.Test.YtjehedfdikdfpaaZ11
import Derived.Test.YtjehedfdikdfpaaZ12
import Derived.Test.YtjehedfdikdfpaaZ13
import Derived.Test.YtjehedfdikdfpaaZ14
import Derived.Test.YtjehedfdikdfpaaZ15
import Derived.Test.YtjehedfdikdfpaaZ16
import Derived.Test.YtjehedfdikdfpaaZ17
import Derived.Test.YtjehedfdikdfpaaZ18
import Derived.Test.YtjehedfdikdfpaaZ19
set_option linter.unusedVariables false
set_option linter.unusedSimpArgs false
set_option linter.unusedSectionVars false
set_option linter.unnecessarySimpa false
namespace Go.Proofs.Ytjehedfdikdfpaa
open Go.RowKit Go.Shelf
attribute [local go_sem] Oper.semAt_some

/-- the only one that may come up, and it is wanted -/
theorem wpAnyU_opW {P : Program} {ops : Array Oper} {Q : Exit → Act → World → Prop} {md : Region.Mode} {S : World → Prop} {k i : Nat} {o : Oper} {fuel : Nat} {listed : Array Bool} {a : Act} {w : World} (hr : Region.ready md ops listed = [i]) (ho : ops[i]? = some o) (hw : Region.wanted o (yielded ops a.tmps) = true)
    (h : ∀ K' : Act → World → Prop, Shut (∀ a w, (i ≠ k → S w) → wpAnyU P md ops Q S k fuel (listed.setIfInBounds i true) a w → K' a w) → Oper.wp P o a w K' Q) :
    wpAnyU P md ops Q S k (fuel + 1) listed a w :=
  wpAnyU_one hr ho (fun K' hK => by rw [if_pos hw]; exact h K' hK)
set_option maxHeartbeats 8000000 in
set_option maxRecDepth 100000 in
theorem begins44_any (s lf : Int) (A : Option Addr) (c : Nat) (l : List (List Int)) (x : Wk) (v : Value) (w : World) (h1 : SlAt (encSl encU64) w (Bl w.heap.size) A l) (hc : l.length ≤ c ∧ c ≤ maxLen) (hIt : I64 s ∧ I64 lf) (hx : WkVal w (Bl w.heap.size) x v) :
    Calls Try.prog 3 #[.agg #[.int .i64 s, .int .i64 lf, .slice A l.length c], v] w (LawRet w) := by
  have hx' := hx
  obtain ⟨⟨s1, lf1, l1⟩, p, lv, f, sent, done⟩ := x
  obtain ⟨A1, c1, P, pc, F, fc, rfl, ⟨a1, a2, a3⟩, ⟨d1, d2, d3⟩, ⟨f1, f2, f3⟩, hI⟩ := hx
  simp only at hx' a1 a2 a3 d1 d2 d3 f1 f2 f3 hI ⊢
  obtain ⟨n0, hn0⟩ : ∃ n0, w.heap.size = n0 := ⟨_, rfl⟩
  obtain ⟨W0, hW0⟩ : ∃ W0, (w.alloc (.cells #[.int .i64 s, .int .i64 lf, .slice A l.length c] 24)).alloc (.cells #[.int .i64 s1, .int .i64 lf1, .slice A1 l1.length c1, .slice P p.length pc, .int .i64 lv, .slice F f.length fc, .int .i64 sent, .bool done] 27) = W0 := ⟨_, rfl⟩
  have hB0 : Below n0 w W0 := by rw [← hW0, ← hn0]; exact ext_alloc (ext_alloc (Below.refl _ _))
  have hr0 : W0.heap[n0]? = some (.cells #[.int .i64 s, .int .i64 lf, .slice A l.length c] 24 (0, 0)) := by
    rw [← hW0, ← hn0]; exact (Below.heap_alloc _ _ _ (by simp)).trans (heap_alloc_new _ _)
  have hr1 : W0.heap[n0 + 1]? = some (.cells #[.int .i64 s1, .int .i64 lf1, .slice A1 l1.length c1, .slice P p.length pc, .int .i64 lv, .slice F f.length fc, .int .i64 sent, .bool done] 27 (0, 0)) := by
    rw [← hW0, ← hn0]; exact heap_new2 _ _ _
  have hz0 : W0.heap.size = n0 + 2 := by rw [← hW0, ← hn0]; simp
  obtain ⟨n1, hn1⟩ : ∃ n1, W0.heap.size = n1 := ⟨_, rfl⟩
  have hn01 : n0 + 2 ≤ n1 := by omega
  have HALL : Hid (∀ W, Below n1 W0 W → (W.heap[n0]? = some (.cells #[.int .i64 s, .int .i64 lf, .slice A l.length c] 24 (0, 0)) ∧ W.heap[n0 + 1]? = some (.cells #[.int .i64 s1, .int .i64 lf1, .slice A1 l1.length c1, .slice P p.length pc, .int .i64 lv, .slice F f.length fc, .int .i64 sent, .bool done] 27 (0, 0))) ∧ Below w.heap.size w W) := fun W hb =>
    ⟨⟨(hb.block n0 (by omega)).trans hr0, (hb.block (n0 + 1) (by omega)).trans hr1⟩, by rw [hn0]; exact hB0.trans (hb.mono (by omega))⟩
  have HXV : Hid (∀ W, Below n1 W0 W → WkVal W (Bl W.heap.size) ((s1, lf1, l1), p, lv, f, sent, done) (.agg #[.int .i64 s1, .int .i64 lf1, .slice A1 l1.length c1, .slice P p.length pc, .int .i64 lv, .slice F f.length fc, .int .i64 sent, .bool done])) := fun W hb => hx'.fwd (HALL.out W hb).2
  have HT := Lib.hid (fun W (hb : Below n1 W0 W) => h1.fwd (HALL.out W hb).2)
  have HA := Lib.hid (fun W (hb : Below n1 W0 W) => a3.fwd (HALL.out W hb).2)
  have HP := Lib.hid (fun W (hb : Below n1 W0 W) => d3.fwd (HALL.out W hb).2)
  have HF := Lib.hid (fun W (hb : Below n1 W0 W) => f3.fwd (HALL.out W hb).2)
  obtain ⟨q, hq⟩ : ∃ q, fewT (s, lf, l) = q := ⟨_, rfl⟩
  obtain ⟨q2, hq2⟩ : ∃ q2, fewW ((s1, lf1, l1), p, lv, f, sent, done) = q2 := ⟨_, rfl⟩
  have HF1 := Lib.hid (few_any s lf A c l.length l q W0 rfl hq (HT.out W0 (Below.refl _ _)) (by unfold maxLen at hc; omega))
  have HF2 := Lib.hid (fun W (hb : Below n1 W0 W) => fewWk_any ((s1, lf1, l1), p, lv, f, sent, done) _ W q2 (HXV.out W hb) hq2)
  have HQ := Lib.hid hq
  have HQ2 := Lib.hid hq2
  obtain ⟨p0, p1, p2, _⟩ := blk3 (HALL.out W0 (Below.refl _ _)).1.1
  clear h1 a3 d3 f3 hx' hr0 hr1 hz0 hq hq2
  go_enter Try.func3, Try.ntmps3
  go_wp2_with fail
  refine HF1.out.mono ?_
  rintro e w1 ⟨rfl, hb1⟩
  rw [hn1] at hb1
  clear p0 p1 p2 hW0 HF1
  cases q with
  | false =>
    go_wp2_with fail
    refine (awake44_any w1).mono ?_
    rintro e wz ⟨rfl, hbz⟩
    go_wp2_with fail
    go_ret
    exact ⟨by first | trivial | rfl | simp, ((HALL.out w1 hb1).2).trans (hbz.mono (((HALL.out w1 hb1).2)).size)⟩
  | true =>
    obtain ⟨z0, z1, z2, z3, z4, z5, z6, z7, _⟩ := blk8 (HALL.out w1 hb1).1.2
    have HF3 := Lib.hid (HF2.out w1 hb1)
    go_wp2_with fail
    refine HF3.out.mono ?_
    rintro e w2 ⟨rfl, hb2⟩
    have hb02 : Below n1 W0 w2 := hb1.trans (hb2.mono (by have := hb1.size; omega))
    clear z0 z1 z2 z3 z4 z5 z6 z7 HF3 HF2
    cases q2 with
    | false =>
      go_wp2_with fail
      refine (awake44_any w2).mono ?_
      rintro e wz ⟨rfl, hbz⟩
      go_wp2_with fail
      go_ret
      exact ⟨by first | trivial | rfl | simp, ((HALL.out w2 hb02).2).trans (hbz.mono (((HALL.out w2 hb02).2)).size)⟩
    | true =>
      obtain ⟨hl12, hlv⟩ := fewT_ok HQ.out
      obtain ⟨⟨hl12', hlv'⟩, hp60, hf60⟩ := fewW_ok HQ2.out
      obtain ⟨X, hX⟩ : ∃ X, begW (s, lf, l) = X := ⟨_, rfl⟩
      obtain ⟨M, hM⟩ : ∃ M, begM (s, lf, l) = M := ⟨_, rfl⟩
      obtain ⟨r, hr⟩ : ∃ r, checkT (s, lf, l) = r := ⟨_, rfl⟩
      obtain ⟨r2, hr2⟩ : ∃ r2, wkE ((s1, lf1, l1), p, lv, f, sent, done) = r2 := ⟨_, rfl⟩
      have hM1 : M.length ≤ 1 := by
        rw [← hM]; unfold begM
        split <;> simp
      have HA1 := Lib.hid (fun W (hb : Below n1 W0 W) => begin_any s lf A c l.length l W rfl (HT.out W hb) (by omega) hc hIt hlv)
      have HA2 := Lib.hid (fun W (hb : Below n1 W0 W) => refBegin44_any (Bl W.heap.size) s lf A c l.length l W rfl (fun _ h => h) (HT.out W hb) (by omega) hc hIt)
      have HC1 := Lib.hid (fun W (hb : Below n1 W0 W) => wkCheck_any s1 lf1 lv sent done A1 P F c1 pc fc l1.length p.length f.length l1 p f r2 W rfl rfl rfl hr2 (HA.out W hb) (HP.out W hb) (HF.out W hb) (by omega) ⟨a1, a2⟩ hI (by omega) (by omega) hlv')
      have HC2 := Lib.hid (fun W (hb : Below n1 W0 W) => refWk_any s1 lf1 lv sent done A1 P F c1 pc fc l1.length p.length f.length l1 p f r2 W rfl rfl rfl hr2 (HA.out W hb) (HP.out W hb) (HF.out W hb) (by omega) ⟨a1, a2⟩ hI (by omega) (by omega) hlv')
      rw [hX, hM, hr] at HA1 HA2
      clear hX hM hr hr2
      have HA1' := Lib.hid (HA1.out w2 hb02)
      obtain ⟨p0, p1, p2, _⟩ := blk3 (HALL.out w2 hb02).1.1
      go_wp2_with fail
      refine HA1'.out.mono ?_
      rintro e w3 ⟨v3, B3, bc3, rfl, hv3, hms1, hms2, hms3, hb3⟩
      have hv3' := hv3.keep (S' := Bl w3.heap.size) (fun _ _ => rfl) (fun g hg => hg.2)
      obtain ⟨A3, c3, P3, pc3, F3, fc3, rfl, _⟩ := hv3
      have HV3 : Hid (∀ W, Below w3.heap.size w3 W → WkVal W (Bl W.heap.size) X (.agg #[.int .i64 X.1.1, .int .i64 X.1.2.1, .slice A3 X.1.2.2.length c3, .slice P3 X.2.1.length pc3, .int .i64 X.2.2.1, .slice F3 X.2.2.2.1.length fc3, .int .i64 X.2.2.2.2.1, .bool X.2.2.2.2.2]) ∧ SlAt encMsg W (Bl W.heap.size) B3 M) := fun W hb => ⟨hv3'.fwd hb, (hms3.more (S' := Bl w3.heap.size) (fun g hg => hg.2)).fwd hb⟩
      clear p0 p1 p2 HA1' HA1
      obtain ⟨n3, hn3⟩ : ∃ n3, w3.heap.size = n3 := ⟨_, rfl⟩
      obtain ⟨W4, hW4⟩ : ∃ W4, w3.alloc (.cells #[.int .i64 X.1.1, .int .i64 X.1.2.1, .slice A3 X.1.2.2.length c3, .slice P3 X.2.1.length pc3, .int .i64 X.2.2.1, .slice F3 X.2.2.2.1.length fc3, .int .i64 X.2.2.2.2.1, .bool X.2.2.2.2.2] 27) = W4 := ⟨_, rfl⟩
      have hb34 : Below n3 w3 W4 := by rw [← hW4, ← hn3]; exact ext_alloc (Below.refl _ _)
      have hr4 : W4.heap[n3]? = some (.cells #[.int .i64 X.1.1, .int .i64 X.1.2.1, .slice A3 X.1.2.2.length c3, .slice P3 X.2.1.length pc3, .int .i64 X.2.2.1, .slice F3 X.2.2.2.1.length fc3, .int .i64 X.2.2.2.2.1, .bool X.2.2.2.2.2] 27 (0, 0)) := by rw [← hW4, ← hn3]; exact heap_alloc_new _ _
      have hz4 : n3 < W4.heap.size := by rw [← hW4, ← hn3]; simp
      have hz3 := hb3.size
      have hz02 := hb02.size
      have hb03 : Below n1 W0 w3 := hb02.trans (hb3.mono (by omega))
      have hb04 : Below n1 W0 W4 := hb03.trans (hb34.mono (by omega))
      have HA2' := Lib.hid (HA2.out W4 hb04)
      obtain ⟨p0, p1, p2, _⟩ := blk3 (HALL.out W4 hb04).1.1
      have HW4 := Lib.hid hW4
      have HR4 := Lib.hid hr4
      have HB34 := Lib.hid hb34
      have HN3 := Lib.hid hn3
      clear hW4 hr4 hb34 hb3 hv3' hms3
      go_upto_region 4 with (fail)
      rw [HW4.out]
      clear hn3
      go_wp2_with fail
      refine HA2'.out.mono ?_
      rintro e w5 ⟨v5, B5, bc5, rfl, hv5, hmt1, hmt2, hmt3, hb5⟩
      have hv5' := hv5.keep (S' := Bl w5.heap.size) (fun _ _ => rfl) (fun g hg => hg.elim (fun h => Nat.lt_of_lt_of_le h hb5.size) (fun h => h.2))
      have hmt3' := hmt3.more (S' := Bl w5.heap.size) (fun g hg => hg.2)
      obtain ⟨A5, c5, P5, pc5, F5, fc5, rfl, _⟩ := hv5
      clear p0 p1 p2 HA2' HA2
      have hb5' := hb5.size
      obtain ⟨n5, hn5⟩ : ∃ n5, w5.heap.size = n5 := ⟨_, rfl⟩
      obtain ⟨W6, hW6⟩ : ∃ W6, w5.alloc (.cells #[.int .i64 X.1.1, .int .i64 X.1.2.1, .slice A5 X.1.2.2.length c5, .slice P5 X.2.1.length pc5, .int .i64 X.2.2.1, .slice F5 X.2.2.2.1.length fc5, .int .i64 X.2.2.2.2.1, .bool X.2.2.2.2.2] 27) = W6 := ⟨_, rfl⟩
      have hb56 : Below n5 w5 W6 := by rw [← hW6, ← hn5]; exact ext_alloc (Below.refl _ _)
      have hr6 : W6.heap[n5]? = some (.cells #[.int .i64 X.1.1, .int .i64 X.1.2.1, .slice A5 X.1.2.2.length c5, .slice P5 X.2.1.length pc5, .int .i64 X.2.2.1, .slice F5 X.2.2.2.1.length fc5, .int .i64 X.2.2.2.2.1, .bool X.2.2.2.2.2] 27 (0, 0)) := by rw [← hW6, ← hn5]; exact heap_alloc_new _ _
      have hb46 : Below W4.heap.size W4 W6 := hb5.trans (hb56.mono (by omega))
      have hV5 := hv5'.fwd (w' := W6) (by rw [hn5]; exact hb56)
      have hM5 := hmt3'.fwd (w' := W6) (by rw [hn5]; exact hb56)
      have hb36 : Below n3 w3 W6 := HB34.out.trans (hb46.mono (by omega))
      obtain ⟨hV4, hM4⟩ := HV3.out W6 (by rw [HN3.out]; exact hb36)
      have HSM := Lib.hid (fun W (hb : Below W6.heap.size W6 W) => sameWk_true X _ _ W (hV4.fwd hb) (hV5.fwd hb))
      have HSL := Lib.hid (fun W (hb : Below W6.heap.size W6 W) => sameMsgs_true B3 B5 bc3 bc5 M.length M W rfl (hM4.fwd hb) (hM5.fwd hb) (by omega))
      have hr46 := (hb46.block n3 hz4).trans HR4.out
      have hz6 : n5 < W6.heap.size := by rw [← hW6, ← hn5]; simp
      have hz36 : n3 < W6.heap.size := by have := hb46.size; omega
      have HB06 : Hid (Below n1 W0 W6) := hb04.trans (hb46.mono (by have := hb04.size; omega))
      have HROWS : Hid (∀ W, Below W6.heap.size W6 W → ((_ ∧ _) ∧ _)) := fun W hb => And.intro (And.intro (blk8 ((hb.block n3 hz36).trans hr46)) (blk8 ((hb.block n5 hz6).trans hr6))) (blk8 (HALL.out W (HB06.out.trans (hb.mono (by have := HB06.out.size; omega)))).1.2)
      have HW6 := Lib.hid hW6
      have hrr : (r == r) = true := by simp
      have hrr2 : (r2 == r2) = true := by simp
      clear hW6 hr6 hr46 hV5 hV4 hM4 hM5 hmt3 hmt3' hv5' hb56 hb5 hb36 HV3 HR4
      have HCC1 := Lib.hid (fun W (hb : Below W6.heap.size W6 W) => HC1.out W (HB06.out.trans (hb.mono (by have := HB06.out.size; omega))))
      have HCC2 := Lib.hid (fun W (hb : Below W6.heap.size W6 W) => HC2.out W (HB06.out.trans (hb.mono (by have := HB06.out.size; omega))))
      go_upto_region 5 with (fail)
      rw [HW6.out]
      clear hn5
      generalize (Value.tuple #[.agg #[.int .i64 X.1.1, .int .i64 X.1.2.1, .slice A3 X.1.2.2.length c3, .slice P3 X.2.1.length pc3, .int .i64 X.2.2.1, .slice F3 X.2.2.2.1.length fc3, .int .i64 X.2.2.2.2.1, .bool X.2.2.2.2.2], .slice B3 M.length bc3, .int .i64 r]) = VT3
      generalize (Value.tuple #[.agg #[.int .i64 X.1.1, .int .i64 X.1.2.1, .slice A5 X.1.2.2.length c5, .slice P5 X.2.1.length pc5, .int .i64 X.2.2.1, .slice F5 X.2.2.2.1.length fc5, .int .i64 X.2.2.2.2.1, .bool X.2.2.2.2.2], .slice B5 M.length bc5, .int .i64 r]) = VT5
      generalize (Value.agg #[.int .i64 X.1.1, .int .i64 X.1.2.1, .slice A3 X.1.2.2.length c3, .slice P3 X.2.1.length pc3, .int .i64 X.2.2.1, .slice F3 X.2.2.2.1.length fc3, .int .i64 X.2.2.2.2.1, .bool X.2.2.2.2.2]) = VA3
      generalize (Value.agg #[.int .i64 X.1.1, .int .i64 X.1.2.1, .slice A5 X.1.2.2.length c5, .slice P5 X.2.1.length pc5, .int .i64 X.2.2.1, .slice F5 X.2.2.2.1.length fc5, .int .i64 X.2.2.2.2.1, .bool X.2.2.2.2.2]) = VA5
      generalize (Value.agg #[.int .i64 s1, .int .i64 lf1, .slice A1 l1.length c1, .slice P p.length pc, .int .i64 lv, .slice F f.length fc, .int .i64 sent, .bool done]) = VW
      generalize (Value.agg #[.int .i64 s, .int .i64 lf, .slice A l.length c]) = VTR
      have hSw : Below W6.heap.size W6 W6.drew := (Below.refl _ _).drew
      refine wp_region_U (fun W' => Below W6.heap.size W6 W') 24 (by kernel_rfl) ?_
      refine wpAnyU_takeD (i := 0) (v := ?_) rfl rfl (by kernel_rfl) (by kernel_rfl) (by kernel_rfl) (by kernel_rfl) (fun _ _ _ h => h) (by rfl) ?_ hSw ?_
      rotate_left 1
      · intro W9 hW9
        try dsimp only at hW9
        obtain ⟨⟨⟨p0, p1, p2, p3, p4, p5, p6, p7, _⟩, z0, z1, z2, z3, z4, z5, z6, z7, _⟩, t0, t1, t2, t3, t4, t5, t6, t7, _⟩ := HROWS.out W9 hW9
        go_simp
        try with_reducible rfl
      try simp only [List.setIfInBounds_toArray, List.set_cons_zero, List.set_cons_succ]
      obtain ⟨⟨⟨p0, p1, p2, p3, p4, p5, p6, p7, _⟩, z0, z1, z2, z3, z4, z5, z6, z7, _⟩, t0, t1, t2, t3, t4, t5, t6, t7, _⟩ := HROWS.out _ hSw
      refine wpAnyU_one (i := 1) (by kernel_rfl) rfl (fun K hK => ?_)
      go_simp
      refine hK.out _ _ (fun _ => hSw) ?_
      clear hK K
      try simp only [Act.put, List.setIfInBounds_toArray, List.set_cons_zero, List.set_cons_succ]
      clear p0 p1 p2 p3 p4 p5 p6 p7 z0 z1 z2 z3 z4 z5 z6 z7 t0 t1 t2 t3 t4 t5 t6 t7
      refine wpAnyU_op (i := 2) (by kernel_rfl) rfl rfl (fun K hK => ?_)
      go_wp2_with fail
      refine ((HSM.out _ hSw)).mono ?_
      rintro e w7 ⟨rfl, hb7'⟩; have hb7 : Below W6.heap.size W6 w7 := hSw.trans (hb7'.mono hSw.size)
      refine hK.out _ _ (fun _ => hb7) ?_
      clear hK K
      try simp only [Act.put, List.setIfInBounds_toArray, List.set_cons_zero, List.set_cons_succ]
      refine wpAnyU_one (i := 3) (by kernel_rfl) rfl (fun K hK => ?_)
      go_simp
      refine hK.out _ _ (fun _ => hb7) ?_
      clear hK K
      try simp only [Act.put, List.setIfInBounds_toArray, List.set_cons_zero, List.set_cons_succ]
      clear hSw
      have hSw := hb7
      refine wpAnyU_takeD (i := 4) (v := ?_) rfl rfl (by kernel_rfl) (by kernel_rfl) (by kernel_rfl) (by kernel_rfl) (fun _ _ _ h => h) (by rfl) ?_ hSw ?_
      rotate_left 1
      · intro W9 hW9
        try dsimp only at hW9
        obtain _ := True.intro
        go_simp
        try with_reducible rfl
      try simp only [List.setIfInBounds_toArray, List.set_cons_zero, List.set_cons_succ]
      refine wpAnyU_one (i := 5) (by kernel_rfl) rfl (fun K hK => ?_)
      go_simp
      refine hK.out _ _ (fun _ => hb7) ?_
      clear hK K
      try simp only [Act.put, List.setIfInBounds_toArray, List.set_cons_zero, List.set_cons_succ]
      refine wpAnyU_opW (i := 6) (by kernel_rfl) rfl (by rfl) (fun K hK => ?_)
      go_wp2_with fail
      refine ((HSL.out _ hb7)).mono ?_
      rintro e w8 ⟨rfl, hb8'⟩; have hb8 : Below W6.heap.size W6 w8 := hb7.trans (hb8'.mono hb7.size)
      refine hK.out _ _ (fun _ => hb8) ?_
      clear hK K
      try simp only [Act.put, List.setIfInBounds_toArray, List.set_cons_zero, List.set_cons_succ]
      clear hSw
      have hSw := hb8
      refine wpAnyU_one (i := 7) (by kernel_rfl) rfl (fun K hK => ?_)
      go_simp
      refine hK.out _ _ (fun _ => hb8) ?_
      clear hK K
      try simp only [Act.put, List.setIfInBounds_toArray, List.set_cons_zero, List.set_cons_succ]
      refine wpAnyU_one (i := 8) (by kernel_rfl) rfl (fun K hK => ?_)
      go_simp
      refine hK.out _ _ (fun _ => hb8) ?_
      clear hK K
      try simp only [Act.put, List.setIfInBounds_toArray, List.set_cons_zero, List.set_cons_succ]
      refine wpAnyU_takeD (i := 9) (v := ?_) rfl rfl (by kernel_rfl) (by kernel_rfl) (by kernel_rfl) (by kernel_rfl) (fun _ _ _ h => h) (by rfl) ?_ hSw ?_
      rotate_left 1
      · intro W9 hW9
        try dsimp only at hW9
        obtain _ := True.intro
        go_simp
        try with_reducible rfl
      try simp only [List.setIfInBounds_toArray, List.set_cons_zero, List.set_cons_succ]
      refine wpAnyU_one (i := 10) (by kernel_rfl) rfl (fun K hK => ?_)
      go_simp
      refine hK.out _ _ (fun _ => hb8) ?_
      clear hK K
      try simp only [Act.put, List.setIfInBounds_toArray, List.set_cons_zero, List.set_cons_succ]
      refine wpAnyU_one (i := 11) (by kernel_rfl) rfl (fun K hK => ?_)
      go_simp
      refine hK.out _ _ (fun _ => hb8) ?_
      clear hK K
      try simp only [Act.put, List.setIfInBounds_toArray, List.set_cons_zero, List.set_cons_succ]
      refine wpAnyU_one (i := 12) (by kernel_rfl) rfl (fun K hK => ?_)
      go_simp
      refine hK.out _ _ (fun _ => hb8) ?_
      clear hK K
      try simp only [Act.put, List.setIfInBounds_toArray, List.set_cons_zero, List.set_cons_succ]
      refine wpAnyU_one (i := 13) (by kernel_rfl) rfl (fun K hK => ?_)
      go_simp
      refine hK.out _ _ (fun _ => hb8) ?_
      clear hK K
      try simp only [Act.put, List.setIfInBounds_toArray, List.set_cons_zero, List.set_cons_succ]
      refine wpAnyU_takeD (i := 14) (v := ?_) rfl rfl (by kernel_rfl) (by kernel_rfl) (by kernel_rfl) (by kernel_rfl) (fun _ _ _ h => h) (by rfl) ?_ hSw ?_
      rotate_left 1
      · intro W9 hW9
        try dsimp only at hW9
        obtain ⟨⟨⟨p0, p1, p2, p3, p4, p5, p6, p7, _⟩, z0, z1, z2, z3, z4, z5, z6, z7, _⟩, t0, t1, t2, t3, t4, t5, t6, t7, _⟩ := HROWS.out W9 hW9
        go_simp
        try with_reducible rfl
      try simp only [List.setIfInBounds_toArray, List.set_cons_zero, List.set_cons_succ]
      refine wpAnyU_takeD (i := 16) (v := ?_) rfl rfl (by kernel_rfl) (by kernel_rfl) (by kernel_rfl) (by kernel_rfl) (fun _ _ _ h => h) (by rfl) ?_ hSw ?_
      rotate_left 1
      · intro W9 hW9
        try dsimp only at hW9
        obtain ⟨⟨⟨p0, p1, p2, p3, p4, p5, p6, p7, _⟩, z0, z1, z2, z3, z4, z5, z6, z7, _⟩, t0, t1, t2, t3, t4, t5, t6, t7, _⟩ := HROWS.out W9 hW9
        go_simp
        try with_reducible rfl
      try simp only [List.setIfInBounds_toArray, List.set_cons_zero, List.set_cons_succ]
      refine wpAnyU_opW (i := 15) (by kernel_rfl) rfl (by rfl) (fun K hK => ?_)
      go_wp2_with fail
      refine ((HCC1.out _ hb8)).mono ?_
      rintro e w9 ⟨rfl, hb9'⟩; have hb9 : Below W6.heap.size W6 w9 := hb8.trans (hb9'.mono hb8.size)
      refine hK.out _ _ (fun _ => hb9) ?_
      clear hK K
      try simp only [Act.put, List.setIfInBounds_toArray, List.set_cons_zero, List.set_cons_succ]
      refine wpAnyU_opW (i := 17) (by kernel_rfl) rfl (by rfl) (fun K hK => ?_)
      go_wp2_with fail
      refine ((HCC2.out _ hb9)).mono ?_
      rintro e w10 ⟨rfl, hb10'⟩; have hb10 : Below W6.heap.size W6 w10 := hb9.trans (hb10'.mono hb9.size)
      refine hK.out _ _ (fun _ => hb10) ?_
      clear hK K
      try simp only [Act.put, List.setIfInBounds_toArray, List.set_cons_zero, List.set_cons_succ]
      refine wpAnyU_one (i := 18) (by kernel_rfl) rfl (fun K hK => ?_)
      go_simp
      refine hK.out _ _ (fun _ => hb10) ?_
      clear hK K
      try simp only [Act.put, List.setIfInBounds_toArray, List.set_cons_zero, List.set_cons_succ]
      refine wpAnyU_one (i := 19) (by kernel_rfl) rfl (fun K hK => ?_)
      go_simp
      refine hK.out _ _ (fun _ => hb10) ?_
      clear hK K
      try simp only [Act.put, List.setIfInBounds_toArray, List.set_cons_zero, List.set_cons_succ]
      refine wpAnyU_one (i := 20) (by kernel_rfl) rfl (fun K hK => ?_)
      go_simp
      refine hK.out _ _ (fun _ => hb10) ?_
      clear hK K
      try simp only [Act.put, List.setIfInBounds_toArray, List.set_cons_zero, List.set_cons_succ]
      refine wpAnyU_opW (i := 21) (by kernel_rfl) rfl (by rfl) (fun K hK => ?_)
      go_wp2_with fail
      refine ((awake44_any w10)).mono ?_
      rintro e wz ⟨rfl, hbz⟩; have hbz2 : Below W6.heap.size W6 wz := (hb10).trans (hbz.mono (hb10).size)
      refine hK.out _ _ (fun _ => hbz2) ?_
      clear hK K
      try simp only [Act.put, List.setIfInBounds_toArray, List.set_cons_zero, List.set_cons_succ]
      refine wpAnyU_one (i := 22) (by kernel_rfl) rfl (fun K hK => ?_)
      go_simp
      refine hK.out _ _ (fun _ => hbz2) ?_
      clear hK K
      try simp only [Act.put, List.setIfInBounds_toArray, List.set_cons_zero, List.set_cons_succ]
      refine wpAnyU_one (i := 23) (by kernel_rfl) rfl (fun K hK => ?_)
      go_simp
      refine hK.out _ _ (fun _ => hbz2) ?_
      clear hK K
      try simp only [Act.put, List.setIfInBounds_toArray, List.set_cons_zero, List.set_cons_succ]
      refine wpAnyU_done (by kernel_rfl) ?_ _
      have hb0z : Below n1 W0 wz := HB06.out.trans (hbz2.mono (by have := HB06.out.size; omega))
      go_wp2_with fail
      go_ret
      exact ⟨by first | trivial | rfl | simp, (HALL.out wz hb0z).2⟩
end Go.Proofs.Ytjehedfdikdfpaa
