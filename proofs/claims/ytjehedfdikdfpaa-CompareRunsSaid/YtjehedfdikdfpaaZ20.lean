/-
  ref44.Run: the walk.; The reference's Bound: the walk.; The law CompareRuns: the walk.; Arguments that are arrays, read as lists. No program in sight.
-/
import Derived.Test.YtjehedfdikdfpaaZ01
import Derived.Test.YtjehedfdikdfpaaZ02
import Derived.Test.YtjehedfdikdfpaaZ06
import Derived.Test.YtjehedfdikdfpaaZ08
import Derived.Test.YtjehedfdikdfpaaZ12
import Derived.Test.YtjehedfdikdfpaaZ14
import Derived.Test.YtjehedfdikdfpaaZ15
import Derived.Test.YtjehedfdikdfpaaZ18
set_option linter.unusedVariables false
set_option linter.unusedSimpArgs false
set_option linter.unusedSectionVars false
set_option linter.unnecessarySimpa false
namespace Go.Proofs.Ytjehedfdikdfpaa
open Go.RowKit Go.Shelf
attribute [local go_sem] Oper.semAt_some

set_option maxHeartbeats 8000000 in
set_option maxRecDepth 100000 in
theorem refRun_any (s lf s2 lf2 : Int) (A A2 : Option Addr) (c c2 n n2 : Nat) (l l2 : List (List Int)) (w : World) (hn : l.length = n) (hn2 : l2.length = n2) (h1 : SlAt (encSl encU64) w (Bl w.heap.size) A l) (h2 : SlAt (encSl encU64) w (Bl w.heap.size) A2 l2) (hs : n ≤ 100000) (hs2 : n2 ≤ 100000) (hc : n ≤ c ∧ c ≤ maxLen) (hc2 : n2 ≤ c2 ∧ c2 ≤ maxLen) (hI : I64 s ∧ I64 lf) (hI2 : I64 s2 ∧ I64 lf2) (hlv : ∀ row ∈ l, row.length ≤ 1000000) :
    Calls Try.prog 27 #[.agg #[.int .i64 s, .int .i64 lf, .slice A n c], .agg #[.int .i64 s2, .int .i64 lf2, .slice A2 n2 c2]] w (RetRun (difT (s, lf, l) (s2, lf2, l2)) (sentT (s, lf, l) (s2, lf2, l2)) (difErr (s, lf, l) (s2, lf2, l2)) w) := by
  subst hn hn2
  obtain ⟨n0, hn0⟩ : ∃ n0, w.heap.size = n0 := ⟨_, rfl⟩
  obtain ⟨W0, hW0⟩ : ∃ W0, (w.alloc (.cells #[.int .i64 s, .int .i64 lf, .slice A l.length c] 24)).alloc (.cells #[.int .i64 s2, .int .i64 lf2, .slice A2 l2.length c2] 24) = W0 := ⟨_, rfl⟩
  have hB0 : Below n0 w W0 := by rw [← hW0, ← hn0]; exact ext_alloc (ext_alloc (Below.refl _ _))
  have hs0 : W0.heap.size = n0 + 2 := by rw [← hW0, ← hn0]; simp
  have hr0 : W0.heap[n0]? = some (.cells #[.int .i64 s, .int .i64 lf, .slice A l.length c] 24 (0, 0)) := by
    rw [← hW0, ← hn0]; exact (Below.heap_alloc _ _ _ (by simp)).trans (heap_alloc_new _ _)
  have hr1 : W0.heap[n0 + 1]? = some (.cells #[.int .i64 s2, .int .i64 lf2, .slice A2 l2.length c2] 24 (0, 0)) := by
    rw [← hW0, ← hn0]; exact heap_new2 _ _ _
  obtain ⟨n3, hn3⟩ : ∃ n3, W0.heap.size = n3 := ⟨_, rfl⟩
  have hn03 : n0 + 2 ≤ n3 := by omega
  have HT : Hid (∀ W, Below n3 W0 W → (W.cell? ⟨n0, 0, none⟩ = some (.int .i64 s) ∧ W.cell? ⟨n0, 1, none⟩ = some (.int .i64 lf) ∧ W.cell? ⟨n0, 2, none⟩ = some (.slice A l.length c)) ∧ W.cell? ⟨n0 + 1, 0, none⟩ = some (.int .i64 s2) ∧ W.cell? ⟨n0 + 1, 1, none⟩ = some (.int .i64 lf2) ∧ W.cell? ⟨n0 + 1, 2, none⟩ = some (.slice A2 l2.length c2)) := fun W hb => by
    obtain ⟨a0, a1, a2, _⟩ := blk3 ((hb.block n0 (by omega)).trans hr0)
    obtain ⟨b0, b1, b2, _⟩ := blk3 ((hb.block (n0 + 1) (by omega)).trans hr1)
    exact ⟨⟨a0, a1, a2⟩, b0, b1, b2⟩
  have up : ∀ {α : Type} {E : Enc α} {A : Option Addr} {l : List α}, SlAt E w (Bl w.heap.size) A l → ∀ W, Below n3 W0 W → SlAt E W (Bl W.heap.size) A l := fun h W hb => by
    rw [hn0] at h
    exact (h.blk (fun g hg => (hb.block g (by have : g < n0 := hg; omega)).trans (hB0.block g hg))).more (fun g hg => by have : g < n0 := hg; have := hb.size; show g < W.heap.size; omega)
  have H1 := Lib.hid (up h1)
  have H2 := Lib.hid (up h2)
  have HB0 : Hid (Below w.heap.size w W0) := by rw [hn0]; exact hB0
  have HBE := Lib.hid (refBegin44_any (Bl W0.heap.size) s lf A c l.length l W0 rfl (fun _ h => h) (H1.out W0 (Below.refl _ _)) hs hc hI)
  obtain ⟨xa, hxa⟩ : ∃ x, checkT (s, lf, l) = x := ⟨_, rfl⟩
  obtain ⟨xb, hxb⟩ : ∃ x, checkT (s2, lf2, l2) = x := ⟨_, rfl⟩
  have HCB := Lib.hid (fun W (hb : Below n3 W0 W) => ref11Check_any s2 lf2 A2 c2 l2.length l2 xb W rfl hxb (H2.out W hb) hs2 hc2 hI2)
  have HXA := Lib.hid hxa
  have HXB := Lib.hid hxb
  have HZ : Hid (∀ q, (q ≠ 0 ∧ difErr (s, lf, l) (s2, lf2, l2) = q) → difT (s, lf, l) (s2, lf2, l2) = [] ∧ sentT (s, lf, l) (s2, lf2, l2) = 0 ∧ difErr (s, lf, l) (s2, lf2, l2) = q) := fun q h => ⟨by unfold difT; rw [if_neg (by rw [h.2]; exact h.1)], by unfold sentT; rw [if_neg (by rw [h.2]; exact h.1)], h.2⟩
  obtain ⟨⟨p0, p1, p2⟩, p3, p4, p5⟩ := HT.out W0 (Below.refl _ _)
  have HN0 := Lib.hid hn0
  clear h1 h2 hr0 hr1 hs0 up hB0
  rw [hxa] at HBE
  clear hxa hxb
  go_enter Try.func27, Try.ntmps27
  go_wp2_with fail
  refine HBE.out.mono ?_
  rintro e w1 ⟨v1, B1, bc1, rfl, ⟨A9, c9, P9, pc9, F9, fc9, rfl, ⟨va1, va2, va3⟩, ⟨vb1, vb2, vb3⟩, ⟨vc1, vc2, vc3⟩, vi⟩, hm1, hm2, hms, hb1⟩
  have hz01 := hb1.size
  replace va3 := va3.more (S' := Bl w1.heap.size) (fun g hg => hg.elim (fun h => Nat.lt_of_lt_of_le h hz01) (fun h => h.2))
  replace vb3 := vb3.more (S' := Bl w1.heap.size) (fun g hg => hg.elim (fun h => Nat.lt_of_lt_of_le h hz01) (fun h => h.2))
  replace vc3 := vc3.more (S' := Bl w1.heap.size) (fun g hg => hg.elim (fun h => Nat.lt_of_lt_of_le h hz01) (fun h => h.2))
  replace hms := hms.more (S' := Bl w1.heap.size) (fun g hg => hg.2)
  rw [hn3] at hb1
  clear p0 p1 p2 p3 p4 p5 hW0
  obtain ⟨n7, hn7⟩ : ∃ n7, w1.heap.size = n7 := ⟨_, rfl⟩
  by_cases hx0 : xa = 0
  · subst hx0
    have hbw : begW (s, lf, l) = ((s, lf, l), [(0, 1)], (l.length : Int) - 1, [], 0, false) := by unfold begW; rw [if_pos HXA.out]
    have hbm : begM (s, lf, l) = [reqMsg (begW (s, lf, l))] := by unfold begM; rw [if_pos HXA.out]
    rw [hbm] at hms hm1 ⊢
    rw [hbw] at va1 va3 vb1 vb3 vc1 vc3 vi hms ⊢
    simp only at va1 va3 vb1 vb3 vc1 vc3 vi
    have hz1 := hb1.size
    obtain ⟨W2, hW2⟩ : ∃ W2, w1.alloc (.cells #[.int .i64 s, .int .i64 lf, .slice A9 l.length c9, .slice P9 1 pc9, .int .i64 ((l.length : Int) - 1), .slice F9 0 fc9, .int .i64 0, .bool false] 27) = W2 := ⟨_, rfl⟩
    have hb2 : Below n7 w1 W2 := by rw [← hW2, ← hn7]; exact ext_alloc (Below.refl _ _)
    have hb02 : Below n3 W0 W2 := hb1.trans (hb2.mono (by omega))
    have hr2 : W2.heap[n7]? = some (.cells #[.int .i64 s, .int .i64 lf, .slice A9 l.length c9, .slice P9 1 pc9, .int .i64 ((l.length : Int) - 1), .slice F9 0 fc9, .int .i64 0, .bool false] 27 (0, 0)) := by rw [← hW2, ← hn7]; exact heap_alloc_new _ _
    have hz2 : W2.heap.size = n7 + 1 := by rw [← hW2, ← hn7]; simp
    obtain ⟨ms0, hms0⟩ : ∃ ms0, Value.slice B1 1 bc1 = ms0 := ⟨_, rfl⟩
    have HCB2 := Lib.hid (HCB.out W2 hb02)
    have HW2 := Lib.hid hW2
    clear hW2
    go_upto_region 2 with (fail)
    rw [HW2.out]
    obtain ⟨⟨p0, p1, p2⟩, p3, p4, p5⟩ := HT.out W2 hb02
    go_wp2_with fail
    refine HCB2.out.mono ?_
    rintro e w3 ⟨rfl, hb3⟩
    rw [hz2] at hb3
    have hb03 : Below n3 W0 w3 := hb02.trans (hb3.mono (by omega))
    clear p0 p1 p2 p3 p4 p5
    obtain ⟨⟨p0, p1, p2⟩, p3, p4, p5⟩ := HT.out w3 hb03
    by_cases hy0 : xb = 0
    · subst hy0
      by_cases g1 : s = s2
      · by_cases g2 : lf = lf2
        · subst g1 g2
          have hu : ∀ {A : Option Addr} {l : List (List Int)}, SlAt (encSl encU64) W0 (Bl W0.heap.size) A l → ∀ row ∈ l, ∀ x ∈ row, 0 ≤ x ∧ x < 18446744073709551616 := fun hh row hr x hx => by
            obtain ⟨k, hk, rfl⟩ := List.mem_iff_getElem.1 hr
            obtain ⟨j, hj, rfl⟩ := List.mem_iff_getElem.1 hx
            obtain ⟨_, _, _, _, _, _, _, hD, _, _⟩ := hh.sl hk
            obtain ⟨_, _, _, _, _, h0, h1⟩ := hD.u64 hj
            exact ⟨h0, h1⟩
          have HU1 := Lib.hid (hu (H1.out W0 (Below.refl _ _)))
          have HU2 := Lib.hid (hu (H2.out W0 (Below.refl _ _)))
          clear hu
          obtain ⟨n', m', rfl, rfl, tk⟩ := checkT_TOk HXA.out
          obtain ⟨n2', m2', e1, e2, tk2⟩ := checkT_TOk HXB.out
          obtain rfl : n2' = n' := by omega
          obtain rfl : m2' = m' := by omega
          clear e1 e2
          have hdE : difErr ((n2' : Int), (m2' : Int), l) ((n2' : Int), (m2' : Int), l2) = 0 := by unfold difErr; rw [if_neg (by rw [HXA.out]; simp), if_neg (by rw [HXB.out]; simp), if_neg (by simp)]
          have HDE := Lib.hid hdE
          obtain ⟨fin, hfin⟩ : ∃ fin, runW ((n2' : Int), (m2' : Int), l) l2 (l.length - 1) [0] 0 = fin := ⟨_, rfl⟩
          have HFIN := Lib.hid hfin
          have hne0 := tk.ne
          have hlen13 := tk.len
          have HRI : Hid (RunI n2' m2' l l2 fin (((n2' : Int), (m2' : Int), l), [(0, 1)], (l.length : Int) - 1, [], 0, false) [reqMsg (((n2' : Int), (m2' : Int), l), [(0, 1)], (l.length : Int) - 1, [], 0, false)]) := by
            have hst : stW ((n2' : Int), (m2' : Int), l) (l.length - 1) [0] 0 = (((n2' : Int), (m2' : Int), l), [(0, 1)], (l.length : Int) - 1, [], 0, false) := by
              unfold stW
              have : ((l.length - 1 : Nat) : Int) = (l.length : Int) - 1 := by omega
              rw [this]; rfl
            refine Or.inl ⟨l.length - 1, [0], 0, hst.symm, rfl, by omega, List.pairwise_singleton .., fun i hi => ?_, by simp, ?_, hfin⟩
            · rw [List.mem_singleton] at hi; have := (tk.at_ (l.length - 1) (by omega)).2.2.1; omega
            · have h1 := sent_nodes tk tk2
              have h2 := runs_len tk
              omega
          have HBX : Hid (WkBox w3 n7 (((n2' : Int), (m2' : Int), l), [(0, 1)], (l.length : Int) - 1, [], 0, false)) := by
            refine WkBox.grow (W := W2) ⟨_, _, _, _, _, _, _, _, hr2, ⟨A9, c9, P9, pc9, F9, fc9, rfl, ⟨va1, va2, (va3.blk (fun g hg => hb2.block g (by have : g < w1.heap.size := hg; omega))).more (fun g hg => ?_)⟩, ⟨vb1, vb2, (vb3.blk (fun g hg => hb2.block g (by have : g < w1.heap.size := hg; omega))).more (fun g hg => ?_)⟩, ⟨vc1, vc2, (vc3.blk (fun g hg => hb2.block g (by have : g < w1.heap.size := hg; omega))).more (fun g hg => ?_)⟩, vi⟩⟩ (by rw [hz2]; exact hb3)
            all_goals (have : g < w1.heap.size := hg; exact ⟨by omega, by omega⟩)
          have HMS : Hid (SlAt encMsg w3 (fun g => g < w3.heap.size ∧ g ≠ n7) B1 [reqMsg (((n2' : Int), (m2' : Int), l), [(0, 1)], (l.length : Int) - 1, [], 0, false)]) :=
            (hms.blk (fun g hg => (hb3.block g (by have : g < w1.heap.size := hg; omega)).trans (hb2.block g (by have : g < w1.heap.size := hg; omega)))).more (fun g hg => by have : g < w1.heap.size := hg; have := hb3.size; exact ⟨by omega, by omega⟩)
          clear hdE hfin va1 va2 va3 vb1 vb2 vb3 vc1 vc2 vc3 vi hms hr2
          go_wp2_with fail
          go_loopw [8] (fun v wr => ∃ (x : Wk) (ms : List Msg) (B : Option Addr) (bc : Nat), v = .slice B ms.length bc ∧ Hid (WkBox wr n7 x) ∧ Hid (SlAt encMsg wr (fun g => g < wr.heap.size ∧ g ≠ n7) B ms) ∧ Hid (Below n7 w3 wr) ∧ Hid (RunI n2' m2' l l2 fin x ms)) (fun v wr => runMeas n7 v wr)
          case atStart => exact ⟨(((n2' : Int), (m2' : Int), l), [(0, 1)], (l.length : Int) - 1, [], 0, false), [reqMsg (((n2' : Int), (m2' : Int), l), [(0, 1)], (l.length : Int) - 1, [], 0, false)], B1, bc1, hms0.symm, HBX.out, HMS.out, Below.refl _ _, HRI.out⟩
          case round =>
            clear HBX HMS HRI
            obtain ⟨wo, rfl⟩ : ∃ wo : World, wo = wr := ⟨_, rfl⟩
            obtain ⟨x, ms, B, bc, rfl, hbx, hms, hB, hri⟩ := hrel
            rcases hri.out with ⟨k, v, st, rfl, rfl, hk, hv, hvb, hvne, hst, hrun⟩ | ⟨rfl, rfl⟩
            · obtain ⟨bm, om, cs, rfl, hbm, hcs, V5, vc5, Bd5, bc5, rfl, _, ⟨x1, x2, x3⟩, x4, x5, x6⟩ := hms.out.at_ (k := 0) (by simp)
              obtain ⟨hA0, hAV⟩ := ans_ok (s := st) HXB.out tk tk2 hk hv hvb
              obtain ⟨q, hq⟩ : ∃ q, reqL (n2' : Int) (m2' : Int) (joinN v) = q := ⟨_, rfl⟩
              have hrq : reqMsg (stW ((n2' : Int), (m2' : Int), l) k v st) = (13, 0, 0, (k : Int), 0, 0, q, []) := by rw [← hq]; rfl
              have hql : q.length ≤ 100000 := by
                have h1 := joinN_len v
                have h2 : v.length ≤ 8192 := by
                  have : v.length ≤ sentN l l2 k v := by cases k <;> (unfold sentN; omega)
                  omega
                rw [← hq, reqL_len]; omega
              simp only [List.getElem_cons_zero, hrq] at hcs x1 x3 x4 x6 hA0 hAV
              have HAR := Lib.hid (fun W (hb : Below n3 W0 W) (h5 : SlAt encInt W (Bl W.heap.size) V5 q) => refAnswer_any (n2' : Int) (m2' : Int) 13 0 0 (k : Int) 0 0 A2 V5 Bd5 c2 l2.length q.length vc5 0 bc5 l2 q [] W rfl rfl rfl (H2.out W hb) h5 hs2 hc2 hql ⟨x1, x2⟩ hI2 ⟨i64_small 0 (by omega), i64_small 0 (by omega), i64_small _ (by omega)⟩)
              rw [hA0, hAV] at HAR
              have hX3 := Lib.hid x3
              have c0 := hcs 0 _ rfl
              have c1 := hcs 1 _ rfl
              have c2' := hcs 2 _ rfl
              have c3 := hcs 3 _ rfl
              have c4 := hcs 4 _ rfl
              have c5 := hcs 5 _ rfl
              have c6 := hcs 6 _ rfl
              have c7 := hcs 7 _ rfl
              simp only [show encMsg.size = 8 from rfl, Nat.zero_mul, Nat.add_zero] at c0 c1 c2' c3 c4 c5 c6 c7
              clear hcs x3 x6
              obtain ⟨n10, hn10⟩ : ∃ n10, wo.heap.size = n10 := ⟨_, rfl⟩
              have hb0o : Below n3 W0 wo := hb03.trans (hB.out.mono (by omega))
              have hml : ([reqMsg (stW ((n2' : Int), (m2' : Int), l) k v st)]).length = 1 := rfl
              have hbm' : bm < n10 := by rw [← hn10]; exact hbm.1
              have hz0o := hb0o.size
              have HC : Hid (∀ W, Below n10 wo W → ((W.cell? ⟨n0 + 1, 0, none⟩ = some (.int .i64 (n2' : Int)) ∧ W.cell? ⟨n0 + 1, 1, none⟩ = some (.int .i64 (m2' : Int)) ∧ W.cell? ⟨n0 + 1, 2, none⟩ = some (.slice A2 l2.length c2)) ∧ (W.cell? ⟨bm, om, none⟩ = some (.int .i64 13) ∧ W.cell? ⟨bm, om + 1, none⟩ = some (.int .i64 0) ∧ W.cell? ⟨bm, om + 2, none⟩ = some (.int .i64 0) ∧ W.cell? ⟨bm, om + 3, none⟩ = some (.int .i64 (k : Int))) ∧
                  W.cell? ⟨bm, om + 4, none⟩ = some (.int .i64 0) ∧ W.cell? ⟨bm, om + 5, none⟩ = some (.int .i64 0) ∧ W.cell? ⟨bm, om + 6, none⟩ = some (.slice V5 q.length vc5) ∧ W.cell? ⟨bm, om + 7, none⟩ = some (.slice Bd5 0 bc5))) := fun W hb => by
                have hg : ∀ g i, g < n10 → W.cell? ⟨g, i, none⟩ = wo.cell? ⟨g, i, none⟩ := fun g i h => World.cell?_of_block (hb.block g h)
                obtain ⟨_, p3, p4, p5⟩ := HT.out wo hb0o
                have hn0x : n0 + 1 < n10 := by omega
                exact ⟨⟨(hg _ _ hn0x).trans p3, (hg _ _ hn0x).trans p4, (hg _ _ hn0x).trans p5⟩, ⟨(hg _ _ hbm').trans c0, (hg _ _ hbm').trans c1, (hg _ _ hbm').trans c2', (hg _ _ hbm').trans c3⟩, (hg _ _ hbm').trans c4, (hg _ _ hbm').trans c5, (hg _ _ hbm').trans c6, (hg _ _ hbm').trans c7⟩
              clear c0 c1 c2' c3 c4 c5 c6 c7
              obtain ⟨ma, hma⟩ : ∃ ma, ansM ((n2' : Int), (m2' : Int), l) l2 k v = ma := ⟨_, rfl⟩
              rw [hma] at HAR
              have HMA := Lib.hid hma
              have HX5 : Hid (∀ W, Below n10 wo W → SlAt encInt W (Bl W.heap.size) V5 q) := fun W hb => (hX3.out.blk (fun g hg => hb.block g (by rw [← hn10]; exact hg.1))).more (fun g hg => by have := hb.size; have := hg.1; show g < W.heap.size; omega)
              have HARR : Hid (∀ W, Below n10 wo W → Calls Try.prog 22 _ W _) := fun W hb => HAR.out W (hb0o.trans (hb.mono (by omega))) (HX5.out W hb)
              have hSw : Below n10 wo wo.drew := (Below.refl _ _).drew
              have hzd : wo.drew.heap.size = n10 := hn10
              have HN10 := Lib.hid hn10
              clear hma hn10 HAR
              go_upto_region 10 with (fail)
              go_cut [11, 12] (fun e f wx => ∃ bx V6 vc6 B6 bc6, e = .pointer (some ⟨bx, 0, none⟩) ∧ f = .int .i64 0 ∧ n10 ≤ bx ∧ Hid (wx.heap[bx]? = some (.cells #[.int .i64 ma.1, .int .i64 ma.2.1, .int .i64 ma.2.2.1, .int .i64 ma.2.2.2.1, .int .i64 ma.2.2.2.2.1, .int .i64 ma.2.2.2.2.2.1, .slice V6 ma.2.2.2.2.2.2.1.length vc6, .slice B6 ma.2.2.2.2.2.2.2.length bc6] 45 (0, 0))) ∧ Hid (Below n10 wo wx) ∧ (ma.2.2.2.2.2.2.1.length ≤ vc6 ∧ vc6 ≤ maxLen) ∧ Hid (SlAt encInt wx (Bl wx.heap.size) V6 ma.2.2.2.2.2.2.1) ∧ (ma.2.2.2.2.2.2.2.length ≤ bc6 ∧ bc6 ≤ maxLen) ∧ Hid (SlAt encU8 wx (Bl wx.heap.size) B6 ma.2.2.2.2.2.2.2))
              case first =>
                refine wp_region_U (fun W' => Below n10 wo W') 11 (by kernel_rfl) ?_
                refine wpAnyU_takeD (i := 0) (v := ?_) rfl rfl (by kernel_rfl) (by kernel_rfl) (by kernel_rfl) (by kernel_rfl) (fun _ _ _ h => h) (by rfl) ?_ hSw ?_
                rotate_left 1
                · intro W9 hW9
                  try dsimp only at hW9
                  obtain ⟨⟨p3, p4, p5⟩, ⟨c0, c1, c2', c3⟩, c4, c5, c6, c7⟩ := HC.out W9 hW9
                  go_simp
                  try with_reducible rfl
                try simp only [List.setIfInBounds_toArray, List.set_cons_zero, List.set_cons_succ]
                refine wpAnyU_takeD (i := 1) (v := ?_) rfl rfl (by kernel_rfl) (by kernel_rfl) (by kernel_rfl) (by kernel_rfl) (fun _ _ _ h => h) (by rfl) ?_ hSw ?_
                rotate_left 1
                · intro W9 hW9
                  try dsimp only at hW9
                  obtain ⟨⟨p3, p4, p5⟩, ⟨c0, c1, c2', c3⟩, c4, c5, c6, c7⟩ := HC.out W9 hW9
                  go_simp
                  try with_reducible rfl
                try simp only [List.setIfInBounds_toArray, List.set_cons_zero, List.set_cons_succ]
                refine wpAnyU_takeD (i := 2) (v := ?_) rfl rfl (by kernel_rfl) (by kernel_rfl) (by kernel_rfl) (by kernel_rfl) (fun _ _ _ h => h) (by rfl) ?_ hSw ?_
                rotate_left 1
                · intro W9 hW9
                  try dsimp only at hW9
                  obtain ⟨⟨p3, p4, p5⟩, ⟨c0, c1, c2', c3⟩, c4, c5, c6, c7⟩ := HC.out W9 hW9
                  go_simp
                  try with_reducible rfl
                try simp only [List.setIfInBounds_toArray, List.set_cons_zero, List.set_cons_succ]
                refine wpAnyU_takeD (i := 3) (v := ?_) rfl rfl (by kernel_rfl) (by kernel_rfl) (by kernel_rfl) (by kernel_rfl) (fun _ _ _ h => h) (by rfl) ?_ hSw ?_
                rotate_left 1
                · intro W9 hW9
                  try dsimp only at hW9
                  obtain ⟨⟨p3, p4, p5⟩, ⟨c0, c1, c2', c3⟩, c4, c5, c6, c7⟩ := HC.out W9 hW9
                  go_simp
                  try with_reducible rfl
                try simp only [List.setIfInBounds_toArray, List.set_cons_zero, List.set_cons_succ]
                refine wpAnyU_two (i := 4) (j := 8) (by kernel_rfl) rfl rfl rfl rfl (fun K hK => ?_) (fun K hK => ?_)
                · go_wp2_with fail
                  refine (HARR.out _ hSw).mono ?_
                  rintro e w6 ⟨v6, rfl, ⟨V6, vc6, B6, bc6, rfl, hi6, ⟨y1, y2, y3⟩, y4, y5, y6⟩, hb6'⟩
                  have hb6 : Below n10 wo w6 := hSw.trans (hb6'.mono (Nat.le_of_eq hzd.symm))
                  refine hK.out _ _ (fun _ => hb6) ?_
                  clear hK K
                  try simp only [Act.put, List.setIfInBounds_toArray, List.set_cons_zero, List.set_cons_succ]
                  have hz6 : n10 ≤ w6.heap.size := by have := hb6.size; have := HN10.out; omega
                  clear hSw
                  have hSw := hb6
                  refine wpAnyU_takeD (i := 5) (v := ?_) rfl rfl (by kernel_rfl) (by kernel_rfl) (by kernel_rfl) (by kernel_rfl) (fun _ _ _ h => h) (by rfl) ?_ hSw ?_
                  rotate_left 1
                  · intro W9 hW9
                    try dsimp only at hW9
                    obtain _ := True.intro
                    go_simp
                    try with_reducible rfl
                  try simp only [List.setIfInBounds_toArray, List.set_cons_zero, List.set_cons_succ]
                  refine wpAnyU_takeD (i := 6) (v := ?_) rfl rfl (by kernel_rfl) (by kernel_rfl) (by kernel_rfl) (by kernel_rfl) (fun _ _ _ h => h) (by rfl) ?_ hSw ?_
                  rotate_left 1
                  · intro W9 hW9
                    try dsimp only at hW9
                    obtain _ := True.intro
                    go_simp
                    try with_reducible rfl
                  try simp only [List.setIfInBounds_toArray, List.set_cons_zero, List.set_cons_succ]
                  refine wpAnyU_takeD (i := 7) (v := ?_) rfl rfl (by kernel_rfl) (by kernel_rfl) (by kernel_rfl) (by kernel_rfl) (fun _ _ _ h => h) (by rfl) ?_ hSw ?_
                  rotate_left 1
                  · intro W9 hW9
                    try dsimp only at hW9
                    obtain _ := True.intro
                    go_simp
                    try with_reducible rfl
                  try simp only [List.setIfInBounds_toArray, List.set_cons_zero, List.set_cons_succ]
                  have hal : Below n10 wo (w6.alloc (.cells #[.int .i64 0, .int .i64 0, .int .i64 0, .int .i64 0, .int .i64 0, .int .i64 0, .slice none 0 0, .slice none 0 0] 45)) := hb6.alloc hz6 _
                  have hrz := heap_alloc_new w6 (.cells #[.int .i64 0, .int .i64 0, .int .i64 0, .int .i64 0, .int .i64 0, .int .i64 0, .slice none 0 0, .slice none 0 0] 45)
                  have hoa : ∀ g, g < w6.heap.size → (w6.alloc (.cells #[.int .i64 0, .int .i64 0, .int .i64 0, .int .i64 0, .int .i64 0, .int .i64 0, .slice none 0 0, .slice none 0 0] 45)).heap[g]? = w6.heap[g]? := fun g hg => Below.heap_alloc _ _ _ hg
                  have hza : (w6.alloc (.cells #[.int .i64 0, .int .i64 0, .int .i64 0, .int .i64 0, .int .i64 0, .int .i64 0, .slice none 0 0, .slice none 0 0] 45)).heap.size = w6.heap.size + 1 := by simp
                  obtain ⟨n6, hn6⟩ : ∃ n6, w6.heap.size = n6 := ⟨_, rfl⟩
                  rw [hn6] at hz6 hrz hza
                  have hoa' : ∀ g, g < n6 → (w6.alloc (.cells #[.int .i64 0, .int .i64 0, .int .i64 0, .int .i64 0, .int .i64 0, .int .i64 0, .slice none 0 0, .slice none 0 0] 45)).heap[g]? = w6.heap[g]? := fun g hg => hoa g (by omega)
                  clear hoa
                  refine wpAnyU_op (i := 8) (by kernel_rfl) rfl rfl (fun K hK => ?_)
                  go_simp
                  refine hK.out _ _ (fun _ => hal) ?_
                  clear hK K
                  try simp only [Act.put, List.setIfInBounds_toArray, List.set_cons_zero, List.set_cons_succ]
                  try rw [hn6]
                  have HN6 := Lib.hid hn6
                  clear hn6
                  change wpAnyU _ _ _ _ _ _ _ _ _ (w6.alloc (.cells #[.int .i64 0, .int .i64 0, .int .i64 0, .int .i64 0, .int .i64 0, .int .i64 0, .slice none 0 0, .slice none 0 0] 45))
                  generalize w6.alloc (.cells #[.int .i64 0, .int .i64 0, .int .i64 0, .int .i64 0, .int .i64 0, .int .i64 0, .slice none 0 0, .slice none 0 0] 45) = Wz at hal hrz hoa' hza ⊢
                  obtain ⟨z0, z1, z2, z3, z4, z5, z6, z7, zf⟩ := blk8 hrz
                  refine wpAnyU_op (i := 9) (by kernel_rfl) rfl rfl (fun K hK => ?_)
                  go_simp
                  have hs9 : Below n10 wo (set8 Wz n6 (.int .i64 ma.1) (.int .i64 ma.2.1) (.int .i64 ma.2.2.1) (.int .i64 ma.2.2.2.1) (.int .i64 ma.2.2.2.2.1) (.int .i64 ma.2.2.2.2.2.1) (.slice V6 ma.2.2.2.2.2.2.1.length vc6) (.slice B6 ma.2.2.2.2.2.2.2.length bc6)) := set8_below hal hz6 _ _ _ _ _ _ _ _
                  have hr9 := set8_row hrz (.int .i64 ma.1) (.int .i64 ma.2.1) (.int .i64 ma.2.2.1) (.int .i64 ma.2.2.2.1) (.int .i64 ma.2.2.2.2.1) (.int .i64 ma.2.2.2.2.2.1) (.slice V6 ma.2.2.2.2.2.2.1.length vc6) (.slice B6 ma.2.2.2.2.2.2.2.length bc6)
                  have ho9 : ∀ g, g < n6 → (set8 Wz n6 (.int .i64 ma.1) (.int .i64 ma.2.1) (.int .i64 ma.2.2.1) (.int .i64 ma.2.2.2.1) (.int .i64 ma.2.2.2.2.1) (.int .i64 ma.2.2.2.2.2.1) (.slice V6 ma.2.2.2.2.2.2.1.length vc6) (.slice B6 ma.2.2.2.2.2.2.2.length bc6)).heap[g]? = w6.heap[g]? := fun g hg => (set8_other (by omega) _ _ _ _ _ _ _ _).trans (hoa' g hg)
                  have hz9 : (set8 Wz n6 (.int .i64 ma.1) (.int .i64 ma.2.1) (.int .i64 ma.2.2.1) (.int .i64 ma.2.2.2.1) (.int .i64 ma.2.2.2.2.1) (.int .i64 ma.2.2.2.2.2.1) (.slice V6 ma.2.2.2.2.2.2.1.length vc6) (.slice B6 ma.2.2.2.2.2.2.2.length bc6)).heap.size = n6 + 1 := by rw [set8_sz, hza]
                  refine hK.out _ _ (fun _ => hs9) ?_
                  clear hK K z0 z1 z2 z3 z4 z5 z6 z7 zf hrz hoa' hza hal
                  change wpAnyU _ _ _ _ _ _ _ _ _ (set8 Wz n6 (.int .i64 ma.1) (.int .i64 ma.2.1) (.int .i64 ma.2.2.1) (.int .i64 ma.2.2.2.1) (.int .i64 ma.2.2.2.2.1) (.int .i64 ma.2.2.2.2.2.1) (.slice V6 ma.2.2.2.2.2.2.1.length vc6) (.slice B6 ma.2.2.2.2.2.2.2.length bc6))
                  generalize set8 Wz n6 (.int .i64 ma.1) (.int .i64 ma.2.1) (.int .i64 ma.2.2.1) (.int .i64 ma.2.2.2.1) (.int .i64 ma.2.2.2.2.1) (.int .i64 ma.2.2.2.2.2.1) (.slice V6 ma.2.2.2.2.2.2.1.length vc6) (.slice B6 ma.2.2.2.2.2.2.2.length bc6) = W9 at hs9 hr9 ho9 hz9 ⊢
                  refine wpAnyU_op (i := 10) (by kernel_rfl) rfl rfl (fun K hK => ?_)
                  go_simp
                  refine hK.out _ _ (fun _ => hs9) ?_
                  clear hK K
                  try simp only [Act.put, List.setIfInBounds_toArray, List.set_cons_zero, List.set_cons_succ]
                  refine wpAnyU_done (by kernel_rfl) ?_ _
                  have hV := (y3.blk (w' := W9) (fun g hg => ho9 g (by have := hg.2; have := HN6.out; omega))).more (S' := Bl W9.heap.size) (fun g hg => by have := hg.2; have := HN6.out; show g < W9.heap.size; omega)
                  have hBb := (y6.blk (w' := W9) (fun g hg => ho9 g (by have := hg.2; have := HN6.out; omega))).more (S' := Bl W9.heap.size) (fun g hg => by have := hg.2; have := HN6.out; show g < W9.heap.size; omega)
                  go_wp2
                  go_meet
                  exact ⟨n6, V6, vc6, B6, bc6, rfl, rfl, hz6, hr9, hs9, ⟨y1, y2⟩, hV, ⟨y4, y5⟩, hBb⟩
                · have hal : Below n10 wo (wo.drew.alloc (.cells #[.int .i64 0, .int .i64 0, .int .i64 0, .int .i64 0, .int .i64 0, .int .i64 0, .slice none 0 0, .slice none 0 0] 45)) := hSw.alloc (by omega) _
                  go_simp
                  refine hK.out _ _ (fun _ => hal) ?_
                  clear hK K
                  try simp only [Act.put, List.setIfInBounds_toArray, List.set_cons_zero, List.set_cons_succ]
                  have hwz : wo.heap.size = n10 := HN10.out
                  try rw [hwz]
                  have hrz := heap_alloc_new wo.drew (.cells #[.int .i64 0, .int .i64 0, .int .i64 0, .int .i64 0, .int .i64 0, .int .i64 0, .slice none 0 0, .slice none 0 0] 45)
                  have hzz : (wo.drew.alloc (.cells #[.int .i64 0, .int .i64 0, .int .i64 0, .int .i64 0, .int .i64 0, .int .i64 0, .slice none 0 0, .slice none 0 0] 45)).heap.size = n10 + 1 := by rw [← hzd]; simp
                  rw [hzd] at hrz
                  change wpAnyU _ _ _ _ _ _ _ _ _ (wo.drew.alloc (.cells #[.int .i64 0, .int .i64 0, .int .i64 0, .int .i64 0, .int .i64 0, .int .i64 0, .slice none 0 0, .slice none 0 0] 45))
                  generalize wo.drew.alloc (.cells #[.int .i64 0, .int .i64 0, .int .i64 0, .int .i64 0, .int .i64 0, .int .i64 0, .slice none 0 0, .slice none 0 0] 45) = Wz at hal hrz hzz ⊢
                  refine wpAnyU_op (i := 4) (by kernel_rfl) rfl rfl (fun K hK => ?_)
                  go_wp2_with fail
                  refine (HARR.out _ hal).mono ?_
                  rintro e w6 ⟨v6, rfl, ⟨V6, vc6, B6, bc6, rfl, hi6, ⟨y1, y2, y3⟩, y4, y5, y6⟩, hb6'⟩
                  have hb6 : Below n10 wo w6 := hal.trans (hb6'.mono (by omega))
                  refine hK.out _ _ (fun _ => hb6) ?_
                  clear hK K
                  try simp only [Act.put, List.setIfInBounds_toArray, List.set_cons_zero, List.set_cons_succ]
                  have hz6 := hb6'.size
                  have hr6 := (hb6'.block n10 (by omega)).trans hrz
                  clear hSw
                  have hSw := hb6
                  refine wpAnyU_op (i := 5) (by kernel_rfl) rfl rfl (fun K hK => ?_)
                  go_simp
                  refine hK.out _ _ (fun _ => hb6) ?_
                  clear hK K
                  try simp only [Act.put, List.setIfInBounds_toArray, List.set_cons_zero, List.set_cons_succ]
                  refine wpAnyU_takeD (i := 6) (v := ?_) rfl rfl (by kernel_rfl) (by kernel_rfl) (by kernel_rfl) (by kernel_rfl) (fun _ _ _ h => h) (by rfl) ?_ hSw ?_
                  rotate_left 1
                  · intro W9 hW9
                    try dsimp only at hW9
                    obtain _ := True.intro
                    go_simp
                    try with_reducible rfl
                  try simp only [List.setIfInBounds_toArray, List.set_cons_zero, List.set_cons_succ]
                  refine wpAnyU_takeD (i := 7) (v := ?_) rfl rfl (by kernel_rfl) (by kernel_rfl) (by kernel_rfl) (by kernel_rfl) (fun _ _ _ h => h) (by rfl) ?_ hSw ?_
                  rotate_left 1
                  · intro W9 hW9
                    try dsimp only at hW9
                    obtain _ := True.intro
                    go_simp
                    try with_reducible rfl
                  try simp only [List.setIfInBounds_toArray, List.set_cons_zero, List.set_cons_succ]
                  obtain ⟨z0, z1, z2, z3, z4, z5, z6, z7, zf⟩ := blk8 hr6
                  refine wpAnyU_op (i := 9) (by kernel_rfl) rfl rfl (fun K hK => ?_)
                  go_simp
                  have hs9 : Below n10 wo (set8 w6 n10 (.int .i64 ma.1) (.int .i64 ma.2.1) (.int .i64 ma.2.2.1) (.int .i64 ma.2.2.2.1) (.int .i64 ma.2.2.2.2.1) (.int .i64 ma.2.2.2.2.2.1) (.slice V6 ma.2.2.2.2.2.2.1.length vc6) (.slice B6 ma.2.2.2.2.2.2.2.length bc6)) := set8_below hb6 (Nat.le_refl _) _ _ _ _ _ _ _ _
                  have hr9 := set8_row hr6 (.int .i64 ma.1) (.int .i64 ma.2.1) (.int .i64 ma.2.2.1) (.int .i64 ma.2.2.2.1) (.int .i64 ma.2.2.2.2.1) (.int .i64 ma.2.2.2.2.2.1) (.slice V6 ma.2.2.2.2.2.2.1.length vc6) (.slice B6 ma.2.2.2.2.2.2.2.length bc6)
                  have ho9 : ∀ g, g ≠ n10 → (set8 w6 n10 (.int .i64 ma.1) (.int .i64 ma.2.1) (.int .i64 ma.2.2.1) (.int .i64 ma.2.2.2.1) (.int .i64 ma.2.2.2.2.1) (.int .i64 ma.2.2.2.2.2.1) (.slice V6 ma.2.2.2.2.2.2.1.length vc6) (.slice B6 ma.2.2.2.2.2.2.2.length bc6)).heap[g]? = w6.heap[g]? := fun g hg => set8_other hg _ _ _ _ _ _ _ _
                  have hz9 : (set8 w6 n10 (.int .i64 ma.1) (.int .i64 ma.2.1) (.int .i64 ma.2.2.1) (.int .i64 ma.2.2.2.1) (.int .i64 ma.2.2.2.2.1) (.int .i64 ma.2.2.2.2.2.1) (.slice V6 ma.2.2.2.2.2.2.1.length vc6) (.slice B6 ma.2.2.2.2.2.2.2.length bc6)).heap.size = w6.heap.size := set8_sz
                  refine hK.out _ _ (fun _ => hs9) ?_
                  clear hK K z0 z1 z2 z3 z4 z5 z6 z7 zf hrz
                  change wpAnyU _ _ _ _ _ _ _ _ _ (set8 w6 n10 (.int .i64 ma.1) (.int .i64 ma.2.1) (.int .i64 ma.2.2.1) (.int .i64 ma.2.2.2.1) (.int .i64 ma.2.2.2.2.1) (.int .i64 ma.2.2.2.2.2.1) (.slice V6 ma.2.2.2.2.2.2.1.length vc6) (.slice B6 ma.2.2.2.2.2.2.2.length bc6))
                  generalize set8 w6 n10 (.int .i64 ma.1) (.int .i64 ma.2.1) (.int .i64 ma.2.2.1) (.int .i64 ma.2.2.2.1) (.int .i64 ma.2.2.2.2.1) (.int .i64 ma.2.2.2.2.2.1) (.slice V6 ma.2.2.2.2.2.2.1.length vc6) (.slice B6 ma.2.2.2.2.2.2.2.length bc6) = W9 at hs9 hr9 ho9 hz9 ⊢
                  refine wpAnyU_op (i := 10) (by kernel_rfl) rfl rfl (fun K hK => ?_)
                  go_simp
                  refine hK.out _ _ (fun _ => hs9) ?_
                  clear hK K
                  try simp only [Act.put, List.setIfInBounds_toArray, List.set_cons_zero, List.set_cons_succ]
                  refine wpAnyU_done (by kernel_rfl) ?_ _
                  have hV := (y3.blk (w' := W9) (fun g hg => ho9 g (by have := hg.1; omega))).more (S' := Bl W9.heap.size) (fun g hg => by have := hg.2; show g < W9.heap.size; omega)
                  have hBb := (y6.blk (w' := W9) (fun g hg => ho9 g (by have := hg.1; omega))).more (S' := Bl W9.heap.size) (fun g hg => by have := hg.2; show g < W9.heap.size; omega)
                  go_wp2
                  go_meet
                  exact ⟨n10, V6, vc6, B6, bc6, rfl, rfl, Nat.le_refl _, hr9, hs9, ⟨y1, y2⟩, hV, ⟨y4, y5⟩, hBb⟩
              case rest =>
                obtain ⟨bxm, V6, vc6, B6, bc6, rfl, rfl, hbxm, hrm, hbe7, ⟨y1, y2⟩, hV6, ⟨y4, y5⟩, hB6⟩ := hcut
                obtain ⟨W7, rfl⟩ : ∃ W7 : World, W7 = wc := ⟨_, rfl⟩
                obtain ⟨u0, u1, u2, u3, u4, u5, u6, u7, hrow, A5, c5, P5, pc5, F5, fc5, he, ⟨s1, s2, s3⟩, ⟨b1, b2, b3⟩, ⟨f1, f2, f3⟩, ii⟩ := hbx.out
                simp only [Value.agg.injEq, Array.mk.injEq, List.cons.injEq, and_true] at he
                obtain ⟨rfl, rfl, rfl, rfl, rfl, rfl, rfl, rfl⟩ := he
                have hn10 := HN10.out
                have hn7l : n7 < n10 := by rw [← hn10]; exact (Array.getElem?_eq_some_iff.1 hrow).1
                have hrow7 := (hbe7.out.block n7 hn7l).trans hrow
                have hl7 : n7 < W7.heap.size := (Array.getElem?_eq_some_iff.1 hrow7).1
                have hz7 := hbe7.out.size
                have hkw : ∀ g, (g < wo.heap.size ∧ g ≠ n7) → W7.heap[g]? = wo.heap[g]? := fun g hg => hbe7.out.block g (by rw [← hn10]; exact hg.1)
                have hzw : ∀ {g : Nat}, (g < wo.heap.size ∧ g ≠ n7) → g < W7.heap.size := fun hg => by have := hg.1; omega
                obtain ⟨hLE, hRI, hlvl⟩ := runI_step HXA.out tk HU1.out HU2.out hk hv hvb hvne hst hrun
                rw [HMA.out] at hLE hRI hlvl
                have hjl : (joinN v).length ≤ 100000 := by
                  have h1 := congrArg List.length hq
                  rw [reqL_len] at h1
                  omega
                have hvl : ma.2.2.2.2.2.2.1.length ≤ 100000000 := by
                  rw [← HMA.out]
                  show (reqL (n2' : Int) (m2' : Int) (joinN v)).length ≤ _
                  rw [hq]; omega
                have hbl : ma.2.2.2.2.2.2.2.length ≤ 100000000 := by
                  rw [← HMA.out]
                  have h2 : v.length ≤ 8192 := by
                    have : v.length ≤ sentN l l2 k v := by cases k <;> (unfold sentN; omega)
                    omega
                  show (bodyOf (l2.getD k []) v).length ≤ _
                  rw [bodyOf_len]; omega
                obtain ⟨a0, a1, a2, a3, a4, a5, a6, a7, _⟩ := blk8 hrow7
                obtain ⟨z0, z1, z2, z3, z4, z5, z6, z7, _⟩ := blk8 hrm.out
                have HLN := refLearn_any (fun g => g < W7.heap.size ∧ g ≠ n7) (n2' : Int) (m2' : Int) (k : Int) (st : Int) ma.1 ma.2.1 ma.2.2.1 ma.2.2.2.1 ma.2.2.2.2.1 ma.2.2.2.2.2.1 false A5 P5 F5 V6 B6 c5 pc5 fc5 l.length (joinN v).length 0 ma.2.2.2.2.2.2.1.length vc6 ma.2.2.2.2.2.2.2.length bc6 l (joinN v) [] ma.2.2.2.2.2.2.1 ma.2.2.2.2.2.2.2 W7 rfl rfl rfl rfl rfl
                  (fun _ h => h.1) ((s3.blk hkw).more (fun g hg => ⟨hzw hg, hg.2⟩)) ((b3.blk hkw).more (fun g hg => hzw hg)) ((f3.blk hkw).more (fun g hg => hzw hg)) hV6.out hB6.out hs ⟨s1, s2⟩ hjl (Nat.zero_le _) hvl hbl ii hlv
                change Calls _ _ _ _ (RetWS (fun g => g < W7.heap.size ∧ g ≠ n7) (learnW (stW ((n2' : Int), (m2' : Int), l) k v st) ma) (learnM (stW ((n2' : Int), (m2' : Int), l) k v st) ma) (learnE (stW ((n2' : Int), (m2' : Int), l) k v st) ma) W7) at HLN
                obtain ⟨X, hX⟩ : ∃ X, learnW (stW ((n2' : Int), (m2' : Int), l) k v st) ma = X := ⟨_, rfl⟩
                obtain ⟨M, hM⟩ : ∃ M, learnM (stW ((n2' : Int), (m2' : Int), l) k v st) ma = M := ⟨_, rfl⟩
                rw [hX, hM] at hRI hlvl HLN
                rw [hLE] at HLN
                have HLN := Lib.hid HLN
                have HRI := Lib.hid hRI
                have HLV := Lib.hid hlvl
                have hl7x : True := trivial
                have HB37 : Hid (Below n7 w3 W7) := hB.out.trans (hbe7.out.mono (by omega))
                clear hX hM hLE hRI hlvl hV6 hB6 hvl hbl hjl s3 b3 f3 hkw hzw hri hms hbx hrm hn10
                go_wp2_with fail
                refine HLN.out.mono ?_
                rintro e w8 ⟨v8, B8, bc8, rfl, ⟨A8, c8, P8, pc8, F8, fc8, rfl, ⟨g1, g2, g3⟩, ⟨g4, g5, g6⟩, ⟨g7, g8, g9⟩, gi⟩, m1, m2, m3, hb8⟩
                have hrow8 := (hb8.block n7 hl7).trans hrow7
                clear a0 a1 a2 a3 a4 a5 a6 a7 z0 z1 z2 z3 z4 z5 z6 z7
                obtain ⟨z0, z1, z2, z3, z4, z5, z6, z7, zf⟩ := blk8 hrow8
                have hr9 := set8_row hrow8 (.int .i64 X.1.1) (.int .i64 X.1.2.1) (.slice A8 X.1.2.2.length c8) (.slice P8 X.2.1.length pc8) (.int .i64 X.2.2.1) (.slice F8 X.2.2.2.1.length fc8) (.int .i64 X.2.2.2.2.1) (.bool X.2.2.2.2.2)
                have hv4 : (set8 w8 n7 (.int .i64 X.1.1) (.int .i64 X.1.2.1) (.slice A8 X.1.2.2.length c8) (.slice P8 X.2.1.length pc8) (.int .i64 X.2.2.1) (.slice F8 X.2.2.2.1.length fc8) (.int .i64 X.2.2.2.2.1) (.bool X.2.2.2.2.2)).cell? ⟨n7, 4, none⟩ = some (.int .i64 X.2.2.1) := (blk8 hr9).2.2.2.2.1
                have h4 : wo.cell? ⟨n7, 4, none⟩ = some (.int .i64 (k : Int)) := (blk8 hrow).2.2.2.2.1
                have hz8 := hb8.size
                have hto : ∀ g, ((g < W7.heap.size ∧ g ≠ n7) ∨ Nw W7.heap.size w8.heap.size g) → g < w8.heap.size ∧ g ≠ n7 := fun g hg => hg.elim (fun h => ⟨by have := h.1; omega, h.2⟩) (fun h => ⟨h.2, by have := h.1; omega⟩)
                have hg3 := g3.more hto
                have hg6 := g6.more hto
                have hg9 := g9.more hto
                have hm3 := m3.more (S' := fun g => g < w8.heap.size ∧ g ≠ n7) (fun g hg => hto g (Or.inr hg))
                have ho9 : ∀ g, (g < w8.heap.size ∧ g ≠ n7) → (set8 w8 n7 (.int .i64 X.1.1) (.int .i64 X.1.2.1) (.slice A8 X.1.2.2.length c8) (.slice P8 X.2.1.length pc8) (.int .i64 X.2.2.1) (.slice F8 X.2.2.2.1.length fc8) (.int .i64 X.2.2.2.2.1) (.bool X.2.2.2.2.2)).heap[g]? = w8.heap[g]? := fun g hg => set8_other hg.2 _ _ _ _ _ _ _ _
                have hm9 : ∀ g, (g < w8.heap.size ∧ g ≠ n7) → g < (set8 w8 n7 (.int .i64 X.1.1) (.int .i64 X.1.2.1) (.slice A8 X.1.2.2.length c8) (.slice P8 X.2.1.length pc8) (.int .i64 X.2.2.1) (.slice F8 X.2.2.2.1.length fc8) (.int .i64 X.2.2.2.2.1) (.bool X.2.2.2.2.2)).heap.size ∧ g ≠ n7 := fun g hg => ⟨by rw [set8_sz]; exact hg.1, hg.2⟩
                have hbox : Hid (WkBox (set8 w8 n7 (.int .i64 X.1.1) (.int .i64 X.1.2.1) (.slice A8 X.1.2.2.length c8) (.slice P8 X.2.1.length pc8) (.int .i64 X.2.2.1) (.slice F8 X.2.2.2.1.length fc8) (.int .i64 X.2.2.2.2.1) (.bool X.2.2.2.2.2)) n7 X) := ⟨_, _, _, _, _, _, _, _, hr9, A8, c8, P8, pc8, F8, fc8, rfl, ⟨g1, g2, (hg3.blk ho9).more hm9⟩, ⟨g4, g5, (hg6.blk ho9).more hm9⟩, ⟨g7, g8, (hg9.blk ho9).more hm9⟩, gi⟩
                have hmsn : Hid (SlAt encMsg (set8 w8 n7 (.int .i64 X.1.1) (.int .i64 X.1.2.1) (.slice A8 X.1.2.2.length c8) (.slice P8 X.2.1.length pc8) (.int .i64 X.2.2.1) (.slice F8 X.2.2.2.1.length fc8) (.int .i64 X.2.2.2.2.1) (.bool X.2.2.2.2.2)) (fun g => g < (set8 w8 n7 (.int .i64 X.1.1) (.int .i64 X.1.2.1) (.slice A8 X.1.2.2.length c8) (.slice P8 X.2.1.length pc8) (.int .i64 X.2.2.1) (.slice F8 X.2.2.2.1.length fc8) (.int .i64 X.2.2.2.2.1) (.bool X.2.2.2.2.2)).heap.size ∧ g ≠ n7) B8 M) := (hm3.blk ho9).more hm9
                have hbel : Hid (Below n7 w3 (set8 w8 n7 (.int .i64 X.1.1) (.int .i64 X.1.2.1) (.slice A8 X.1.2.2.length c8) (.slice P8 X.2.1.length pc8) (.int .i64 X.2.2.1) (.slice F8 X.2.2.2.1.length fc8) (.int .i64 X.2.2.2.2.1) (.bool X.2.2.2.2.2))) := set8_below (HB37.out.trans (hb8.mono (by omega))) (Nat.le_refl _) _ _ _ _ _ _ _ _
                have hmeas : Hid (runMeas n7 (.slice B8 M.length bc8) (set8 w8 n7 (.int .i64 X.1.1) (.int .i64 X.1.2.1) (.slice A8 X.1.2.2.length c8) (.slice P8 X.2.1.length pc8) (.int .i64 X.2.2.1) (.slice F8 X.2.2.2.1.length fc8) (.int .i64 X.2.2.2.2.1) (.bool X.2.2.2.2.2)) < runMeas n7 (.slice (some ⟨bm, om, none⟩) 1 bc) wo) := by
                  rw [Hid]
                  unfold runMeas
                  rw [hv4, h4]
                  simp only [Option.getD_some, intOf]
                  rcases HRI.out with ⟨k', v', s', hX', hM', _⟩ | ⟨_, hM'⟩
                  · have hx : X.2.2.1 = (k' : Int) := by rw [hX']; rfl
                    rcases HLV.out with h | h
                    · rw [h]; simp; omega
                    · rw [hM', hx]; rw [hx] at h; simp; omega
                  · rw [hM']; simp; omega
                clear hr9 hv4 h4 ho9 hm9 g3 g6 g9 m3 hg3 hg6 hg9 hm3 hto
                go_wp2_with fail
                exact ⟨⟨X, M, B8, bc8, rfl, hbox.out, hmsn.out, hbel.out, HRI.out⟩, hmeas.out⟩
            · obtain ⟨u0, u1, u2, u3, u4, u5, u6, u7, hrow, A5, c5, P5, pc5, F5, fc5, he, _, _, ⟨f1, f2, f3⟩, _⟩ := hbx.out
              simp only [Value.agg.injEq, Array.mk.injEq, List.cons.injEq, and_true] at he
              obtain ⟨rfl, rfl, rfl, rfl, rfl, rfl, rfl, rfl⟩ := he
              rw [← HFIN.out, runW_end] at hrow f1 f3
              simp only at hrow f1 f3
              obtain ⟨a0, a1, a2, a3, a4, a5, a6, a7, _⟩ := blk8 hrow
              have HF3 := Lib.hid f3
              clear f3
              have hd1 : difT ((n2' : Int), (m2' : Int), l) ((n2' : Int), (m2' : Int), l2) = opL or ((fnd l l2 (l.length - 1) [0]).map (leafE ((n2' : Int)).toNat ((m2' : Int)).toNat)) [] := by unfold difT; rw [if_pos HDE.out]; rfl
              have hd2 : sentT ((n2' : Int), (m2' : Int), l) ((n2' : Int), (m2' : Int), l2) = ((0 + sentN l l2 (l.length - 1) [0] : Nat) : Int) := by unfold sentT; rw [if_pos HDE.out, Nat.zero_add]
              obtain ⟨ff, hff⟩ : ∃ ff, opL or ((fnd l l2 (l.length - 1) [0]).map (leafE ((n2' : Int)).toNat ((m2' : Int)).toNat)) [] = ff := ⟨_, rfl⟩
              obtain ⟨sn, hsn⟩ : ∃ sn, ((0 + sentN l l2 (l.length - 1) [0] : Nat) : Int) = sn := ⟨_, rfl⟩
              rw [hff] at hd1 a5 f1 HF3
              rw [hsn] at hd2 a6
              have HD := Lib.hid (And.intro hd1 hd2)
              have hbo : Hid (Below w.heap.size w wo) := HB0.out.trans ((hb03.trans (hB.out.mono (by omega))).mono (by have := HN0.out; omega))
              clear hd1 hd2 hff hsn hrow
              go_wp2_with fail
              go_quiet (fail)
              generalize hWq : wo.drewN _ = wq
              have hdq : Drew wo wq := ⟨_, hWq.symm⟩
              clear hWq
              go_wp2_with fail
              refine bodyPost_ret (v := .tuple #[.slice F5 ff.length fc5, .int .i64 sn, .int .i64 0]) ?_ rfl ?_
              · simp [results, Try.results27, Try.f27, go_sem]
              rw [HD.out.1, HD.out.2, HDE.out]
              exact ⟨F5, fc5, rfl, f1, f2, (HF3.out.blk (fun g hg => (hdq.below wo.heap.size).block g hg.1)).more (fun g hg => by show g < wq.heap.size; rw [hdq.heap]; exact hg.1), hbo.out.trans (hdq.below _)⟩
        · have hdE : difErr (s, lf, l) (s2, lf2, l2) = 22 := by unfold difErr; rw [if_neg (by rw [HXA.out]; simp), if_neg (by rw [HXB.out]; simp), if_pos (Or.inr g2)]
          have hne : (lf != lf2) = true := by simp [g2]
          have heq : (s != s2) = false := by simp [g1]
          clear g1
          go_wp2_with fail
          refine bodyPost_ret (v := .tuple #[.slice none 0 0, .int .i64 0, .int .i64 22]) ?_ rfl ?_
          · simp [results, Try.results27, Try.f27, go_sem]
          rw [(HZ.out 22 ⟨by decide, hdE⟩).1, (HZ.out 22 ⟨by decide, hdE⟩).2.1, (HZ.out 22 ⟨by decide, hdE⟩).2.2]
          exact ⟨none, 0, rfl, Nat.zero_le _, Nat.zero_le _, SlAt.nil_, HB0.out.trans (hb03.mono (by have := HN0.out; omega))⟩
      · have hdE : difErr (s, lf, l) (s2, lf2, l2) = 22 := by unfold difErr; rw [if_neg (by rw [HXA.out]; simp), if_neg (by rw [HXB.out]; simp), if_pos (Or.inl g1)]
        have hne : (s != s2) = true := by simp [g1]
        go_wp2_with fail
        refine bodyPost_ret (v := .tuple #[.slice none 0 0, .int .i64 0, .int .i64 22]) ?_ rfl ?_
        · simp [results, Try.results27, Try.f27, go_sem]
        rw [(HZ.out 22 ⟨by decide, hdE⟩).1, (HZ.out 22 ⟨by decide, hdE⟩).2.1, (HZ.out 22 ⟨by decide, hdE⟩).2.2]
        exact ⟨none, 0, rfl, Nat.zero_le _, Nat.zero_le _, SlAt.nil_, HB0.out.trans (hb03.mono (by have := HN0.out; omega))⟩
    · have hdE : difErr (s, lf, l) (s2, lf2, l2) = xb := by unfold difErr; rw [if_neg (by rw [HXA.out]; simp), if_pos (by rw [HXB.out]; exact hy0), HXB.out]
      go_wp2_with fail
      refine bodyPost_ret (v := .tuple #[.slice none 0 0, .int .i64 0, .int .i64 xb]) ?_ rfl ?_
      · simp [results, Try.results27, Try.f27, go_sem]
      rw [(HZ.out xb ⟨hy0, hdE⟩).1, (HZ.out xb ⟨hy0, hdE⟩).2.1, (HZ.out xb ⟨hy0, hdE⟩).2.2]
      exact ⟨none, 0, rfl, Nat.zero_le _, Nat.zero_le _, SlAt.nil_, HB0.out.trans (hb03.mono (by have := HN0.out; omega))⟩
  · have hbw : begW (s, lf, l) = zWk := by unfold begW; rw [if_neg (by rw [HXA.out]; exact hx0)]
    have hbm : begM (s, lf, l) = [] := by unfold begM; rw [if_neg (by rw [HXA.out]; exact hx0)]
    have hdE : difErr (s, lf, l) (s2, lf2, l2) = xa := by unfold difErr; rw [if_pos (by rw [HXA.out]; exact hx0), HXA.out]
    rw [hbw, hbm]
    obtain ⟨ms0, hms0⟩ : ∃ ms0, Value.slice B1 0 bc1 = ms0 := ⟨_, rfl⟩
    have hb1' : Below n3 W0 (w1.alloc (.cells #[.int .i64 0, .int .i64 0, .slice A9 0 c9, .slice P9 0 pc9, .int .i64 0, .slice F9 0 fc9, .int .i64 0, .bool false] 27)) := hb1.alloc (by have := hb1.size; omega) _
    go_wp2_with fail
    refine bodyPost_ret (v := .tuple #[.slice none 0 0, .int .i64 0, .int .i64 xa]) ?_ rfl ?_
    · simp [results, Try.results27, Try.f27, go_sem]
    rw [(HZ.out xa ⟨hx0, hdE⟩).1, (HZ.out xa ⟨hx0, hdE⟩).2.1, (HZ.out xa ⟨hx0, hdE⟩).2.2]
    exact ⟨none, 0, rfl, Nat.zero_le _, Nat.zero_le _, SlAt.nil_, HB0.out.trans (hb1'.mono (by have := HN0.out; omega))⟩
end Go.Proofs.Ytjehedfdikdfpaa
namespace Go.Proofs.Ytjehedfdikdfpaa
open Go.RowKit Go.Shelf
attribute [local go_sem] Oper.semAt_some

set_option maxHeartbeats 4000000 in
set_option maxRecDepth 100000 in
theorem refBound_any (size leaf d v r : Int) (w : World) (hv : boundV size leaf d = v) (hr : boundE size leaf d = r) : Calls Try.prog 29 #[.int .i64 size, .int .i64 leaf, .int .i64 d] w fun e w' => e = .returned (.tuple #[.int .i64 v, .int .i64 r]) ∧ w' = w := by
  have HV := Lib.hid hv; have HR := Lib.hid hr; clear hv hr
  have HB : Hid (∀ q : Int, boundE size leaf d = q → q ≠ 0 → q = r ∧ (0 : Int) = v) := fun q h hq => by
    refine ⟨h.symm.trans HR.out, ?_⟩
    rw [← HV.out, boundV, if_neg (by rw [h]; exact hq)]
  go_enter Try.func29, Try.ntmps29
  by_cases h1 : size < 1
  · obtain ⟨e1, e2⟩ := HB.out 2 (by rw [boundE, if_pos (Or.inl h1)]) (by decide)
    have E := Lib.hid (And.intro e1 e2); clear e1 e2
    go_wp2
    refine bodyPost_ret (v := .tuple #[.int .i64 (0), .int .i64 (2)]) ?_ rfl ?_
    · simp [results, Try.results29, Try.f29, go_sem]
    exact ⟨by rw [E.out.1, E.out.2], rfl⟩
  by_cases h2 : 4096 < size
  · obtain ⟨e1, e2⟩ := HB.out 2 (by rw [boundE, if_pos (Or.inr h2)]) (by decide)
    have E := Lib.hid (And.intro e1 e2); clear e1 e2
    go_wp2
    refine bodyPost_ret (v := .tuple #[.int .i64 (0), .int .i64 (2)]) ?_ rfl ?_
    · simp [results, Try.results29, Try.f29, go_sem]
    exact ⟨by rw [E.out.1, E.out.2], rfl⟩
  by_cases h3 : leaf < 1
  · obtain ⟨e1, e2⟩ := HB.out 1 (by rw [boundE, if_neg (by omega), if_pos (Or.inl h3)]) (by decide)
    have E := Lib.hid (And.intro e1 e2); clear e1 e2
    go_wp2
    refine bodyPost_ret (v := .tuple #[.int .i64 (0), .int .i64 (1)]) ?_ rfl ?_
    · simp [results, Try.results29, Try.f29, go_sem]
    exact ⟨by rw [E.out.1, E.out.2], rfl⟩
  by_cases h4 : 4096 < leaf
  · obtain ⟨e1, e2⟩ := HB.out 1 (by rw [boundE, if_neg (by omega), if_pos (Or.inr h4)]) (by decide)
    have E := Lib.hid (And.intro e1 e2); clear e1 e2
    go_wp2
    refine bodyPost_ret (v := .tuple #[.int .i64 (0), .int .i64 (1)]) ?_ rfl ?_
    · simp [results, Try.results29, Try.f29, go_sem]
    exact ⟨by rw [E.out.1, E.out.2], rfl⟩
  obtain ⟨n, rfl⟩ : ∃ n : Nat, size = n := ⟨size.toNat, by omega⟩
  obtain ⟨m, rfl⟩ : ∃ m : Nat, leaf = m := ⟨leaf.toNat, by omega⟩
  obtain ⟨L, hL⟩ : ∃ L, leavesN n m = L := ⟨_, rfl⟩
  have hLI : ((n : Int) + m - 1) / m = (L : Int) := by
    rw [← hL]; unfold leavesN
    have e : ((n : Int) + m - 1) = ((n + m - 1 : Nat) : Int) := by omega
    rw [e, ← Int.natCast_ediv]
  have hL4 : L ≤ 4096 := by
    rw [← hL]; unfold leavesN
    exact Nat.le_trans (Nat.div_le_of_le_mul (by
      have : n + m - 1 ≤ m * 4096 := by
        have h : 4096 + m ≤ m * 4096 + 1 := by
          have : 1 ≤ m := by omega
          omega
        omega
      exact this)) (Nat.le_refl _)
  have hmz : ¬ (m : Int) = 0 := by omega
  have HL := Lib.hid hL
  clear hL
  have HLV := Lib.hid (refLeaves_any n m w (by omega) (by omega))
  rw [HL.out] at HLV
  go_wp2_with fail
  refine HLV.out.mono ?_
  rintro e w1 ⟨rfl, hw1⟩
  have hw2 := hw1.symm
  clear hw1 HLV
  subst hw2
  by_cases h5 : d < 0
  · obtain ⟨e1, e2⟩ := HB.out 2 (by rw [boundE, if_neg (by omega), if_neg (by omega), if_pos (Or.inl h5)]) (by decide)
    have E := Lib.hid (And.intro e1 e2); clear e1 e2
    go_wp2
    refine bodyPost_ret (v := .tuple #[.int .i64 (0), .int .i64 (2)]) ?_ rfl ?_
    · simp [results, Try.results29, Try.f29, go_sem]
    exact ⟨by rw [E.out.1, E.out.2], rfl⟩
  by_cases h6 : (L : Int) < d
  · obtain ⟨e1, e2⟩ := HB.out 2 (by rw [boundE, if_neg (by omega), if_neg (by omega), if_pos (Or.inr (by simp only [Int.toNat_natCast]; rw [HL.out]; exact h6))]) (by decide)
    have E := Lib.hid (And.intro e1 e2); clear e1 e2
    go_wp2
    refine bodyPost_ret (v := .tuple #[.int .i64 (0), .int .i64 (2)]) ?_ rfl ?_
    · simp [results, Try.results29, Try.f29, go_sem]
    exact ⟨by rw [E.out.1, E.out.2], rfl⟩
  obtain ⟨k, rfl⟩ : ∃ k : Nat, d = k := ⟨d.toNat, by omega⟩
  have HE0 : Hid ((0 : Int) = r ∧ ((1 + boundF 13 L k : Nat) : Int) = v) := by
    have h : boundE (n : Int) (m : Int) (k : Int) = 0 := by
      rw [boundE, if_neg (by omega), if_neg (by omega), if_neg (by simp only [Int.toNat_natCast]; rw [HL.out]; omega)]
    refine ⟨h.symm.trans HR.out, ?_⟩
    rw [← HV.out, boundV, if_pos h]
    simp only [Int.toNat_natCast]
    rw [HL.out]; omega
  have hbl := boundF_le k 13 L
  have hkL : k ≤ 4096 := by omega
  have HBL : Hid (1 + boundF 13 L k ≤ 60000) := by rw [Hid]; omega
  clear hbl hLI HV HR HB
  go_wp2
  go_loopw [8, 9] (fun nv sv wr => ∃ (f nodes s : Nat), nv = .int .i64 nodes ∧ sv = .int .i64 s ∧ wr = w ∧ f ≤ 13 ∧ nodes ≤ 4096 ∧ Hid (nodes ≤ 2 ^ f) ∧ s ≤ 60000 ∧ Hid (s + boundF f nodes k = 1 + boundF 13 L k)) (fun nv _ _ => (intOf nv).toNat)
  case atStart => exact ⟨13, L, 1, rfl, rfl, rfl, by omega, hL4, by rw [Hid]; omega, by omega, rfl⟩
  case round =>
    obtain ⟨f, nodes, s, rfl, rfl, rfl, hf, hn4, h2f, hs6, hsum⟩ := hrel
    by_cases hn1 : 1 < nodes
    · have hnI : (1 : Int) < nodes := by omega
      obtain ⟨f', rfl⟩ : ∃ f', f = f' + 1 := ⟨f - 1, by
        rcases Nat.eq_zero_or_pos f with h | h
        · have := h2f.out; rw [h] at this; omega
        · omega⟩
      have h2f' : Hid ((nodes + 1) / 2 ≤ 2 ^ f') := by have := h2f.out; rw [Nat.pow_succ] at this; rw [Hid]; omega
      have hsum' : Hid ((s + min nodes (2 * min k ((nodes + 1) / 2))) + boundF f' ((nodes + 1) / 2) k = 1 + boundF 13 L k) := by
        have h := hsum.out
        have hu : boundF (f' + 1) nodes k = min nodes (2 * min k ((nodes + 1) / 2)) + boundF f' ((nodes + 1) / 2) k := by
          show (if 1 < nodes then min nodes (2 * min k ((nodes + 1) / 2)) + boundF f' ((nodes + 1) / 2) k else 0) = _
          rw [if_pos hn1]
        rw [hu] at h
        rw [Hid]; omega
      have hs7 : s + min nodes (2 * min k ((nodes + 1) / 2)) ≤ 60000 := by have := hsum'.out; have := HBL.out; omega
      obtain ⟨ab, hab⟩ : ∃ ab, (nodes + 1) / 2 = ab := ⟨_, rfl⟩
      rw [hab] at h2f' hsum' hs7
      have habI : ((nodes : Int) + 1) / 2 = (ab : Int) := by omega
      have hab4 : ab ≤ 4096 := by omega
      have habn : ab < nodes := by omega
      have HAB := Lib.hid hab
      clear hab
      obtain ⟨s', hs'⟩ : ∃ s', s + min nodes (2 * min k ab) = s' := ⟨_, rfl⟩
      rw [hs'] at hsum' hs7
      go_upto_region 11 with (fail)
      try rw [habI]
      by_cases hka : k ≤ ab
      · have hkaI : (k : Int) ≤ ab := by omega
        by_cases hkn : 2 * k ≤ nodes
        · have e : (s : Int) + 2 * k = (s' : Int) := by omega
          go_wp2
          all_goals first | (exfalso; omega) | skip
          all_goals
            go_roundw
            case rel => exact ⟨f', ab, s', by go_num, by go_num, by first | trivial | rfl, by omega, hab4, h2f'.out, hs7, hsum'.out⟩
            case measure => simp [intOf]; omega
        · have e : (s : Int) + nodes = (s' : Int) := by omega
          go_wp2
          all_goals first | (exfalso; omega) | skip
          all_goals
            go_roundw
            case rel => exact ⟨f', ab, s', by go_num, by go_num, by first | trivial | rfl, by omega, hab4, h2f'.out, hs7, hsum'.out⟩
            case measure => simp [intOf]; omega
      · by_cases hkn : 2 * ab ≤ nodes
        · have e : (s : Int) + 2 * ab = (s' : Int) := by omega
          go_wp2
          all_goals first | (exfalso; omega) | skip
          all_goals
            go_roundw
            case rel => exact ⟨f', ab, s', by go_num, by go_num, by first | trivial | rfl, by omega, hab4, h2f'.out, hs7, hsum'.out⟩
            case measure => simp [intOf]; omega
        · have e : (s : Int) + nodes = (s' : Int) := by omega
          go_wp2
          all_goals first | (exfalso; omega) | skip
          all_goals
            go_roundw
            case rel => exact ⟨f', ab, s', by go_num, by go_num, by first | trivial | rfl, by omega, hab4, h2f'.out, hs7, hsum'.out⟩
            case measure => simp [intOf]; omega
    · have hnI : ¬ (1 : Int) < nodes := by omega
      have hE : Hid (((s : Nat) : Int) = v) := by
        have h := hsum.out
        rw [boundF_stop f (by omega), Nat.add_zero] at h
        rw [Hid, h]; exact HE0.out.2
      go_wp2
      refine bodyPost_ret (v := .tuple #[.int .i64 ((s : Int)), .int .i64 (0)]) ?_ rfl ?_
      · simp [results, Try.results29, Try.f29, go_sem]
      exact ⟨by rw [hE.out, HE0.out.1], rfl⟩
end Go.Proofs.Ytjehedfdikdfpaa
namespace Go.Proofs.Ytjehedfdikdfpaa
open Go.RowKit Go.Shelf
attribute [local go_sem] Oper.semAt_some

set_option maxHeartbeats 8000000 in
set_option maxRecDepth 100000 in
theorem runs44_any (s lf s2 lf2 k0 k1 k2 : Int) (A A2 : Option Addr) (c c2 : Nat) (l l2 : List (List Int)) (w : World) (h1 : SlAt (encSl encU64) w (Bl w.heap.size) A l) (h2 : SlAt (encSl encU64) w (Bl w.heap.size) A2 l2) (hc : l.length ≤ c ∧ c ≤ maxLen) (hc2 : l2.length ≤ c2 ∧ c2 ≤ maxLen) (hI : I64 s ∧ I64 lf) (hI2 : I64 s2 ∧ I64 lf2) :
    Calls Try.prog 6 #[.agg #[.int .i64 s, .int .i64 lf, .slice A l.length c], .agg #[.int .i64 s2, .int .i64 lf2, .slice A2 l2.length c2], .agg #[.int .i64 k0, .int .i64 k1, .int .i64 k2]] w (LawRet w) := by
  obtain ⟨n0, hn0⟩ : ∃ n0, w.heap.size = n0 := ⟨_, rfl⟩
  obtain ⟨W0, hW0⟩ : ∃ W0, ((w.alloc (.cells #[.int .i64 s, .int .i64 lf, .slice A l.length c] 24)).alloc (.cells #[.int .i64 s2, .int .i64 lf2, .slice A2 l2.length c2] 24)).alloc (.cells #[.int .i64 k0, .int .i64 k1, .int .i64 k2] 56) = W0 := ⟨_, rfl⟩
  have hB0 : Below n0 w W0 := by rw [← hW0, ← hn0]; exact ext_alloc (ext_alloc (ext_alloc (Below.refl _ _)))
  have hr0 : W0.heap[n0]? = some (.cells #[.int .i64 s, .int .i64 lf, .slice A l.length c] 24 (0, 0)) := by
    rw [← hW0, ← hn0]; exact (Below.heap_alloc _ _ _ (by simp; omega)).trans ((Below.heap_alloc _ _ _ (by simp)).trans (heap_alloc_new _ _))
  have hr1 : W0.heap[n0 + 1]? = some (.cells #[.int .i64 s2, .int .i64 lf2, .slice A2 l2.length c2] 24 (0, 0)) := by
    rw [← hW0, ← hn0]; exact (Below.heap_alloc _ _ _ (by simp)).trans (heap_new2 _ _ _)
  have hr2 : W0.heap[n0 + 1 + 1]? = some (.cells #[.int .i64 k0, .int .i64 k1, .int .i64 k2] 56 (0, 0)) := by
    rw [← hW0, ← hn0]; exact heap_new3 _ _ _ _
  have hz0 : W0.heap.size = n0 + 3 := by rw [← hW0, ← hn0]; simp
  obtain ⟨n1, hn1⟩ : ∃ n1, W0.heap.size = n1 := ⟨_, rfl⟩
  have hn01 : n0 + 3 ≤ n1 := by omega
  have HALL : Hid (∀ W, Below n1 W0 W → (W.heap[n0]? = some (.cells #[.int .i64 s, .int .i64 lf, .slice A l.length c] 24 (0, 0)) ∧ W.heap[n0 + 1]? = some (.cells #[.int .i64 s2, .int .i64 lf2, .slice A2 l2.length c2] 24 (0, 0)) ∧ W.heap[n0 + 1 + 1]? = some (.cells #[.int .i64 k0, .int .i64 k1, .int .i64 k2] 56 (0, 0))) ∧ SlAt (encSl encU64) W (Bl W.heap.size) A l ∧ SlAt (encSl encU64) W (Bl W.heap.size) A2 l2 ∧ Below w.heap.size w W) := fun W hb => by
    have hbw : Below w.heap.size w W := by rw [hn0]; exact hB0.trans (hb.mono (by omega))
    exact ⟨⟨(hb.block n0 (by omega)).trans hr0, (hb.block (n0 + 1) (by omega)).trans hr1, (hb.block (n0 + 1 + 1) (by omega)).trans hr2⟩, h1.fwd hbw, h2.fwd hbw, hbw⟩
  obtain ⟨q, hq⟩ : ∃ q, fewT (s, lf, l) = q := ⟨_, rfl⟩
  obtain ⟨q2, hq2⟩ : ∃ q2, fewT (s2, lf2, l2) = q2 := ⟨_, rfl⟩
  have hall0 := HALL.out W0 (Below.refl _ _)
  have HF1 := Lib.hid (few_any s lf A c l.length l q W0 rfl hq hall0.2.1 (by unfold maxLen at hc; omega))
  have HF2 := Lib.hid (fun W (hb : Below n1 W0 W) => few_any s2 lf2 A2 c2 l2.length l2 q2 W rfl hq2 (HALL.out W hb).2.2.1 (by unfold maxLen at hc2; omega))
  have HQ := Lib.hid hq
  have HQ2 := Lib.hid hq2
  obtain ⟨p0, p1, p2, _⟩ := blk3 hall0.1.1
  clear h1 h2 hr0 hr1 hr2 hz0 hq hq2 hall0
  go_enter Try.func6, Try.ntmps6
  go_wp2_with fail
  refine HF1.out.mono ?_
  rintro e w1 ⟨rfl, hb1⟩
  rw [hn1] at hb1
  clear p0 p1 p2 hW0 HF1
  cases q with
  | false =>
    go_wp2_with fail
    refine (awake44_any w1).mono ?_
    rintro e wz ⟨rfl, hbz⟩
    go_wp2_with fail
    go_ret
    exact ⟨by first | trivial | rfl | simp, ((HALL.out w1 hb1).2.2.2).trans (hbz.mono (((HALL.out w1 hb1).2.2.2)).size)⟩
  | true =>
    obtain ⟨z0, z1, z2, _⟩ := blk3 (HALL.out w1 hb1).1.2.1
    have HF3 := Lib.hid (HF2.out w1 hb1)
    go_wp2_with fail
    refine HF3.out.mono ?_
    rintro e w2 ⟨rfl, hb2⟩
    have hb02 : Below n1 W0 w2 := hb1.trans (hb2.mono (by have := hb1.size; omega))
    clear z0 z1 z2 HF3 HF2
    cases q2 with
    | false =>
      go_wp2_with fail
      refine (awake44_any w2).mono ?_
      rintro e wz ⟨rfl, hbz⟩
      go_wp2_with fail
      go_ret
      exact ⟨by first | trivial | rfl | simp, ((HALL.out w2 hb02).2.2.2).trans (hbz.mono (((HALL.out w2 hb02).2.2.2)).size)⟩
    | true =>
      obtain ⟨hl12, hlv⟩ := fewT_ok HQ.out
      obtain ⟨hl12', hlv2⟩ := fewT_ok HQ2.out
      obtain ⟨X, hX⟩ : ∃ X, difT (s, lf, l) (s2, lf2, l2) = X := ⟨_, rfl⟩
      obtain ⟨sn, hsn⟩ : ∃ sn, sentT (s, lf, l) (s2, lf2, l2) = sn := ⟨_, rfl⟩
      obtain ⟨r, hr⟩ : ∃ r, difErr (s, lf, l) (s2, lf2, l2) = r := ⟨_, rfl⟩
      have HA1 := Lib.hid (fun W (hb : Below n1 W0 W) => run_any s lf s2 lf2 A A2 c c2 l.length l2.length l l2 W rfl rfl (HALL.out W hb).2.1 (HALL.out W hb).2.2.1 (by omega) (by omega) hc hc2 hI hI2 hlv)
      have HA2 := Lib.hid (fun W (hb : Below n1 W0 W) => refRun_any s lf s2 lf2 A A2 c c2 l.length l2.length l l2 W rfl rfl (HALL.out W hb).2.1 (HALL.out W hb).2.2.1 (by omega) (by omega) hc hc2 hI hI2 hlv)
      rw [hX, hsn, hr] at HA1 HA2
      clear hX hsn hr
      have HA1' := Lib.hid (HA1.out w2 hb02)
      obtain ⟨⟨p0, p1, p2, _⟩, z0, z1, z2, _⟩ := And.intro (blk3 (HALL.out w2 hb02).1.1) (blk3 (HALL.out w2 hb02).1.2.1)
      go_wp2_with fail
      refine HA1'.out.mono ?_
      rintro e w3 ⟨D, dc, rfl, g1, g2, g3, hb3⟩
      have hb03 : Below n1 W0 w3 := hb02.trans (hb3.mono (by have := hb02.size; omega))
      clear p0 p1 p2 z0 z1 z2 HA1' HA1
      have HD3 := Lib.hid g3
      have HA2' := Lib.hid (HA2.out w3 hb03)
      obtain ⟨⟨p0, p1, p2, _⟩, z0, z1, z2, _⟩ := And.intro (blk3 (HALL.out w3 hb03).1.1) (blk3 (HALL.out w3 hb03).1.2.1)
      clear g3
      go_wp2_with fail
      refine HA2'.out.mono ?_
      rintro e w4 ⟨D2, dc2, rfl, g4, g5, g6, hb4⟩
      have hb04 : Below n1 W0 w4 := hb03.trans (hb4.mono (by have := hb03.size; omega))
      clear p0 p1 p2 z0 z1 z2 HA2' HA2
      obtain ⟨bv, hbv⟩ : ∃ bv, boundV k0 k1 k2 = bv := ⟨_, rfl⟩
      obtain ⟨be, hbe⟩ : ∃ be, boundE k0 k1 k2 = be := ⟨_, rfl⟩
      have HX1 := Lib.hid (bound_any k0 k1 k2 bv be w4 hbv hbe)
      have HX2 := Lib.hid (refBound_any k0 k1 k2 bv be w4 hbv hbe)
      have HEX := Lib.hid (eqExts_any D D2 dc dc2 X.length X.length (Bl w3.heap.size) (Bl w4.heap.size) X X true w4 rfl rfl (by simp) (HD3.out.blk (fun g hg => hb4.block g hg)) g6 (by unfold maxLen at g2; omega) (by unfold maxLen at g2; omega))
      obtain ⟨z0, z1, z2, _⟩ := blk3 (HALL.out w4 hb04).1.2.2
      clear hbv hbe g6
      go_wp2_with fail
      refine HX1.out.mono ?_
      rintro e w' ⟨rfl, rfl⟩
      go_wp2_with fail
      refine HX2.out.mono ?_
      rintro e w'' ⟨rfl, rfl⟩
      have h1 : (sn == sn) = true := by simp
      have h2 : (r == r) = true := by simp
      have h3 : (bv == bv) = true := by simp
      have h4 : (be == be) = true := by simp
      clear z0 z1 z2
      go_wp2_with fail
      refine HEX.out.mono ?_
      rintro e w7 ⟨rfl, hd7⟩
      have hb07 : Below n1 W0 w7 := hb04.trans (hd7.below _)
      go_wp2_with fail
      refine (awake44_any w7).mono ?_
      rintro e wz ⟨rfl, hbz⟩
      go_wp2_with fail
      go_ret
      exact ⟨by first | trivial | rfl | simp, ((HALL.out w7 hb07).2.2.2).trans (hbz.mono (((HALL.out w7 hb07).2.2.2)).size)⟩
end Go.Proofs.Ytjehedfdikdfpaa
namespace Go.Proofs.Ytjehedfdikdfpaa
open Go.RowKit Go.ChangeShapes Go.WideShapes Go.ChangeAt

def encArr {α : Type} (n : Nat) (E : Enc α) : Enc (List α) where
  size := n * E.size
  rd w S cs l := l.length = n ∧ ∃ css, cs = css.flatten ∧ All2 (E.rd w S) css l
  len h := by
    obtain ⟨h1, css, rfl, h2⟩ := h
    rw [flatten_len E.size css h2.sizes, h2.length, h1]
  one h := by
    obtain ⟨h1, css, rfl, h2⟩ := h
    intro v hv
    obtain ⟨cs, hc, hv⟩ := List.mem_flatten.1 hv
    obtain ⟨i, hi, rfl⟩ := List.getElem_of_mem hc
    obtain ⟨cs', e1, e2⟩ := h2.get (i := i) (List.getElem?_eq_getElem (by rw [← h2.length]; exact hi))
    rw [List.getElem?_eq_getElem hi] at e1
    injection e1 with e1
    rw [e1] at hv
    exact E.one e2 v hv
  keep h hk hS := by
    obtain ⟨h1, css, rfl, h2⟩ := h
    exact ⟨h1, css, rfl, h2.mono fun _ _ hr => E.keep hr hk hS⟩
section
variable {P : Program} {t e : TypeId} {α : Type} {E : Enc α}
theorem opens_array {n : Nat} (ht : P.underlying t = some (.array n e)) (hc : P.cellsOf t = n * E.size) (ho : Opens P e E) : Opens P t (encArr n E) := by
  refine ⟨hc, fun H enc w base spare held fuel cs x h => ?_⟩
  obtain ⟨xs, m, _, _, hl, hxl, hx⟩ := DataW.trod_array ht h
  rw [hc] at hl
  rw [ho.1] at hx
  have key : ∀ k, k ≤ n → ∃ css l, l.length = k ∧ cs.take (k * E.size) = css.flatten ∧ All2 (E.rd w (Bl w.heap.size)) css l := by
    intro k
    induction k with
    | zero => exact fun _ => ⟨[], [], rfl, by simp, trivial⟩
    | succ k ih =>
      intro hk
      obtain ⟨css, l, h1, h2, h3⟩ := ih (by omega)
      have h4 := hx k (by omega)
      rw [List.getElem?_eq_getElem (by omega)] at h4
      obtain ⟨y, hy⟩ := ho.2 _ _ _ _ _ _ _ _ _ h4
      refine ⟨css ++ [(cs.drop (k * E.size)).take E.size], l ++ [y], by simp [h1], ?_, All2.append h3 ⟨hy, trivial⟩⟩
      rw [Nat.succ_mul, List.take_add, h2]; simp
  obtain ⟨css, l, h1, h2, h3⟩ := key n (Nat.le_refl _)
  rw [List.take_of_length_le (by omega)] at h2
  exact ⟨l, h1, css, h2, h3⟩
variable {H : Type} {enc : TypeId × Value → H} {W : World} {base b0 : Nat} {spare : Nat → Bool} {held : Bool} {r : Reach} {v : Value} {d : DataW H} {p : List MemPlace}
theorem arg_array {n : Nat} (ht : P.underlying t = some (.array n e)) (ho : Opens P t E) (hv : Value.okWide P W r b0 t v) (h : DataW.Trod enc P W base spare held t v d p) :
    ∃ cs y, v = .agg cs ∧ E.rd W (Bl W.heap.size) cs.toList y := by
  simp only [Value.okWide, ht] at hv
  obtain ⟨cs, rfl, _⟩ := hv
  obtain ⟨fuel, hf⟩ := h
  obtain ⟨y, hy⟩ := ho.2 _ _ _ _ _ _ _ _ _ hf
  exact ⟨cs, y, rfl, hy⟩
/-- an array of three -/
theorem arr3 {w : World} {S : Nat → Prop} {cs : Array Value} {l : List α} (h : (encArr 3 E).rd w S cs.toList l) : ∃ x y z c1 c2 c3, l = [x, y, z] ∧ cs = (c1 ++ c2 ++ c3).toArray ∧ E.rd w S c1 x ∧ E.rd w S c2 y ∧ E.rd w S c3 z := by
  obtain ⟨h1, css, h2, h3⟩ := h
  match l, css, h1, h3 with
  | [x, y, z], [c1, c2, c3], _, h3 => exact ⟨x, y, z, c1, c2, c3, rfl, Array.toList_inj.1 (by simpa using h2), h3.1, h3.2.1, h3.2.2.1⟩
end
end Go.Proofs.Ytjehedfdikdfpaa
