/-
  compare.Run: the walk.; compare.Bound: the walk.; The examples of chapter 44: the walk.; trees: the walk, and what it computes.; What two trees have that trees returns; the law CompareSymmetric: the walk.
-/
import Derived.BigQuiet
import Derived.RegionTactic
import Derived.BigRegion
import Derived.Deep.RegionLaw
import Derived.Deep.DeepCutAuto
import Derived.Test.YtjehedfdikdfpaaZL02
import Derived.Test.YtjehedfdikdfpaaZL04
import Derived.Test.YtjehedfdikdfpaaZL05
import Derived.Test.YtjehedfdikdfpaaZL07
import Derived.Test.YtjehedfdikdfpaaZL10
import Derived.Test.YtjehedfdikdfpaaZL11
set_option linter.unusedVariables false
set_option linter.unusedSimpArgs false
set_option linter.unusedSectionVars false
set_option linter.unnecessarySimpa false
namespace Go.Proofs.Ytjehedfdikdfpaa
open Go.RowKit Go.Shelf
attribute [local go_sem] Oper.semAt_some

/-- extents, a number and the number of an error -/
def RetRun (d : List Ext) (k r : Int) (w : World) (e : Ending) (w' : World) : Prop :=
  ∃ A c, e = .returned (.tuple #[.slice A d.length c, .int .i64 k, .int .i64 r]) ∧ d.length ≤ c ∧ c ≤ maxLen ∧ SlAt encExt w' (Bl w'.heap.size) A d ∧ Below w.heap.size w w'
/-- a walk in a box -/
def WkBox (W : World) (b : Nat) (x : Wk) : Prop :=
  ∃ u0 u1 u2 u3 u4 u5 u6 u7, W.heap[b]? = some (.cells #[u0, u1, u2, u3, u4, u5, u6, u7] 27 (0, 0)) ∧ WkVal W (fun g => g < W.heap.size ∧ g ≠ b) x (.agg #[u0, u1, u2, u3, u4, u5, u6, u7])
theorem WkBox.grow {W W' : World} {b : Nat} {x : Wk} (h : WkBox W b x) (hb : Below W.heap.size W W') : WkBox W' b x := by
  obtain ⟨u0, u1, u2, u3, u4, u5, u6, u7, h1, h2⟩ := h
  have hlt := (Array.getElem?_eq_some_iff.1 h1).1
  exact ⟨u0, u1, u2, u3, u4, u5, u6, u7, (hb.block b hlt).trans h1, h2.keep (fun g hg => hb.block g hg.1) (fun g hg => ⟨Nat.lt_of_lt_of_le hg.1 hb.size, hg.2⟩)⟩
def runMeas (b : Nat) (v : Value) (wr : World) : Nat := (match v with
  | .slice _ n _ => n
  | _ => 0) * (1 + (intOf ((wr.cell? ⟨b, 4, none⟩).getD undef)).toNat)
set_option maxHeartbeats 8000000 in
set_option maxRecDepth 100000 in
theorem run_any (s lf s2 lf2 : Int) (A A2 : Option Addr) (c c2 n n2 : Nat) (l l2 : List (List Int)) (w : World) (hn : l.length = n) (hn2 : l2.length = n2) (h1 : SlAt (encSl encU64) w (Bl w.heap.size) A l) (h2 : SlAt (encSl encU64) w (Bl w.heap.size) A2 l2) (hs : n ≤ 100000) (hs2 : n2 ≤ 100000) (hc : n ≤ c ∧ c ≤ maxLen) (hc2 : n2 ≤ c2 ∧ c2 ≤ maxLen) (hI : I64 s ∧ I64 lf) (hI2 : I64 s2 ∧ I64 lf2) (hlv : ∀ row ∈ l, row.length ≤ 1000000) :
    Calls Try.prog 26 #[.agg #[.int .i64 s, .int .i64 lf, .slice A n c], .agg #[.int .i64 s2, .int .i64 lf2, .slice A2 n2 c2]] w (RetRun (difT (s, lf, l) (s2, lf2, l2)) (sentT (s, lf, l) (s2, lf2, l2)) (difErr (s, lf, l) (s2, lf2, l2)) w) := by
  subst hn hn2
  obtain ⟨n0, hn0⟩ : ∃ n0, w.heap.size = n0 := ⟨_, rfl⟩
  obtain ⟨W0, hW0⟩ : ∃ W0, (w.alloc (.cells #[.int .i64 s, .int .i64 lf, .slice A l.length c] 24)).alloc (.cells #[.int .i64 s2, .int .i64 lf2, .slice A2 l2.length c2] 24) = W0 := ⟨_, rfl⟩
  have hB0 : Below n0 w W0 := by rw [← hW0, ← hn0]; exact ext_alloc (ext_alloc (Below.refl _ _))
  have hs0 : W0.heap.size = n0 + 2 := by rw [← hW0, ← hn0]; simp
  have hr0 : W0.heap[n0]? = some (.cells #[.int .i64 s, .int .i64 lf, .slice A l.length c] 24 (0, 0)) := by
    rw [← hW0, ← hn0]; exact (Below.heap_alloc _ _ _ (by simp)).trans (heap_alloc_new _ _)
  have hr1 : W0.heap[n0 + 1]? = some (.cells #[.int .i64 s2, .int .i64 lf2, .slice A2 l2.length c2] 24 (0, 0)) := by
    rw [← hW0, ← hn0]; exact heap_new2 _ _ _
  obtain ⟨n3, hn3⟩ : ∃ n3, W0.heap.size = n3 := ⟨_, rfl⟩
  have hn03 : n0 + 2 ≤ n3 := by omega
  have HT : Hid (∀ W, Below n3 W0 W → (W.cell? ⟨n0, 0, none⟩ = some (.int .i64 s) ∧ W.cell? ⟨n0, 1, none⟩ = some (.int .i64 lf) ∧ W.cell? ⟨n0, 2, none⟩ = some (.slice A l.length c)) ∧ W.cell? ⟨n0 + 1, 0, none⟩ = some (.int .i64 s2) ∧ W.cell? ⟨n0 + 1, 1, none⟩ = some (.int .i64 lf2) ∧ W.cell? ⟨n0 + 1, 2, none⟩ = some (.slice A2 l2.length c2)) := fun W hb => by
    obtain ⟨a0, a1, a2, _⟩ := blk3 ((hb.block n0 (by omega)).trans hr0)
    obtain ⟨b0, b1, b2, _⟩ := blk3 ((hb.block (n0 + 1) (by omega)).trans hr1)
    exact ⟨⟨a0, a1, a2⟩, b0, b1, b2⟩
  have up : ∀ {α : Type} {E : Enc α} {A : Option Addr} {l : List α}, SlAt E w (Bl w.heap.size) A l → ∀ W, Below n3 W0 W → SlAt E W (Bl W.heap.size) A l := fun h W hb => by
    rw [hn0] at h
    exact (h.blk (fun g hg => (hb.block g (by have : g < n0 := hg; omega)).trans (hB0.block g hg))).more (fun g hg => by have : g < n0 := hg; have := hb.size; show g < W.heap.size; omega)
  have H1 := Lib.hid (up h1)
  have H2 := Lib.hid (up h2)
  have HB0 : Hid (Below w.heap.size w W0) := by rw [hn0]; exact hB0
  have HBE := Lib.hid (begin_any s lf A c l.length l W0 rfl (H1.out W0 (Below.refl _ _)) hs hc hI hlv)
  obtain ⟨xa, hxa⟩ : ∃ x, checkT (s, lf, l) = x := ⟨_, rfl⟩
  obtain ⟨xb, hxb⟩ : ∃ x, checkT (s2, lf2, l2) = x := ⟨_, rfl⟩
  have HCB := Lib.hid (fun W (hb : Below n3 W0 W) => check_any s2 lf2 A2 c2 l2.length l2 xb W rfl hxb (H2.out W hb) hs2 hc2 hI2)
  have HXA := Lib.hid hxa
  have HXB := Lib.hid hxb
  have HZ : Hid (∀ q, (q ≠ 0 ∧ difErr (s, lf, l) (s2, lf2, l2) = q) → difT (s, lf, l) (s2, lf2, l2) = [] ∧ sentT (s, lf, l) (s2, lf2, l2) = 0 ∧ difErr (s, lf, l) (s2, lf2, l2) = q) := fun q h => ⟨by unfold difT; rw [if_neg (by rw [h.2]; exact h.1)], by unfold sentT; rw [if_neg (by rw [h.2]; exact h.1)], h.2⟩
  obtain ⟨⟨p0, p1, p2⟩, p3, p4, p5⟩ := HT.out W0 (Below.refl _ _)
  have HN0 := Lib.hid hn0
  clear h1 h2 hr0 hr1 hs0 up hB0
  rw [hxa] at HBE
  clear hxa hxb
  go_enter Try.func26, Try.ntmps26
  go_wp2_with fail
  refine HBE.out.mono ?_
  rintro e w1 ⟨v1, B1, bc1, rfl, ⟨A9, c9, P9, pc9, F9, fc9, rfl, ⟨va1, va2, va3⟩, ⟨vb1, vb2, vb3⟩, ⟨vc1, vc2, vc3⟩, vi⟩, hm1, hm2, hms, hb1⟩
  replace va3 := va3.more (S' := Bl w1.heap.size) (fun g hg => hg.2)
  replace vb3 := vb3.more (S' := Bl w1.heap.size) (fun g hg => hg.2)
  replace vc3 := vc3.more (S' := Bl w1.heap.size) (fun g hg => hg.2)
  replace hms := hms.more (S' := Bl w1.heap.size) (fun g hg => hg.2)
  rw [hn3] at hb1
  clear p0 p1 p2 p3 p4 p5 hW0
  obtain ⟨n7, hn7⟩ : ∃ n7, w1.heap.size = n7 := ⟨_, rfl⟩
  by_cases hx0 : xa = 0
  · subst hx0
    have hbw : begW (s, lf, l) = ((s, lf, l), [(0, 1)], (l.length : Int) - 1, [], 0, false) := by unfold begW; rw [if_pos HXA.out]
    have hbm : begM (s, lf, l) = [reqMsg (begW (s, lf, l))] := by unfold begM; rw [if_pos HXA.out]
    rw [hbm] at hms hm1 ⊢
    rw [hbw] at va1 va3 vb1 vb3 vc1 vc3 vi hms ⊢
    simp only at va1 va3 vb1 vb3 vc1 vc3 vi
    have hz1 := hb1.size
    obtain ⟨W2, hW2⟩ : ∃ W2, w1.alloc (.cells #[.int .i64 s, .int .i64 lf, .slice A9 l.length c9, .slice P9 1 pc9, .int .i64 ((l.length : Int) - 1), .slice F9 0 fc9, .int .i64 0, .bool false] 27) = W2 := ⟨_, rfl⟩
    have hb2 : Below n7 w1 W2 := by rw [← hW2, ← hn7]; exact ext_alloc (Below.refl _ _)
    have hb02 : Below n3 W0 W2 := hb1.trans (hb2.mono (by omega))
    have hr2 : W2.heap[n7]? = some (.cells #[.int .i64 s, .int .i64 lf, .slice A9 l.length c9, .slice P9 1 pc9, .int .i64 ((l.length : Int) - 1), .slice F9 0 fc9, .int .i64 0, .bool false] 27 (0, 0)) := by rw [← hW2, ← hn7]; exact heap_alloc_new _ _
    have hz2 : W2.heap.size = n7 + 1 := by rw [← hW2, ← hn7]; simp
    obtain ⟨ms0, hms0⟩ : ∃ ms0, Value.slice B1 1 bc1 = ms0 := ⟨_, rfl⟩
    have HCB2 := Lib.hid (HCB.out W2 hb02)
    have HW2 := Lib.hid hW2
    clear hW2
    go_upto_region 2 with (fail)
    rw [HW2.out]
    obtain ⟨⟨p0, p1, p2⟩, p3, p4, p5⟩ := HT.out W2 hb02
    go_wp2_with fail
    refine HCB2.out.mono ?_
    rintro e w3 ⟨rfl, hb3⟩
    rw [hz2] at hb3
    have hb03 : Below n3 W0 w3 := hb02.trans (hb3.mono (by omega))
    clear p0 p1 p2 p3 p4 p5
    obtain ⟨⟨p0, p1, p2⟩, p3, p4, p5⟩ := HT.out w3 hb03
    by_cases hy0 : xb = 0
    · subst hy0
      by_cases g1 : s = s2
      · by_cases g2 : lf = lf2
        · subst g1 g2
          have hu : ∀ {A : Option Addr} {l : List (List Int)}, SlAt (encSl encU64) W0 (Bl W0.heap.size) A l → ∀ row ∈ l, ∀ x ∈ row, 0 ≤ x ∧ x < 18446744073709551616 := fun hh row hr x hx => by
            obtain ⟨k, hk, rfl⟩ := List.mem_iff_getElem.1 hr
            obtain ⟨j, hj, rfl⟩ := List.mem_iff_getElem.1 hx
            obtain ⟨_, _, _, _, _, _, _, hD, _, _⟩ := hh.sl hk
            obtain ⟨_, _, _, _, _, h0, h1⟩ := hD.u64 hj
            exact ⟨h0, h1⟩
          have HU1 := Lib.hid (hu (H1.out W0 (Below.refl _ _)))
          have HU2 := Lib.hid (hu (H2.out W0 (Below.refl _ _)))
          clear hu
          obtain ⟨n', m', rfl, rfl, tk⟩ := checkT_TOk HXA.out
          obtain ⟨n2', m2', e1, e2, tk2⟩ := checkT_TOk HXB.out
          obtain rfl : n2' = n' := by omega
          obtain rfl : m2' = m' := by omega
          clear e1 e2
          have hdE : difErr ((n2' : Int), (m2' : Int), l) ((n2' : Int), (m2' : Int), l2) = 0 := by unfold difErr; rw [if_neg (by rw [HXA.out]; simp), if_neg (by rw [HXB.out]; simp), if_neg (by simp)]
          have HDE := Lib.hid hdE
          obtain ⟨fin, hfin⟩ : ∃ fin, runW ((n2' : Int), (m2' : Int), l) l2 (l.length - 1) [0] 0 = fin := ⟨_, rfl⟩
          have HFIN := Lib.hid hfin
          have hne0 := tk.ne
          have hlen13 := tk.len
          have HRI : Hid (RunI n2' m2' l l2 fin (((n2' : Int), (m2' : Int), l), [(0, 1)], (l.length : Int) - 1, [], 0, false) [reqMsg (((n2' : Int), (m2' : Int), l), [(0, 1)], (l.length : Int) - 1, [], 0, false)]) := by
            have hst : stW ((n2' : Int), (m2' : Int), l) (l.length - 1) [0] 0 = (((n2' : Int), (m2' : Int), l), [(0, 1)], (l.length : Int) - 1, [], 0, false) := by
              unfold stW
              have : ((l.length - 1 : Nat) : Int) = (l.length : Int) - 1 := by omega
              rw [this]; rfl
            refine Or.inl ⟨l.length - 1, [0], 0, hst.symm, rfl, by omega, List.pairwise_singleton .., fun i hi => ?_, by simp, ?_, hfin⟩
            · rw [List.mem_singleton] at hi; have := (tk.at_ (l.length - 1) (by omega)).2.2.1; omega
            · have h1 := sent_nodes tk tk2
              have h2 := runs_len tk
              omega
          have HBX : Hid (WkBox w3 n7 (((n2' : Int), (m2' : Int), l), [(0, 1)], (l.length : Int) - 1, [], 0, false)) := by
            refine WkBox.grow (W := W2) ⟨_, _, _, _, _, _, _, _, hr2, ⟨A9, c9, P9, pc9, F9, fc9, rfl, ⟨va1, va2, (va3.blk (fun g hg => hb2.block g (by have : g < w1.heap.size := hg; omega))).more (fun g hg => ?_)⟩, ⟨vb1, vb2, (vb3.blk (fun g hg => hb2.block g (by have : g < w1.heap.size := hg; omega))).more (fun g hg => ?_)⟩, ⟨vc1, vc2, (vc3.blk (fun g hg => hb2.block g (by have : g < w1.heap.size := hg; omega))).more (fun g hg => ?_)⟩, vi⟩⟩ (by rw [hz2]; exact hb3)
            all_goals (have : g < w1.heap.size := hg; exact ⟨by omega, by omega⟩)
          have HMS : Hid (SlAt encMsg w3 (fun g => g < w3.heap.size ∧ g ≠ n7) B1 [reqMsg (((n2' : Int), (m2' : Int), l), [(0, 1)], (l.length : Int) - 1, [], 0, false)]) :=
            (hms.blk (fun g hg => (hb3.block g (by have : g < w1.heap.size := hg; omega)).trans (hb2.block g (by have : g < w1.heap.size := hg; omega)))).more (fun g hg => by have : g < w1.heap.size := hg; have := hb3.size; exact ⟨by omega, by omega⟩)
          clear hdE hfin va1 va2 va3 vb1 vb2 vb3 vc1 vc2 vc3 vi hms hr2
          go_wp2_with fail
          go_loopw [8, 9] (fun v e wr => ∃ (x : Wk) (ms : List Msg) (B : Option Addr) (bc : Nat), v = .slice B ms.length bc ∧ e = .int .i64 0 ∧ Hid (WkBox wr n7 x) ∧ Hid (SlAt encMsg wr (fun g => g < wr.heap.size ∧ g ≠ n7) B ms) ∧ Hid (Below n7 w3 wr) ∧ Hid (RunI n2' m2' l l2 fin x ms)) (fun v _ wr => runMeas n7 v wr)
          case atStart => exact ⟨(((n2' : Int), (m2' : Int), l), [(0, 1)], (l.length : Int) - 1, [], 0, false), [reqMsg (((n2' : Int), (m2' : Int), l), [(0, 1)], (l.length : Int) - 1, [], 0, false)], B1, bc1, hms0.symm, rfl, HBX.out, HMS.out, Below.refl _ _, HRI.out⟩
          case round =>
            clear HBX HMS HRI
            obtain ⟨wo, rfl⟩ : ∃ wo : World, wo = wr := ⟨_, rfl⟩
            obtain ⟨x, ms, B, bc, rfl, rfl, hbx, hms, hB, hri⟩ := hrel
            rcases hri.out with ⟨k, v, st, rfl, rfl, hk, hv, hvb, hvne, hst, hrun⟩ | ⟨rfl, rfl⟩
            · obtain ⟨bm, om, cs, rfl, hbm, hcs, V5, vc5, Bd5, bc5, rfl, _, ⟨x1, x2, x3⟩, x4, x5, x6⟩ := hms.out.at_ (k := 0) (by simp)
              obtain ⟨hA0, hAV⟩ := ans_ok (s := st) HXB.out tk tk2 hk hv hvb
              obtain ⟨q, hq⟩ : ∃ q, reqL (n2' : Int) (m2' : Int) (joinN v) = q := ⟨_, rfl⟩
              have hrq : reqMsg (stW ((n2' : Int), (m2' : Int), l) k v st) = (13, 0, 0, (k : Int), 0, 0, q, []) := by rw [← hq]; rfl
              have hql : q.length ≤ 100000 := by
                have h1 := joinN_len v
                have h2 : v.length ≤ 8192 := by
                  have : v.length ≤ sentN l l2 k v := by cases k <;> (unfold sentN; omega)
                  omega
                rw [← hq, reqL_len]; omega
              simp only [List.getElem_cons_zero, hrq] at hcs x1 x3 x4 x6 hA0 hAV
              have HAR := Lib.hid (fun W (hb : Below n3 W0 W) (h5 : SlAt encInt W (Bl W.heap.size) V5 q) => answer_any (n2' : Int) (m2' : Int) 13 0 0 (k : Int) 0 0 A2 V5 Bd5 c2 l2.length q.length vc5 0 bc5 l2 q [] W rfl rfl rfl (H2.out W hb) h5 hs2 hc2 hql ⟨x1, x2⟩ hI2 ⟨i64_small 0 (by omega), i64_small 0 (by omega), i64_small _ (by omega)⟩)
              rw [hA0, hAV] at HAR
              have hX3 := Lib.hid x3
              have c0 := hcs 0 _ rfl
              have c1 := hcs 1 _ rfl
              have c2' := hcs 2 _ rfl
              have c3 := hcs 3 _ rfl
              have c4 := hcs 4 _ rfl
              have c5 := hcs 5 _ rfl
              have c6 := hcs 6 _ rfl
              have c7 := hcs 7 _ rfl
              simp only [show encMsg.size = 8 from rfl, Nat.zero_mul, Nat.add_zero] at c0 c1 c2' c3 c4 c5 c6 c7
              clear hcs x3 x6
              obtain ⟨n10, hn10⟩ : ∃ n10, wo.heap.size = n10 := ⟨_, rfl⟩
              have hb0o : Below n3 W0 wo := hb03.trans (hB.out.mono (by omega))
              obtain ⟨Wz, hWz⟩ : ∃ Wz, wo.alloc (.cells #[.int .i64 0, .int .i64 0, .int .i64 0, .int .i64 0, .int .i64 0, .int .i64 0, .slice none 0 0, .slice none 0 0] 45) = Wz := ⟨_, rfl⟩
              have hbz : Below n10 wo Wz := by rw [← hWz, ← hn10]; exact ext_alloc (Below.refl _ _)
              have hzz : Wz.heap.size = n10 + 1 := by rw [← hWz, ← hn10]; simp
              have hrz : Wz.heap[n10]? = some (.cells #[.int .i64 0, .int .i64 0, .int .i64 0, .int .i64 0, .int .i64 0, .int .i64 0, .slice none 0 0, .slice none 0 0] 45 (0, 0)) := by rw [← hWz, ← hn10]; exact heap_alloc_new _ _
              have hb0z : Below n3 W0 Wz := hb0o.trans (hbz.mono (by have := hb0o.size; omega))
              have HWZ := Lib.hid hWz
              have hml : ([reqMsg (stW ((n2' : Int), (m2' : Int), l) k v st)]).length = 1 := rfl
              have hbm' : bm < n10 := by rw [← hn10]; exact hbm.1
              have HC : Hid (∀ W, BelX n10 Wz W → ((W.cell? ⟨n0 + 1, 0, none⟩ = some (.int .i64 (n2' : Int)) ∧ W.cell? ⟨n0 + 1, 1, none⟩ = some (.int .i64 (m2' : Int)) ∧ W.cell? ⟨n0 + 1, 2, none⟩ = some (.slice A2 l2.length c2)) ∧ (W.cell? ⟨bm, om, none⟩ = some (.int .i64 13) ∧ W.cell? ⟨bm, om + 1, none⟩ = some (.int .i64 0) ∧ W.cell? ⟨bm, om + 2, none⟩ = some (.int .i64 0) ∧ W.cell? ⟨bm, om + 3, none⟩ = some (.int .i64 (k : Int))) ∧
                  W.cell? ⟨bm, om + 4, none⟩ = some (.int .i64 0) ∧ W.cell? ⟨bm, om + 5, none⟩ = some (.int .i64 0) ∧ W.cell? ⟨bm, om + 6, none⟩ = some (.slice V5 q.length vc5) ∧ W.cell? ⟨bm, om + 7, none⟩ = some (.slice Bd5 0 bc5))) := fun W hb => by
                have hg : ∀ g i, g < n10 → W.cell? ⟨g, i, none⟩ = wo.cell? ⟨g, i, none⟩ := fun g i h => World.cell?_of_block ((hb g (by omega) (by omega)).trans (hbz.block g h))
                obtain ⟨_, p3, p4, p5⟩ := HT.out wo hb0o
                have hn0x : n0 + 1 < n10 := by have := hb0o.size; omega
                exact ⟨⟨(hg _ _ hn0x).trans p3, (hg _ _ hn0x).trans p4, (hg _ _ hn0x).trans p5⟩, ⟨(hg _ _ hbm').trans c0, (hg _ _ hbm').trans c1, (hg _ _ hbm').trans c2', (hg _ _ hbm').trans c3⟩, (hg _ _ hbm').trans c4, (hg _ _ hbm').trans c5, (hg _ _ hbm').trans c6, (hg _ _ hbm').trans c7⟩
              clear c0 c1 c2' c3 c4 c5 c6 c7 hWz
              have hSw : BelX n10 Wz Wz.drew := fun _ _ _ => rfl
              go_upto_region 8 with (fail)
              rw [HWZ.out]
              refine wp_region_U (fun W' => BelX n10 Wz W') 10 (by kernel_rfl) ?_
              refine wpAnyU_takeD (i := 0) (v := ?_) rfl rfl (by kernel_rfl) (by kernel_rfl) (by kernel_rfl) (by kernel_rfl) (fun _ _ _ h => h) (by rfl) ?_ hSw ?_
              rotate_left 1
              · intro W9 hW9
                try dsimp only at hW9
                obtain ⟨⟨p3, p4, p5⟩, ⟨c0, c1, c2', c3⟩, c4, c5, c6, c7⟩ := HC.out W9 hW9
                go_simp
                try with_reducible rfl
              try simp only [List.setIfInBounds_toArray, List.set_cons_zero, List.set_cons_succ]
              refine wpAnyU_op (i := 1) (by kernel_rfl) rfl rfl (fun K hK => ?_)
              go_simp
              refine hK.out _ _ (fun _ => hSw) ?_
              clear hK K
              try simp only [Act.put, List.setIfInBounds_toArray, List.set_cons_zero, List.set_cons_succ]
              refine wpAnyU_op (i := 2) (by kernel_rfl) rfl rfl (fun K hK => ?_)
              go_simp
              refine hK.out _ _ (fun _ => hSw) ?_
              clear hK K
              try simp only [Act.put, List.setIfInBounds_toArray, List.set_cons_zero, List.set_cons_succ]
              obtain ⟨⟨p3, p4, p5⟩, ⟨c0, c1, c2', c3⟩, c4, c5, c6, c7⟩ := HC.out _ hSw
              refine wpAnyU_op (i := 3) (by kernel_rfl) rfl rfl (fun K hK => ?_)
              go_simp
              refine hK.out _ _ (fun _ => hSw) ?_
              clear hK K
              try simp only [Act.put, List.setIfInBounds_toArray, List.set_cons_zero, List.set_cons_succ]
              clear p3 p4 p5 c0 c1 c2' c3 c4 c5 c6 c7
              obtain ⟨ma, hma⟩ : ∃ ma, ansM ((n2' : Int), (m2' : Int), l) l2 k v = ma := ⟨_, rfl⟩
              rw [hma] at HAR
              have HMA := Lib.hid hma
              have hV5z : SlAt encInt Wz.drew (Bl Wz.drew.heap.size) V5 q := (hX3.out.blk (fun g hg => hbz.block g (by rw [← hn10]; exact hg.1))).more (fun g hg => by show g < Wz.heap.size; have := hg.1; omega)
              refine wpAnyU_op (i := 4) (by kernel_rfl) rfl rfl (fun K hK => ?_)
              go_wp2_with fail
              refine ((HAR.out _ hb0z.drew hV5z)).mono ?_
              rintro e w6 ⟨v6, rfl, ⟨V6, vc6, B6, bc6, rfl, hi6, ⟨y1, y2, y3⟩, y4, y5, y6⟩, hb6'⟩; have hb6 : Below Wz.heap.size Wz w6 := bUn hb6'
              refine hK.out _ _ (fun _ => (belX_of hb6)) ?_
              clear hK K
              try simp only [Act.put, List.setIfInBounds_toArray, List.set_cons_zero, List.set_cons_succ]
              have hS6 : BelX n10 Wz w6 := belX_of hb6
              have hSw0 := hSw
              clear hSw
              have hSw := hS6
              refine wpAnyU_op (i := 5) (by kernel_rfl) rfl rfl (fun K hK => ?_)
              go_simp
              refine hK.out _ _ (fun _ => hS6) ?_
              clear hK K
              try simp only [Act.put, List.setIfInBounds_toArray, List.set_cons_zero, List.set_cons_succ]
              refine wpAnyU_takeD (i := 6) (v := ?_) rfl rfl (by kernel_rfl) (by kernel_rfl) (by kernel_rfl) (by kernel_rfl) (fun _ _ _ h => h) (by rfl) ?_ hSw ?_
              rotate_left 1
              · intro W9 hW9
                try dsimp only at hW9
                obtain ⟨⟨p3, p4, p5⟩, ⟨c0, c1, c2', c3⟩, c4, c5, c6, c7⟩ := HC.out W9 hW9
                go_simp
                try with_reducible rfl
              try simp only [List.setIfInBounds_toArray, List.set_cons_zero, List.set_cons_succ]
              refine wpAnyU_takeD (i := 7) (v := ?_) rfl rfl (by kernel_rfl) (by kernel_rfl) (by kernel_rfl) (by kernel_rfl) (fun _ _ _ h => h) (by rfl) ?_ hSw ?_
              rotate_left 1
              · intro W9 hW9
                try dsimp only at hW9
                obtain ⟨⟨p3, p4, p5⟩, ⟨c0, c1, c2', c3⟩, c4, c5, c6, c7⟩ := HC.out W9 hW9
                go_simp
                try with_reducible rfl
              try simp only [List.setIfInBounds_toArray, List.set_cons_zero, List.set_cons_succ]
              obtain ⟨z0, z1, z2, z3, z4, z5, z6, z7, zf⟩ := blk8 ((hb6.block n10 (by omega)).trans hrz)
              refine wpAnyU_op (i := 8) (by kernel_rfl) rfl rfl (fun K hK => ?_)
              go_simp
              have hoz : ∀ g, g ≠ n10 → (set8 w6 n10 (.int .i64 ma.1) (.int .i64 ma.2.1) (.int .i64 ma.2.2.1) (.int .i64 ma.2.2.2.1) (.int .i64 ma.2.2.2.2.1) (.int .i64 ma.2.2.2.2.2.1) (.slice V6 ma.2.2.2.2.2.2.1.length vc6) (.slice B6 ma.2.2.2.2.2.2.2.length bc6)).heap[g]? = w6.heap[g]? := fun g hg => set8_other hg _ _ _ _ _ _ _ _
              refine hK.out _ _ (fun _ => fun g h1 h2 => (hoz g h2).trans (hS6 g h1 h2)) ?_
              clear hK K z0 z1 z2 z3 z4 z5 z6 z7 zf
              have hr7 := set8_row ((hb6.block n10 (by omega)).trans hrz) (.int .i64 ma.1) (.int .i64 ma.2.1) (.int .i64 ma.2.2.1) (.int .i64 ma.2.2.2.1) (.int .i64 ma.2.2.2.2.1) (.int .i64 ma.2.2.2.2.2.1) (.slice V6 ma.2.2.2.2.2.2.1.length vc6) (.slice B6 ma.2.2.2.2.2.2.2.length bc6)
              have hs7 : (set8 w6 n10 (.int .i64 ma.1) (.int .i64 ma.2.1) (.int .i64 ma.2.2.1) (.int .i64 ma.2.2.2.1) (.int .i64 ma.2.2.2.2.1) (.int .i64 ma.2.2.2.2.2.1) (.slice V6 ma.2.2.2.2.2.2.1.length vc6) (.slice B6 ma.2.2.2.2.2.2.2.length bc6)).heap.size = w6.heap.size := set8_sz
              have hbe7 := set8_below (hbz.trans (hb6.mono (by omega))) (Nat.le_refl n10) (.int .i64 ma.1) (.int .i64 ma.2.1) (.int .i64 ma.2.2.1) (.int .i64 ma.2.2.2.1) (.int .i64 ma.2.2.2.2.1) (.int .i64 ma.2.2.2.2.2.1) (.slice V6 ma.2.2.2.2.2.2.1.length vc6) (.slice B6 ma.2.2.2.2.2.2.2.length bc6)
              change wpAnyU _ _ _ _ _ _ _ _ _ (set8 w6 n10 (.int .i64 ma.1) (.int .i64 ma.2.1) (.int .i64 ma.2.2.1) (.int .i64 ma.2.2.2.1) (.int .i64 ma.2.2.2.2.1) (.int .i64 ma.2.2.2.2.2.1) (.slice V6 ma.2.2.2.2.2.2.1.length vc6) (.slice B6 ma.2.2.2.2.2.2.2.length bc6))
              generalize set8 w6 n10 (.int .i64 ma.1) (.int .i64 ma.2.1) (.int .i64 ma.2.2.1) (.int .i64 ma.2.2.2.1) (.int .i64 ma.2.2.2.2.1) (.int .i64 ma.2.2.2.2.2.1) (.slice V6 ma.2.2.2.2.2.2.1.length vc6) (.slice B6 ma.2.2.2.2.2.2.2.length bc6) = W7 at hoz hr7 hs7 hbe7 ⊢
              refine wpAnyU_op (i := 9) (by kernel_rfl) rfl rfl (fun K hK => ?_)
              go_simp
              refine hK.out _ _ (fun _ => (fun g h1 h2 => (hoz g h2).trans (hS6 g h1 h2))) ?_
              clear hK K
              try simp only [Act.put, List.setIfInBounds_toArray, List.set_cons_zero, List.set_cons_succ]
              refine wpAnyU_done (by kernel_rfl) ?_ _
              obtain ⟨u0, u1, u2, u3, u4, u5, u6, u7, hrow, A5, c5, P5, pc5, F5, fc5, he, ⟨s1, s2, s3⟩, ⟨b1, b2, b3⟩, ⟨f1, f2, f3⟩, ii⟩ := hbx.out
              simp only [Value.agg.injEq, Array.mk.injEq, List.cons.injEq, and_true] at he
              obtain ⟨rfl, rfl, rfl, rfl, rfl, rfl, rfl, rfl⟩ := he
              have hn7l : n7 < n10 := by rw [← hn10]; exact (Array.getElem?_eq_some_iff.1 hrow).1
              have hrow7 := (hbe7.block n7 hn7l).trans hrow
              obtain ⟨a0, a1, a2, a3, a4, a5, a6, a7, _⟩ := blk8 hrow7
              obtain ⟨z0, z1, z2, z3, z4, z5, z6, z7, _⟩ := blk8 hr7
              have hzw : ∀ {g : Nat}, (g < wo.heap.size ∧ g ≠ n7) → Bl W7.heap.size g := fun hg => by show _ < W7.heap.size; rw [hs7]; have := hb6.size; have := hg.1; omega
              have hkw : ∀ g, (g < wo.heap.size ∧ g ≠ n7) → W7.heap[g]? = wo.heap[g]? := fun g hg => hbe7.block g (by rw [← hn10]; exact hg.1)
              obtain ⟨hLE, hRI, hlvl⟩ := runI_step HXA.out tk HU1.out HU2.out hk hv hvb hvne hst hrun
              rw [HMA.out] at hLE hRI hlvl
              have hjl : (joinN v).length ≤ 100000 := by
                have h1 := congrArg List.length hq
                rw [reqL_len] at h1
                omega
              have hvl : ma.2.2.2.2.2.2.1.length ≤ 100000000 := by
                rw [← HMA.out]
                show (reqL (n2' : Int) (m2' : Int) (joinN v)).length ≤ _
                rw [hq]; omega
              have hV6 : SlAt encInt W7 (Bl W7.heap.size) V6 ma.2.2.2.2.2.2.1 := (y3.blk (fun g hg => hoz g (by have := hg.1; have h9 : Wz.drew.heap.size = Wz.heap.size := rfl; omega))).more (fun g hg => by show g < W7.heap.size; rw [hs7]; exact hg.2)
              have hB6 : SlAt encU8 W7 (Bl W7.heap.size) B6 ma.2.2.2.2.2.2.2 := (y6.blk (fun g hg => hoz g (by have := hg.1; have h9 : Wz.drew.heap.size = Wz.heap.size := rfl; omega))).more (fun g hg => by show g < W7.heap.size; rw [hs7]; exact hg.2)
              have HLN := learn_any (n2' : Int) (m2' : Int) (k : Int) (st : Int) ma.1 ma.2.1 ma.2.2.1 ma.2.2.2.1 ma.2.2.2.2.1 ma.2.2.2.2.2.1 false A5 P5 F5 V6 B6 c5 pc5 fc5 l.length (joinN v).length 0 ma.2.2.2.2.2.2.1.length vc6 ma.2.2.2.2.2.2.2.length bc6 l (joinN v) [] ma.2.2.2.2.2.2.1 ma.2.2.2.2.2.2.2 W7 rfl rfl rfl rfl rfl
                ((s3.blk hkw).more (fun g hg => hzw hg)) ((b3.blk hkw).more (fun g hg => hzw hg)) ((f3.blk hkw).more (fun g hg => hzw hg)) hV6 hB6 hs ⟨s1, s2⟩ hjl ⟨b1, b2⟩ (Nat.zero_le _) ⟨f1, f2⟩ hvl ⟨y4, y5⟩ ii hlv
              change Calls _ _ _ _ (RetW (learnW (stW ((n2' : Int), (m2' : Int), l) k v st) ma) (learnM (stW ((n2' : Int), (m2' : Int), l) k v st) ma) (learnE (stW ((n2' : Int), (m2' : Int), l) k v st) ma) W7) at HLN
              obtain ⟨X, hX⟩ : ∃ X, learnW (stW ((n2' : Int), (m2' : Int), l) k v st) ma = X := ⟨_, rfl⟩
              obtain ⟨M, hM⟩ : ∃ M, learnM (stW ((n2' : Int), (m2' : Int), l) k v st) ma = M := ⟨_, rfl⟩
              rw [hX, hM] at hRI hlvl HLN
              rw [hLE] at HLN
              have HLN := Lib.hid HLN
              have HRI := Lib.hid hRI
              have HLV := Lib.hid hlvl
              have hl7 : n7 < W7.heap.size := (Array.getElem?_eq_some_iff.1 hrow7).1
              have HB37 : Hid (Below n7 w3 W7) := hB.out.trans (hbe7.mono (by omega))
              clear hX hM hLE hRI hlvl hV6 hB6 hvl hjl s3 b3 f3 y3 y6 hkw hzw hoz hbe7 hri hms hbx
              go_wp2_with fail
              refine HLN.out.mono ?_
              rintro e w8 ⟨v8, B8, bc8, rfl, ⟨A8, c8, P8, pc8, F8, fc8, rfl, ⟨g1, g2, g3⟩, ⟨g4, g5, g6⟩, ⟨g7, g8, g9⟩, gi⟩, m1, m2, m3, hb8⟩
              have hrow8 := (hb8.block n7 hl7).trans hrow7
              clear a0 a1 a2 a3 a4 a5 a6 a7 z0 z1 z2 z3 z4 z5 z6 z7
              obtain ⟨z0, z1, z2, z3, z4, z5, z6, z7, zf⟩ := blk8 hrow8
              have hr9 := set8_row hrow8 (.int .i64 X.1.1) (.int .i64 X.1.2.1) (.slice A8 X.1.2.2.length c8) (.slice P8 X.2.1.length pc8) (.int .i64 X.2.2.1) (.slice F8 X.2.2.2.1.length fc8) (.int .i64 X.2.2.2.2.1) (.bool X.2.2.2.2.2)
              have hv4 : (set8 w8 n7 (.int .i64 X.1.1) (.int .i64 X.1.2.1) (.slice A8 X.1.2.2.length c8) (.slice P8 X.2.1.length pc8) (.int .i64 X.2.2.1) (.slice F8 X.2.2.2.1.length fc8) (.int .i64 X.2.2.2.2.1) (.bool X.2.2.2.2.2)).cell? ⟨n7, 4, none⟩ = some (.int .i64 X.2.2.1) := (blk8 hr9).2.2.2.2.1
              have h4 : wo.cell? ⟨n7, 4, none⟩ = some (.int .i64 (k : Int)) := (blk8 hrow).2.2.2.2.1
              have ho9 : ∀ g, Nw W7.heap.size w8.heap.size g → (set8 w8 n7 (.int .i64 X.1.1) (.int .i64 X.1.2.1) (.slice A8 X.1.2.2.length c8) (.slice P8 X.2.1.length pc8) (.int .i64 X.2.2.1) (.slice F8 X.2.2.2.1.length fc8) (.int .i64 X.2.2.2.2.1) (.bool X.2.2.2.2.2)).heap[g]? = w8.heap[g]? := fun g hg => set8_other (by have := hg.1; omega) _ _ _ _ _ _ _ _
              have hm9 : ∀ g, Nw W7.heap.size w8.heap.size g → g < (set8 w8 n7 (.int .i64 X.1.1) (.int .i64 X.1.2.1) (.slice A8 X.1.2.2.length c8) (.slice P8 X.2.1.length pc8) (.int .i64 X.2.2.1) (.slice F8 X.2.2.2.1.length fc8) (.int .i64 X.2.2.2.2.1) (.bool X.2.2.2.2.2)).heap.size ∧ g ≠ n7 := fun g hg => ⟨by rw [set8_sz]; exact hg.2, by have := hg.1; omega⟩
              have hbox : Hid (WkBox (set8 w8 n7 (.int .i64 X.1.1) (.int .i64 X.1.2.1) (.slice A8 X.1.2.2.length c8) (.slice P8 X.2.1.length pc8) (.int .i64 X.2.2.1) (.slice F8 X.2.2.2.1.length fc8) (.int .i64 X.2.2.2.2.1) (.bool X.2.2.2.2.2)) n7 X) := ⟨_, _, _, _, _, _, _, _, hr9, A8, c8, P8, pc8, F8, fc8, rfl, ⟨g1, g2, (g3.blk ho9).more hm9⟩, ⟨g4, g5, (g6.blk ho9).more hm9⟩, ⟨g7, g8, (g9.blk ho9).more hm9⟩, gi⟩
              have hmsn : Hid (SlAt encMsg (set8 w8 n7 (.int .i64 X.1.1) (.int .i64 X.1.2.1) (.slice A8 X.1.2.2.length c8) (.slice P8 X.2.1.length pc8) (.int .i64 X.2.2.1) (.slice F8 X.2.2.2.1.length fc8) (.int .i64 X.2.2.2.2.1) (.bool X.2.2.2.2.2)) (fun g => g < (set8 w8 n7 (.int .i64 X.1.1) (.int .i64 X.1.2.1) (.slice A8 X.1.2.2.length c8) (.slice P8 X.2.1.length pc8) (.int .i64 X.2.2.1) (.slice F8 X.2.2.2.1.length fc8) (.int .i64 X.2.2.2.2.1) (.bool X.2.2.2.2.2)).heap.size ∧ g ≠ n7) B8 M) := (m3.blk ho9).more hm9
              have hbel : Hid (Below n7 w3 (set8 w8 n7 (.int .i64 X.1.1) (.int .i64 X.1.2.1) (.slice A8 X.1.2.2.length c8) (.slice P8 X.2.1.length pc8) (.int .i64 X.2.2.1) (.slice F8 X.2.2.2.1.length fc8) (.int .i64 X.2.2.2.2.1) (.bool X.2.2.2.2.2))) := set8_below (HB37.out.trans (hb8.mono (by omega))) (Nat.le_refl _) _ _ _ _ _ _ _ _
              have hmeas : Hid (runMeas n7 (.slice B8 M.length bc8) (set8 w8 n7 (.int .i64 X.1.1) (.int .i64 X.1.2.1) (.slice A8 X.1.2.2.length c8) (.slice P8 X.2.1.length pc8) (.int .i64 X.2.2.1) (.slice F8 X.2.2.2.1.length fc8) (.int .i64 X.2.2.2.2.1) (.bool X.2.2.2.2.2)) < runMeas n7 (.slice (some ⟨bm, om, none⟩) 1 bc) wo) := by
                rw [Hid]
                unfold runMeas
                rw [hv4, h4]
                simp only [Option.getD_some, intOf]
                rcases HRI.out with ⟨k', v', s', hX', hM', _⟩ | ⟨_, hM'⟩
                · have hx : X.2.2.1 = (k' : Int) := by rw [hX']; rfl
                  rcases HLV.out with h | h
                  · rw [h]; simp; omega
                  · rw [hM', hx]; rw [hx] at h; simp; omega
                · rw [hM']; simp; omega
              clear hr9 hv4 h4 ho9 hm9 g3 g6 g9 m3
              go_wp2_with fail
              exact ⟨⟨X, M, B8, bc8, rfl, rfl, hbox.out, hmsn.out, hbel.out, HRI.out⟩, hmeas.out⟩
            · obtain ⟨u0, u1, u2, u3, u4, u5, u6, u7, hrow, A5, c5, P5, pc5, F5, fc5, he, _, _, ⟨f1, f2, f3⟩, _⟩ := hbx.out
              simp only [Value.agg.injEq, Array.mk.injEq, List.cons.injEq, and_true] at he
              obtain ⟨rfl, rfl, rfl, rfl, rfl, rfl, rfl, rfl⟩ := he
              rw [← HFIN.out, runW_end] at hrow f1 f3
              simp only at hrow f1 f3
              obtain ⟨a0, a1, a2, a3, a4, a5, a6, a7, _⟩ := blk8 hrow
              have HF3 := Lib.hid f3
              clear f3
              have hd1 : difT ((n2' : Int), (m2' : Int), l) ((n2' : Int), (m2' : Int), l2) = opL or ((fnd l l2 (l.length - 1) [0]).map (leafE ((n2' : Int)).toNat ((m2' : Int)).toNat)) [] := by unfold difT; rw [if_pos HDE.out]; rfl
              have hd2 : sentT ((n2' : Int), (m2' : Int), l) ((n2' : Int), (m2' : Int), l2) = ((0 + sentN l l2 (l.length - 1) [0] : Nat) : Int) := by unfold sentT; rw [if_pos HDE.out, Nat.zero_add]
              obtain ⟨ff, hff⟩ : ∃ ff, opL or ((fnd l l2 (l.length - 1) [0]).map (leafE ((n2' : Int)).toNat ((m2' : Int)).toNat)) [] = ff := ⟨_, rfl⟩
              obtain ⟨sn, hsn⟩ : ∃ sn, ((0 + sentN l l2 (l.length - 1) [0] : Nat) : Int) = sn := ⟨_, rfl⟩
              rw [hff] at hd1 a5 f1 HF3
              rw [hsn] at hd2 a6
              have HD := Lib.hid (And.intro hd1 hd2)
              have hbo : Hid (Below w.heap.size w wo) := HB0.out.trans ((hb03.trans (hB.out.mono (by omega))).mono (by have := HN0.out; omega))
              clear hd1 hd2 hff hsn hrow
              go_wp2_with fail
              go_quiet (fail)
              generalize hWq : wo.drewN _ = wq
              have hdq : Drew wo wq := ⟨_, hWq.symm⟩
              clear hWq
              go_wp2_with fail
              refine bodyPost_ret (v := .tuple #[.slice F5 ff.length fc5, .int .i64 sn, .int .i64 0]) ?_ rfl ?_
              · simp [results, Try.results26, Try.f26, go_sem]
              rw [HD.out.1, HD.out.2, HDE.out]
              exact ⟨F5, fc5, rfl, f1, f2, (HF3.out.blk (fun g hg => (hdq.below wo.heap.size).block g hg.1)).more (fun g hg => by show g < wq.heap.size; rw [hdq.heap]; exact hg.1), hbo.out.trans (hdq.below _)⟩
        · have hdE : difErr (s, lf, l) (s2, lf2, l2) = 22 := by unfold difErr; rw [if_neg (by rw [HXA.out]; simp), if_neg (by rw [HXB.out]; simp), if_pos (Or.inr g2)]
          have hne : (lf != lf2) = true := by simp [g2]
          have heq : (s != s2) = false := by simp [g1]
          clear g1
          go_wp2_with fail
          go_loopw [8, 9] (fun v e wr => v = ms0 ∧ e = .int .i64 22 ∧ wr = w3) (fun _ _ _ => 0)
          case atStart => first | exact ⟨rfl, rfl, rfl⟩ | exact ⟨hms0, rfl, rfl⟩
          case round =>
            obtain ⟨rfl, rfl, rfl⟩ := hrel
            go_wp2
            refine bodyPost_ret (v := .tuple #[.slice none 0 0, .int .i64 0, .int .i64 22]) ?_ rfl ?_
            · simp [results, Try.results26, Try.f26, go_sem]
            rw [(HZ.out 22 ⟨by decide, hdE⟩).1, (HZ.out 22 ⟨by decide, hdE⟩).2.1, (HZ.out 22 ⟨by decide, hdE⟩).2.2]
            exact ⟨none, 0, rfl, Nat.zero_le _, Nat.zero_le _, SlAt.nil_, HB0.out.trans (hb03.mono (by have := HN0.out; omega))⟩
      · have hdE : difErr (s, lf, l) (s2, lf2, l2) = 22 := by unfold difErr; rw [if_neg (by rw [HXA.out]; simp), if_neg (by rw [HXB.out]; simp), if_pos (Or.inl g1)]
        have hne : (s != s2) = true := by simp [g1]
        go_wp2_with fail
        go_loopw [8, 9] (fun v e wr => v = ms0 ∧ e = .int .i64 22 ∧ wr = w3) (fun _ _ _ => 0)
        case atStart => first | exact ⟨rfl, rfl, rfl⟩ | exact ⟨hms0, rfl, rfl⟩
        case round =>
          obtain ⟨rfl, rfl, rfl⟩ := hrel
          go_wp2
          refine bodyPost_ret (v := .tuple #[.slice none 0 0, .int .i64 0, .int .i64 22]) ?_ rfl ?_
          · simp [results, Try.results26, Try.f26, go_sem]
          rw [(HZ.out 22 ⟨by decide, hdE⟩).1, (HZ.out 22 ⟨by decide, hdE⟩).2.1, (HZ.out 22 ⟨by decide, hdE⟩).2.2]
          exact ⟨none, 0, rfl, Nat.zero_le _, Nat.zero_le _, SlAt.nil_, HB0.out.trans (hb03.mono (by have := HN0.out; omega))⟩
    · have hdE : difErr (s, lf, l) (s2, lf2, l2) = xb := by unfold difErr; rw [if_neg (by rw [HXA.out]; simp), if_pos (by rw [HXB.out]; exact hy0), HXB.out]
      go_wp2_with fail
      go_loopw [8, 9] (fun v e wr => v = ms0 ∧ e = .int .i64 xb ∧ wr = w3) (fun _ _ _ => 0)
      case atStart => first | exact ⟨rfl, rfl, rfl⟩ | exact ⟨hms0, rfl, rfl⟩
      case round =>
        obtain ⟨rfl, rfl, rfl⟩ := hrel
        go_wp2
        refine bodyPost_ret (v := .tuple #[.slice none 0 0, .int .i64 0, .int .i64 xb]) ?_ rfl ?_
        · simp [results, Try.results26, Try.f26, go_sem]
        rw [(HZ.out xb ⟨hy0, hdE⟩).1, (HZ.out xb ⟨hy0, hdE⟩).2.1, (HZ.out xb ⟨hy0, hdE⟩).2.2]
        exact ⟨none, 0, rfl, Nat.zero_le _, Nat.zero_le _, SlAt.nil_, HB0.out.trans (hb03.mono (by have := HN0.out; omega))⟩
  · have hbw : begW (s, lf, l) = zWk := by unfold begW; rw [if_neg (by rw [HXA.out]; exact hx0)]
    have hbm : begM (s, lf, l) = [] := by unfold begM; rw [if_neg (by rw [HXA.out]; exact hx0)]
    have hdE : difErr (s, lf, l) (s2, lf2, l2) = xa := by unfold difErr; rw [if_pos (by rw [HXA.out]; exact hx0), HXA.out]
    rw [hbw, hbm]
    obtain ⟨ms0, hms0⟩ : ∃ ms0, Value.slice B1 0 bc1 = ms0 := ⟨_, rfl⟩
    have hb1' : Below n3 W0 (w1.alloc (.cells #[.int .i64 0, .int .i64 0, .slice A9 0 c9, .slice P9 0 pc9, .int .i64 0, .slice F9 0 fc9, .int .i64 0, .bool false] 27)) := hb1.alloc (by have := hb1.size; omega) _
    go_wp2_with fail
    go_loopw [8, 9] (fun v e wr => v = ms0 ∧ e = .int .i64 xa ∧ wr = (w1.alloc (.cells #[.int .i64 0, .int .i64 0, .slice A9 0 c9, .slice P9 0 pc9, .int .i64 0, .slice F9 0 fc9, .int .i64 0, .bool false] 27))) (fun _ _ _ => 0)
    case atStart => first | exact ⟨rfl, rfl, rfl⟩ | exact ⟨hms0, rfl, rfl⟩
    case round =>
      obtain ⟨rfl, rfl, rfl⟩ := hrel
      go_wp2
      refine bodyPost_ret (v := .tuple #[.slice none 0 0, .int .i64 0, .int .i64 xa]) ?_ rfl ?_
      · simp [results, Try.results26, Try.f26, go_sem]
      rw [(HZ.out xa ⟨hx0, hdE⟩).1, (HZ.out xa ⟨hx0, hdE⟩).2.1, (HZ.out xa ⟨hx0, hdE⟩).2.2]
      exact ⟨none, 0, rfl, Nat.zero_le _, Nat.zero_le _, SlAt.nil_, HB0.out.trans (hb1'.mono (by have := HN0.out; omega))⟩
end Go.Proofs.Ytjehedfdikdfpaa
namespace Go.Proofs.Ytjehedfdikdfpaa
open Go.RowKit Go.Shelf
attribute [local go_sem] Oper.semAt_some

set_option maxHeartbeats 4000000 in
set_option maxRecDepth 100000 in
theorem bound_any (size leaf d v r : Int) (w : World) (hv : boundV size leaf d = v) (hr : boundE size leaf d = r) : Calls Try.prog 28 #[.int .i64 size, .int .i64 leaf, .int .i64 d] w fun e w' => e = .returned (.tuple #[.int .i64 v, .int .i64 r]) ∧ w' = w := by
  have HV := Lib.hid hv; have HR := Lib.hid hr; clear hv hr
  have HB : Hid (∀ q : Int, boundE size leaf d = q → q ≠ 0 → q = r ∧ (0 : Int) = v) := fun q h hq => by
    refine ⟨h.symm.trans HR.out, ?_⟩
    rw [← HV.out, boundV, if_neg (by rw [h]; exact hq)]
  go_enter Try.func28, Try.ntmps28
  by_cases h1 : size < 1
  · obtain ⟨e1, e2⟩ := HB.out 2 (by rw [boundE, if_pos (Or.inl h1)]) (by decide)
    have E := Lib.hid (And.intro e1 e2); clear e1 e2
    go_wp2
    refine bodyPost_ret (v := .tuple #[.int .i64 (0), .int .i64 (2)]) ?_ rfl ?_
    · simp [results, Try.results28, Try.f28, go_sem]
    exact ⟨by rw [E.out.1, E.out.2], rfl⟩
  by_cases h2 : 4096 < size
  · obtain ⟨e1, e2⟩ := HB.out 2 (by rw [boundE, if_pos (Or.inr h2)]) (by decide)
    have E := Lib.hid (And.intro e1 e2); clear e1 e2
    go_wp2
    refine bodyPost_ret (v := .tuple #[.int .i64 (0), .int .i64 (2)]) ?_ rfl ?_
    · simp [results, Try.results28, Try.f28, go_sem]
    exact ⟨by rw [E.out.1, E.out.2], rfl⟩
  by_cases h3 : leaf < 1
  · obtain ⟨e1, e2⟩ := HB.out 1 (by rw [boundE, if_neg (by omega), if_pos (Or.inl h3)]) (by decide)
    have E := Lib.hid (And.intro e1 e2); clear e1 e2
    go_wp2
    refine bodyPost_ret (v := .tuple #[.int .i64 (0), .int .i64 (1)]) ?_ rfl ?_
    · simp [results, Try.results28, Try.f28, go_sem]
    exact ⟨by rw [E.out.1, E.out.2], rfl⟩
  by_cases h4 : 4096 < leaf
  · obtain ⟨e1, e2⟩ := HB.out 1 (by rw [boundE, if_neg (by omega), if_pos (Or.inr h4)]) (by decide)
    have E := Lib.hid (And.intro e1 e2); clear e1 e2
    go_wp2
    refine bodyPost_ret (v := .tuple #[.int .i64 (0), .int .i64 (1)]) ?_ rfl ?_
    · simp [results, Try.results28, Try.f28, go_sem]
    exact ⟨by rw [E.out.1, E.out.2], rfl⟩
  obtain ⟨n, rfl⟩ : ∃ n : Nat, size = n := ⟨size.toNat, by omega⟩
  obtain ⟨m, rfl⟩ : ∃ m : Nat, leaf = m := ⟨leaf.toNat, by omega⟩
  obtain ⟨L, hL⟩ : ∃ L, leavesN n m = L := ⟨_, rfl⟩
  have hLI : ((n : Int) + m - 1) / m = (L : Int) := by
    rw [← hL]; unfold leavesN
    have e : ((n : Int) + m - 1) = ((n + m - 1 : Nat) : Int) := by omega
    rw [e, ← Int.natCast_ediv]
  have hL4 : L ≤ 4096 := by
    rw [← hL]; unfold leavesN
    exact Nat.le_trans (Nat.div_le_of_le_mul (by
      have : n + m - 1 ≤ m * 4096 := by
        have h : 4096 + m ≤ m * 4096 + 1 := by
          have : 1 ≤ m := by omega
          omega
        omega
      exact this)) (Nat.le_refl _)
  have hmz : ¬ (m : Int) = 0 := by omega
  have HL := Lib.hid hL
  clear hL
  go_upto_region 6 with (fail)
  try rw [hLI]
  by_cases h5 : d < 0
  · obtain ⟨e1, e2⟩ := HB.out 2 (by rw [boundE, if_neg (by omega), if_neg (by omega), if_pos (Or.inl h5)]) (by decide)
    have E := Lib.hid (And.intro e1 e2); clear e1 e2
    go_wp2
    refine bodyPost_ret (v := .tuple #[.int .i64 (0), .int .i64 (2)]) ?_ rfl ?_
    · simp [results, Try.results28, Try.f28, go_sem]
    exact ⟨by rw [E.out.1, E.out.2], rfl⟩
  by_cases h6 : (L : Int) < d
  · obtain ⟨e1, e2⟩ := HB.out 2 (by rw [boundE, if_neg (by omega), if_neg (by omega), if_pos (Or.inr (by simp only [Int.toNat_natCast]; rw [HL.out]; exact h6))]) (by decide)
    have E := Lib.hid (And.intro e1 e2); clear e1 e2
    go_wp2
    refine bodyPost_ret (v := .tuple #[.int .i64 (0), .int .i64 (2)]) ?_ rfl ?_
    · simp [results, Try.results28, Try.f28, go_sem]
    exact ⟨by rw [E.out.1, E.out.2], rfl⟩
  obtain ⟨k, rfl⟩ : ∃ k : Nat, d = k := ⟨d.toNat, by omega⟩
  have HE0 : Hid ((0 : Int) = r ∧ ((1 + boundF 13 L k : Nat) : Int) = v) := by
    have h : boundE (n : Int) (m : Int) (k : Int) = 0 := by
      rw [boundE, if_neg (by omega), if_neg (by omega), if_neg (by simp only [Int.toNat_natCast]; rw [HL.out]; omega)]
    refine ⟨h.symm.trans HR.out, ?_⟩
    rw [← HV.out, boundV, if_pos h]
    simp only [Int.toNat_natCast]
    rw [HL.out]; omega
  have hbl := boundF_le k 13 L
  have hkL : k ≤ 4096 := by omega
  have HBL : Hid (1 + boundF 13 L k ≤ 60000) := by rw [Hid]; omega
  clear hbl hLI HV HR HB
  go_wp2
  go_loopw [8, 9] (fun nv sv wr => ∃ (f nodes s : Nat), nv = .int .i64 nodes ∧ sv = .int .i64 s ∧ wr = w ∧ f ≤ 13 ∧ nodes ≤ 4096 ∧ Hid (nodes ≤ 2 ^ f) ∧ s ≤ 60000 ∧ Hid (s + boundF f nodes k = 1 + boundF 13 L k)) (fun nv _ _ => (intOf nv).toNat)
  case atStart => exact ⟨13, L, 1, rfl, rfl, rfl, by omega, hL4, by rw [Hid]; omega, by omega, rfl⟩
  case round =>
    obtain ⟨f, nodes, s, rfl, rfl, rfl, hf, hn4, h2f, hs6, hsum⟩ := hrel
    by_cases hn1 : 1 < nodes
    · have hnI : (1 : Int) < nodes := by omega
      obtain ⟨f', rfl⟩ : ∃ f', f = f' + 1 := ⟨f - 1, by
        rcases Nat.eq_zero_or_pos f with h | h
        · have := h2f.out; rw [h] at this; omega
        · omega⟩
      have h2f' : Hid ((nodes + 1) / 2 ≤ 2 ^ f') := by have := h2f.out; rw [Nat.pow_succ] at this; rw [Hid]; omega
      have hsum' : Hid ((s + min nodes (2 * min k ((nodes + 1) / 2))) + boundF f' ((nodes + 1) / 2) k = 1 + boundF 13 L k) := by
        have h := hsum.out
        have hu : boundF (f' + 1) nodes k = min nodes (2 * min k ((nodes + 1) / 2)) + boundF f' ((nodes + 1) / 2) k := by
          show (if 1 < nodes then min nodes (2 * min k ((nodes + 1) / 2)) + boundF f' ((nodes + 1) / 2) k else 0) = _
          rw [if_pos hn1]
        rw [hu] at h
        rw [Hid]; omega
      have hs7 : s + min nodes (2 * min k ((nodes + 1) / 2)) ≤ 60000 := by have := hsum'.out; have := HBL.out; omega
      obtain ⟨ab, hab⟩ : ∃ ab, (nodes + 1) / 2 = ab := ⟨_, rfl⟩
      rw [hab] at h2f' hsum' hs7
      have habI : ((nodes : Int) + 1) / 2 = (ab : Int) := by omega
      have hab4 : ab ≤ 4096 := by omega
      have habn : ab < nodes := by omega
      have HAB := Lib.hid hab
      clear hab
      obtain ⟨s', hs'⟩ : ∃ s', s + min nodes (2 * min k ab) = s' := ⟨_, rfl⟩
      rw [hs'] at hsum' hs7
      go_upto_region 11 with (fail)
      try rw [habI]
      by_cases hka : k ≤ ab
      · have hkaI : (k : Int) ≤ ab := by omega
        by_cases hkn : 2 * k ≤ nodes
        · have e : (s : Int) + 2 * k = (s' : Int) := by omega
          go_wp2
          all_goals first | (exfalso; omega) | skip
          all_goals
            go_roundw
            case rel => exact ⟨f', ab, s', by go_num, by go_num, by first | trivial | rfl, by omega, hab4, h2f'.out, hs7, hsum'.out⟩
            case measure => simp [intOf]; omega
        · have e : (s : Int) + nodes = (s' : Int) := by omega
          go_wp2
          all_goals first | (exfalso; omega) | skip
          all_goals
            go_roundw
            case rel => exact ⟨f', ab, s', by go_num, by go_num, by first | trivial | rfl, by omega, hab4, h2f'.out, hs7, hsum'.out⟩
            case measure => simp [intOf]; omega
      · by_cases hkn : 2 * ab ≤ nodes
        · have e : (s : Int) + 2 * ab = (s' : Int) := by omega
          go_wp2
          all_goals first | (exfalso; omega) | skip
          all_goals
            go_roundw
            case rel => exact ⟨f', ab, s', by go_num, by go_num, by first | trivial | rfl, by omega, hab4, h2f'.out, hs7, hsum'.out⟩
            case measure => simp [intOf]; omega
        · have e : (s : Int) + nodes = (s' : Int) := by omega
          go_wp2
          all_goals first | (exfalso; omega) | skip
          all_goals
            go_roundw
            case rel => exact ⟨f', ab, s', by go_num, by go_num, by first | trivial | rfl, by omega, hab4, h2f'.out, hs7, hsum'.out⟩
            case measure => simp [intOf]; omega
    · have hnI : ¬ (1 : Int) < nodes := by omega
      have hE : Hid (((s : Nat) : Int) = v) := by
        have h := hsum.out
        rw [boundF_stop f (by omega), Nat.add_zero] at h
        rw [Hid, h]; exact HE0.out.2
      go_wp2
      refine bodyPost_ret (v := .tuple #[.int .i64 ((s : Int)), .int .i64 (0)]) ?_ rfl ?_
      · simp [results, Try.results28, Try.f28, go_sem]
      exact ⟨by rw [hE.out, HE0.out.1], rfl⟩
end Go.Proofs.Ytjehedfdikdfpaa
namespace Go.Proofs.Ytjehedfdikdfpaa
open Go.RowKit Go.Shelf
attribute [local go_sem] Oper.semAt_some

def awL6 : List Sec := [sN 1, sN 2, sN 3, sN 4, sN 6]
def awE : Int := digS [sN 6]
theorem awBuild6 : buildErr awL6 2 = 0 ∧ buildT awL6 2 = awT awA awB awE := by
  refine ⟨by decide, ?_⟩
  have h : digests awL6 2 = [awA, awB, awE] := rfl
  rw [buildT_ok (by decide)]
  show ((5 : Int), (2 : Int), levels (digests awL6 2)) = _
  rw [h, levels3]; rfl
theorem awDif6 : difErr (awT awA awB awC) (awT awA awB awE) = 0 ∧ difT (awT awA awB awC) (awT awA awB awE) = [(4, 1)] ∧ sentT (awT awA awB awC) (awT awA awB awE) = 4 := by
  have h : difErr (awT awA awB awC) (awT awA awB awE) = 0 := by unfold difErr; rw [awCheck, awCheck, if_neg (by decide), if_neg (by decide), if_neg (by simp [awT])]
  refine ⟨h, ?_, ?_⟩
  · have e : difE (awT awA awB awC) (awT awA awB awE) = [(4, 1)] := by decide +kernel
    unfold difT
    rw [if_pos h, e]
    unfold opL
    have r : runsL (below (fun x => or ([((4 : Int), (1 : Int))].any (inExt x)) (([] : List Ext).any (inExt x))) 5) = [(4, 1)] := by decide +kernel
    rw [runs_off (a := 5) (by omega), r]
    intro x hx _
    simp [inExt]; omega
  · unfold sentT
    rw [if_pos h]
    have e : sentN (awT awA awB awC).2.2 (awT awA awB awE).2.2 ((awT awA awB awC).2.2.length - 1) [0] = 4 := by decide +kernel
    rw [e]; rfl
theorem awTrees : ∃ la lb : List (List Int), (buildErr awL 2 = 0 ∧ buildT awL 2 = (5, 2, la)) ∧ (buildErr awL6 2 = 0 ∧ buildT awL6 2 = (5, 2, lb)) ∧ (la.length = 3 ∧ lb.length = 3) ∧ checkT (5, 2, la) = 0 ∧ (∀ row ∈ la, row.length ≤ 1000000) ∧ difErr (5, 2, la) (5, 2, lb) = 0 ∧ difT (5, 2, la) (5, 2, lb) = [(4, 1)] ∧ sentT (5, 2, la) (5, 2, lb) = 4 :=
  ⟨(awT awA awB awC).2.2, (awT awA awB awE).2.2, awBuild, awBuild6, ⟨rfl, rfl⟩, awCheck _ _ _, by simp [awT], awDif6.1, awDif6.2.1, awDif6.2.2⟩
theorem awBounds : (boundE 5 2 1 = 0 ∧ boundV 5 2 1 = 5) ∧ boundE 5 2 0 = 0 ∧ boundV 5 2 0 = 1 := by decide
theorem awBeg {la : List (List Int)} (hl : la.length = 3) (hc : checkT (5, 2, la) = 0) : begW (5, 2, la) = ((5, 2, la), [(0, 1)], 2, [], 0, false) ∧ begM (5, 2, la) = [(13, 0, 0, 2, 0, 0, [5, 2, 0, 1], [])] := by
  have h1 : begW (5, 2, la) = ((5, 2, la), [(0, 1)], 2, [], 0, false) := by unfold begW; rw [if_pos hc]; simp only; rw [hl]; rfl
  refine ⟨h1, ?_⟩
  unfold begM
  rw [if_pos hc, h1]; rfl
set_option maxHeartbeats 8000000 in
set_option maxRecDepth 100000 in
theorem awake44_any (w : World) : Calls Try.prog 13 #[] w (LawRet w) := by
  obtain ⟨la, lb, ⟨ea, ta⟩, ⟨eb, tb⟩, ⟨hla, hlb⟩, hcka, hrow, hde, hdt, hst⟩ := awTrees
  obtain ⟨n0, hn0⟩ : ∃ n0, w.heap.size = n0 := ⟨_, rfl⟩
  obtain ⟨W1, hW1⟩ : ∃ W1, w.alloc (.cells (awV 5) 80) = W1 := ⟨_, rfl⟩
  have hb1 : Below n0 w W1 := by rw [← hW1, ← hn0]; exact ext_alloc (Below.refl _ _)
  have hz1 : W1.heap.size = n0 + 1 := by rw [← hW1, ← hn0]; simp
  have hr1 : W1.heap[n0]? = some (.cells (awV 5) 80 (0, 0)) := by rw [← hW1, ← hn0]; exact heap_alloc_new _ _
  have hl1 : SlAt encSec W1 (Bl W1.heap.size) (some ⟨n0, 0, none⟩) awL := litSl (E := encSec) (S := Bl W1.heap.size) (S0 := fun _ => False) (css := awL.map secV) (l := awL) hr1 rfl (awOk 5 (by omega)) (fun _ h => h.elim) (by show n0 < W1.heap.size; omega) (fun h => h)
  have HBA := refBuild_any (some ⟨n0, 0, none⟩) 5 5 awL 2 W1 rfl ⟨Nat.le_refl _, by unfold maxLen; decide⟩ hl1 (by omega) (by unfold I64; decide)
  rw [ea, ta] at HBA
  have HBA := Lib.hid HBA
  have HN0 := Lib.hid hn0
  have HLA := Lib.hid hla
  have HLB := Lib.hid hlb
  have HEB := Lib.hid (And.intro eb tb)
  have HDE := Lib.hid (And.intro hde (And.intro hdt hst))
  have HCK := Lib.hid hcka
  have HRW := Lib.hid hrow
  clear ea ta eb tb hla hlb hr1 hl1 hde hdt hst hcka hrow
  go_enter Try.func13, Try.ntmps13
  go_upto_region 2 with (fail)
  show Code.wp _ _ _ _ (w.alloc (.cells (awV 5) 80))
  rw [hW1]
  clear hW1
  go_wp2_with fail
  refine HBA.out.mono ?_
  rintro e w2 ⟨A, ca, rfl, a1, a2, a3, hb2⟩
  simp only [HLA.out] at a1 ⊢
  rw [hz1] at a3 hb2
  obtain ⟨n2, hn2⟩ : ∃ n2, w2.heap.size = n2 := ⟨_, rfl⟩
  have hz2 := hb2.size
  obtain ⟨W3, hW3⟩ : ∃ W3, w2.alloc (.cells #[.int .i64 5, .int .i64 2, .slice A 3 ca] 24) = W3 := ⟨_, rfl⟩
  have hb3 : Below n2 w2 W3 := by rw [← hW3, ← hn2]; exact ext_alloc (Below.refl _ _)
  have hr3 : W3.heap[n2]? = some (.cells #[.int .i64 5, .int .i64 2, .slice A 3 ca] 24 (0, 0)) := by rw [← hW3, ← hn2]; exact heap_alloc_new _ _
  have hz3 : W3.heap.size = n2 + 1 := by rw [← hW3, ← hn2]; simp
  have hn12 : n0 + 1 ≤ n2 := by omega
  have HTA : Hid (∀ W, Below (n2 + 1) W3 W → W.heap[n2]? = some (.cells #[.int .i64 5, .int .i64 2, .slice A 3 ca] 24 (0, 0)) ∧ SlAt (encSl encU64) W (Bl n2) A la ∧ Below n0 w W) := fun W hb =>
    ⟨(hb.block n2 (by omega)).trans hr3, (a3.blk (fun g hg => (hb.block g (by have := hg.2; omega)).trans (hb3.block g (by have := hg.2; omega)))).more (fun g hg => by have := hg.2; show g < n2; omega),
      hb1.trans ((hb2.mono (by omega)).trans ((hb3.mono (by omega)).trans (hb.mono (by omega))))⟩
  obtain ⟨W4, hW4⟩ : ∃ W4, W3.alloc (.cells (awV 6) 80) = W4 := ⟨_, rfl⟩
  have hb4 : Below (n2 + 1) W3 W4 := by rw [← hW4, ← hz3]; exact ext_alloc (Below.refl _ _)
  have hz4 : W4.heap.size = n2 + 2 := by rw [← hW4]; simp [hz3]
  have hr4 : W4.heap[n2 + 1]? = some (.cells (awV 6) 80 (0, 0)) := by rw [← hW4, ← hz3]; exact heap_alloc_new _ _
  have hl4 : SlAt encSec W4 (Bl W4.heap.size) (some ⟨n2 + 1, 0, none⟩) awL6 := litSl (E := encSec) (S := Bl W4.heap.size) (S0 := fun _ => False) (css := awL6.map secV) (l := awL6) hr4 rfl (awOk 6 (by omega)) (fun _ h => h.elim) (by show n2 + 1 < W4.heap.size; omega) (fun h => h)
  have HBB := refBuild_any (some ⟨n2 + 1, 0, none⟩) 5 5 awL6 2 W4 rfl ⟨Nat.le_refl _, by unfold maxLen; decide⟩ hl4 (by omega) (by unfold I64; decide)
  rw [HEB.out.1, HEB.out.2] at HBB
  have HBB := Lib.hid HBB
  have HW3 := Lib.hid hW3
  have HB4 := Lib.hid hb4
  clear hW3 hr3 hr4 hl4 a3 hb3 hb2 hz2 hb1 hb4
  go_upto_region 3 with (fail)
  rw [HW3.out]
  clear hn2
  go_upto_region 4 with (fail)
  show Code.wp _ _ _ _ (W3.alloc (.cells (awV 6) 80))
  rw [hW4]
  clear hW4
  go_wp2_with fail
  refine HBB.out.mono ?_
  rintro e w5 ⟨A2, c2, rfl, b1, b2, b3, hb5⟩
  simp only [HLB.out] at b1 ⊢
  rw [hz4] at b3 hb5
  obtain ⟨n5, hn5⟩ : ∃ n5, w5.heap.size = n5 := ⟨_, rfl⟩
  have hz5 := hb5.size
  obtain ⟨W6, hW6⟩ : ∃ W6, w5.alloc (.cells #[.int .i64 5, .int .i64 2, .slice A2 3 c2] 24) = W6 := ⟨_, rfl⟩
  have hb6 : Below n5 w5 W6 := by rw [← hW6, ← hn5]; exact ext_alloc (Below.refl _ _)
  have hr6 : W6.heap[n5]? = some (.cells #[.int .i64 5, .int .i64 2, .slice A2 3 c2] 24 (0, 0)) := by rw [← hW6, ← hn5]; exact heap_alloc_new _ _
  have hz6 : W6.heap.size = n5 + 1 := by rw [← hW6, ← hn5]; simp
  have hn25 : n2 + 2 ≤ n5 := by omega
  have hb36 : Below (n2 + 1) W3 W6 := HB4.out.trans ((hb5.mono (by omega)).trans (hb6.mono (by omega)))
  have HT2 : Hid (∀ W, Below (n5 + 1) W6 W → (W.heap[n2]? = some (.cells #[.int .i64 5, .int .i64 2, .slice A 3 ca] 24 (0, 0)) ∧ W.heap[n5]? = some (.cells #[.int .i64 5, .int .i64 2, .slice A2 3 c2] 24 (0, 0))) ∧ SlAt (encSl encU64) W (Bl W.heap.size) A la ∧ SlAt (encSl encU64) W (Bl W.heap.size) A2 lb ∧ Below n0 w W) := fun W hb => by
    obtain ⟨t1, t2, t3⟩ := HTA.out W (hb36.trans (hb.mono (by omega)))
    have hzW := hb.size
    exact ⟨⟨t1, (hb.block n5 (by omega)).trans hr6⟩, t2.more (fun g hg => by have : g < n2 := hg; show g < W.heap.size; omega), (b3.blk (fun g hg => (hb.block g (by have := hg.2; omega)).trans (hb6.block g (by have := hg.2; omega)))).more (fun g hg => by have := hg.2; show g < W.heap.size; omega), t3⟩
  have hB6 := HT2.out W6 (Below.refl _ _)
  have HBG := begin_any 5 2 A ca 3 la W6 HLA.out hB6.2.1 (by omega) ⟨a1, a2⟩ ⟨by unfold I64; decide, by unfold I64; decide⟩ HRW.out
  rw [HCK.out, (awBeg HLA.out HCK.out).1, (awBeg HLA.out HCK.out).2] at HBG
  have HBG := Lib.hid HBG
  obtain ⟨p0, p1, p2, _⟩ := blk3 hB6.1.1
  have HW6 := Lib.hid hW6
  clear hW6 hr6 b3 hb6 hb5 hB6 hb36 hz5
  go_upto_region 5 with (fail)
  rw [HW6.out]
  clear hn5
  go_wp2_with fail
  refine HBG.out.mono ?_
  rintro e w7 ⟨v7, B7, bc7, rfl, ⟨A9, c9, P9, pc9, F9, fc9, rfl, _⟩, hm1, hm2, hms, hb7⟩
  rw [hz6] at hms hb7
  simp only at hm1 ⊢
  simp only [HLA.out]
  clear p0 p1 p2
  obtain ⟨n7, hn7⟩ : ∃ n7, w7.heap.size = n7 := ⟨_, rfl⟩
  have hz7 := hb7.size
  obtain ⟨W8, hW8⟩ : ∃ W8, w7.alloc (.cells #[.int .i64 5, .int .i64 2, .slice A9 3 c9, .slice P9 1 pc9, .int .i64 2, .slice F9 0 fc9, .int .i64 0, .bool false] 27) = W8 := ⟨_, rfl⟩
  have hb8 : Below n7 w7 W8 := by rw [← hW8, ← hn7]; exact ext_alloc (Below.refl _ _)
  have hr8 : W8.heap[n7]? = some (.cells #[.int .i64 5, .int .i64 2, .slice A9 3 c9, .slice P9 1 pc9, .int .i64 2, .slice F9 0 fc9, .int .i64 0, .bool false] 27 (0, 0)) := by rw [← hW8, ← hn7]; exact heap_alloc_new _ _
  have hz8 : W8.heap.size = n7 + 1 := by rw [← hW8, ← hn7]; simp
  have hn57 : n5 + 1 ≤ n7 := by omega
  have hb68 : Below (n5 + 1) W6 W8 := hb7.trans (hb8.mono (by omega))
  obtain ⟨bm, om, cs, rfl, hbm, hcs, V5, vc5, Bd5, bc5, rfl, _, ⟨x1, x2, x3⟩, _⟩ := hms.at_ (k := 0) (by simp)
  have hbm7 : bm < n7 := by have := hbm.2; omega
  have c3 := hcs 3 _ rfl
  have c6 := hcs 6 _ rfl
  simp only [show encMsg.size = 8 from rfl, Nat.zero_mul, Nat.add_zero, List.getElem_cons_zero, List.length_cons, List.length_nil, Nat.zero_add, Nat.reduceAdd] at c3 c6 x1 x3
  have HV5 : Hid (∀ W, Below n7 W8 W → SlAt encInt W (Bl n7) V5 [5, 2, 0, 1] ∧ W.cell? ⟨bm, om + 3, none⟩ = some (.int .i64 2) ∧ W.cell? ⟨bm, om + 6, none⟩ = some (.slice V5 4 vc5)) := fun W hb =>
    ⟨(x3.blk (fun g hg => (hb.block g (by have := hg.2; omega)).trans (hb8.block g (by have := hg.2; omega)))).more (fun g hg => by have := hg.2; show g < n7; omega),
      (World.cell?_of_block ((hb.block bm hbm7).trans (hb8.block bm hbm7))).trans c3, (World.cell?_of_block ((hb.block bm hbm7).trans (hb8.block bm hbm7))).trans c6⟩
  obtain ⟨W9, hW9⟩ : ∃ W9, W8.alloc (.cells #[.int .i64 5, .int .i64 2, .int .i64 0, .int .i64 1] 3) = W9 := ⟨_, rfl⟩
  have hb9 : Below (n7 + 1) W8 W9 := by rw [← hW9, ← hz8]; exact ext_alloc (Below.refl _ _)
  have hz9 : W9.heap.size = n7 + 2 := by rw [← hW9]; simp [hz8]
  have hi9 : SlAt encInt W9 (Bl W9.heap.size) (some ⟨n7 + 1, 0, none⟩) [5, 2, 0, 1] :=
    litS44 (E := encInt) (S0 := fun _ => False) (css := [[.int .i64 5], [.int .i64 2], [.int .i64 0], [.int .i64 1]]) (by rw [← hW9, ← hz8]; exact heap_alloc_new _ _) rfl ⟨⟨rfl, by unfold I64; decide⟩, ⟨rfl, by unfold I64; decide⟩, ⟨rfl, by unfold I64; decide⟩, ⟨rfl, by unfold I64; decide⟩, trivial⟩ (fun _ h => h.elim) (by show n7 + 1 < W9.heap.size; omega) (fun h => h)
  have HEQ := Lib.hid (eqInts44_any V5 (some ⟨n7 + 1, 0, none⟩) vc5 4 4 4 (Bl n7) (Bl W9.heap.size) [5, 2, 0, 1] [5, 2, 0, 1] true W9 rfl rfl (by simp) (HV5.out W9 (hb9.mono (by omega))).1 hi9 (by omega) (by omega))
  obtain ⟨_, d3, d6⟩ := HV5.out W8 (Below.refl _ _)
  have HW8 := Lib.hid hW8
  have HR8 := Lib.hid hr8
  have HB68 := Lib.hid hb68
  have HB9 := Lib.hid hb9
  clear hW8 hms hcs c3 c6 x3 hr8 hb68 hb8 hb7 hz7 hi9 hb9
  go_upto_region 6 with (fail)
  rw [HW8.out]
  clear hn7
  go_wp2_with fail
  refine HEQ.out.mono ?_
  rintro e w10 ⟨rfl, hd10⟩
  have hb10 : Below (n7 + 1) W8 w10 := HB9.out.trans (hd10.below _)
  clear hW9 d3 d6
  obtain ⟨_, d3, d6⟩ := HV5.out w10 (hb10.mono (by omega))
  obtain ⟨_, _, _, _, _, _, _, f7, _⟩ := blk8 ((hb10.block n7 (by omega)).trans HR8.out)
  have hb610 : Below (n5 + 1) W6 w10 := HB68.out.trans (hb10.mono (by omega))
  obtain ⟨⟨r1, r2⟩, sA, sB, hw10⟩ := HT2.out w10 hb610
  obtain ⟨p0, p1, p2, _⟩ := blk3 r1
  obtain ⟨q0, q1, q2, _⟩ := blk3 r2
  have HRN := run_any 5 2 5 2 A A2 ca c2 3 3 la lb w10 HLA.out HLB.out sA sB (by omega) (by omega) ⟨a1, a2⟩ ⟨b1, b2⟩ ⟨by unfold I64; decide, by unfold I64; decide⟩ ⟨by unfold I64; decide, by unfold I64; decide⟩ HRW.out
  rw [HDE.out.1, HDE.out.2.1, HDE.out.2.2] at HRN
  have HRN := Lib.hid HRN
  have hz10 : n7 + 2 ≤ w10.heap.size := by rw [hd10.heap]; omega
  have HW10 := Lib.hid hw10
  clear sA sB r1 r2 hw10 hd10
  go_wp2_with fail
  refine HRN.out.mono ?_
  rintro e w11 ⟨D, dc, rfl, g1, g2, g3, hb11⟩
  clear d3 d6 f7 p0 p1 p2 q0 q1 q2
  have HX1 := Lib.hid (bound_any 5 2 1 5 0 w11 awBounds.1.2 awBounds.1.1)
  have HX0 := Lib.hid (bound_any 5 2 0 1 0 w11 awBounds.2.2 awBounds.2.1)
  go_wp2_with fail
  refine HX1.out.mono ?_
  rintro e w' ⟨rfl, rfl⟩
  go_wp2_with fail
  refine HX0.out.mono ?_
  rintro e w'' ⟨rfl, rfl⟩
  obtain ⟨W12, hW12⟩ : ∃ W12, w''.alloc (.cells #[.int .i64 4, .int .i64 1] 67) = W12 := ⟨_, rfl⟩
  have hb12 : Below w''.heap.size w'' W12 := by rw [← hW12]; exact ext_alloc (Below.refl _ _)
  have hz12 : W12.heap.size = w''.heap.size + 1 := by rw [← hW12]; simp
  have hi12 : SlAt encExt W12 (Bl W12.heap.size) (some ⟨w''.heap.size, 0, none⟩) [(4, 1)] :=
    litS44 (E := encExt) (S0 := fun _ => False) (css := [[.int .i64 4, .int .i64 1]]) (by rw [← hW12]; exact heap_alloc_new _ _) rfl ⟨ext_mk (x := ((4 : Int), (1 : Int))) (by unfold I64; decide) (by unfold I64; decide), trivial⟩ (fun _ h => h.elim) (by show w''.heap.size < W12.heap.size; omega) (fun h => h)
  have hg12 := (g3.blk (w' := W12) (fun g hg => hb12.block g hg)).more (S' := Bl W12.heap.size) (fun g hg => by have : g < w''.heap.size := hg; show g < W12.heap.size; omega)
  have HEX := Lib.hid (eqExts_any D (some ⟨w''.heap.size, 0, none⟩) dc 1 1 1 (Bl W12.heap.size) (Bl W12.heap.size) [(4, 1)] [(4, 1)] true W12 rfl rfl (by simp) hg12 hi12 (by omega) (by omega))
  have hfin : Hid (Below w.heap.size w W12) := by
    rw [Hid, HN0.out]
    exact HW10.out.trans ((hb11.mono (by have := HW10.out.size; omega)).trans (hb12.mono (by have := hb11.size; have := HW10.out.size; omega)))
  clear g3 hi12 hg12 hz12 hb12 HX0 HX1
  go_wp2_with fail
  refine HEX.out.mono ?_
  rintro e w13 ⟨rfl, hd13⟩
  clear hW12
  go_wp2_with fail
  go_ret
  exact ⟨by first | trivial | rfl | simp, hfin.out.trans (hd13.below _)⟩
end Go.Proofs.Ytjehedfdikdfpaa
namespace Go.Proofs.Ytjehedfdikdfpaa
open Go.RowKit Go.Shelf
attribute [local go_sem] Oper.semAt_some

/-- there are trees -/
def treesB (l m : List Sec) : Bool := decide (1 ≤ l.length ∧ l.length ≤ 100 ∧ l.length = m.length)
/-- the leaf's size -/
def leafN (leaf : Int) : Nat := (leaf % 12).toNat + 1
/-- two trees of the same size and leaf, with their checks -/
def RetTrees (l m : List Sec) (n : Nat) (w : World) (e : Ending) (w' : World) : Prop :=
  ∃ (t1 t2 : Tr) (A A2 : Option Addr) (c c2 : Nat), e = .returned (.tuple #[.agg #[.int .i64 t1.1, .int .i64 t1.2.1, .slice A t1.2.2.length c], .agg #[.int .i64 t2.1, .int .i64 t2.2.1, .slice A2 t2.2.2.length c2], .bool (treesB l m)]) ∧ (t1.2.2.length ≤ c ∧ c ≤ maxLen) ∧ (t2.2.2.length ≤ c2 ∧ c2 ≤ maxLen) ∧
    SlAt (encSl encU64) w' (Nw w.heap.size w'.heap.size) A t1.2.2 ∧ SlAt (encSl encU64) w' (Nw w.heap.size w'.heap.size) A2 t2.2.2 ∧ Below w.heap.size w w' ∧
    (treesB l m = true → t1 = buildT l n ∧ t2 = buildT m n)
/-- all blocks but two keep -/
def BelXX (x y : Nat) (w w' : World) : Prop := ∀ g, g < w.heap.size → g ≠ x → g ≠ y → w'.heap[g]? = w.heap[g]?
theorem set3_row {w : World} {b : Nat} {T : TypeId} {c0 c1 c2 : Value} (h : w.heap[b]? = some (.cells #[c0, c1, c2] T (0, 0))) (x0 x1 x2 : Value) :
    (set3 w b x0 x1 x2).heap[b]? = some (.cells #[x0, x1, x2] T (0, 0)) := by
  simp [set3, World.setCell, Array.getElem?_modify, h]
theorem set3_other {W : World} {b b' : Nat} (h : b' ≠ b) (x0 x1 x2 : Value) : (set3 W b x0 x1 x2).heap[b']? = W.heap[b']? := by
  unfold set3
  exact (heap_setCell_other _ ⟨b, 2, none⟩ b' _ h).trans ((heap_setCell_other _ ⟨b, 1, none⟩ b' _ h).trans (heap_setCell_other _ ⟨b, 0, none⟩ b' _ h))
theorem set3_sz {W : World} {b : Nat} {x0 x1 x2 : Value} : (set3 W b x0 x1 x2).heap.size = W.heap.size := by simp [set3, World.setCell]
theorem set3_below {B b : Nat} {a w : World} (h : Below B a w) (hB : B ≤ b) (x0 x1 x2 : Value) : Below B a (set3 w b x0 x1 x2) :=
  ((h.setCell (p := ⟨b, 0, none⟩) hB x0).setCell (p := ⟨b, 1, none⟩) hB x1).setCell (p := ⟨b, 2, none⟩) hB x2
theorem limN_small {a : Nat} {b : Int} (ha : a ≤ 100) (hb : 1 ≤ b ∧ b ≤ 12) : (limN a b = 0 ∧ 1 ≤ a) ∨ (limN a b = 2 ∧ a = 0) := by
  unfold limN
  by_cases h : 1 ≤ a
  · left; rw [if_neg (by omega), if_neg (by omega)]; exact ⟨rfl, h⟩
  · right; rw [if_pos (by omega)]; exact ⟨rfl, by omega⟩
/-- take number i first: it is not wanted -/
theorem wpAnyU_takeN {P : Program} {ops : Array Oper} {Q : Exit → Act → World → Prop} {md : Region.Mode} {S : World → Prop} {k i : Nat} {oi : Oper} {d : Nat} {fuel : Nat} {listed : Array Bool} {a : Act} {w : World} (hi : ops[i]? = some oi) (hd : oi.dst = some d)
    (hs : Region.noSelect ops = true) (hf : Region.free md ops listed i = true) (hr : (Region.ready md ops listed).contains i = true) (hk : (waitsFor md ops k i && !(i == k)) = true)
    (hQ : ∀ c a w, Q (.panic c) (a.put (some d) undef) w → Q (.panic c) a w) (hw : Region.wanted oi (yielded ops a.tmps) = false) (hS : S w)
    (h : wpAnyU P md ops Q S k fuel (listed.setIfInBounds i true) { tmps := a.tmps.setIfInBounds d undef, defers := a.defers } w) : wpAnyU P md ops Q S k (fuel + 1) listed a w := by
  simp only [Bool.and_eq_true, Bool.not_eq_true', beq_eq_false_iff_ne] at hk
  exact wpAnyU_first hi (Region.noSelect_spec hs) (by rw [hd]; exact hQ) hk.2 hk.1 fuel listed a w (Region.free_spec hi hf) (by simpa using hr) (Or.inr ⟨hw, rfl⟩) hS (by rw [hd]; exact h)
set_option maxHeartbeats 8000000 in
set_option maxRecDepth 100000 in
theorem trees44_any (A A2 : Option Addr) (c c2 n n2 : Nat) (l m : List Sec) (leaf : Int) (w : World) (hn : l.length = n) (hn2 : m.length = n2) (h1 : SlAt encSec w (Bl w.heap.size) A l) (h2 : SlAt encSec w (Bl w.heap.size) A2 m) (hc : n ≤ c ∧ c ≤ maxLen) (hc2 : n2 ≤ c2 ∧ c2 ≤ maxLen) (hl : 0 ≤ leaf ∧ leaf < 256) :
    Calls Try.prog 31 #[.slice A n c, .slice A2 n2 c2, .int .u8 leaf] w (RetTrees l m (leafN leaf) w) := by
  subst hn hn2
  obtain ⟨n0, hn0⟩ : ∃ n0, w.heap.size = n0 := ⟨_, rfl⟩
  obtain ⟨W0, hW0⟩ : ∃ W0, (w.alloc (.cells #[.int .i64 0, .int .i64 0, .slice none 0 0] 24)).alloc (.cells #[.int .i64 0, .int .i64 0, .slice none 0 0] 24) = W0 := ⟨_, rfl⟩
  have hB0 : Below n0 w W0 := by rw [← hW0, ← hn0]; exact ext_alloc (ext_alloc (Below.refl _ _))
  have hr0 : W0.heap[n0]? = some (.cells #[.int .i64 0, .int .i64 0, .slice none 0 0] 24 (0, 0)) := by
    rw [← hW0, ← hn0]; exact (Below.heap_alloc _ _ _ (by simp)).trans (heap_alloc_new _ _)
  have hr1 : W0.heap[n0 + 1]? = some (.cells #[.int .i64 0, .int .i64 0, .slice none 0 0] 24 (0, 0)) := by
    rw [← hW0, ← hn0]; exact heap_new2 _ _ _
  have hz0 : W0.heap.size = n0 + 2 := by rw [← hW0, ← hn0]; simp
  have HN0 := Lib.hid hn0
  obtain ⟨a0, a1, a2, af⟩ := blk3 hr0
  obtain ⟨b0, b1, b2, bf⟩ := blk3 hr1
  have hlm := hc.2
  have hlm2 := hc2.2
  unfold maxLen at hlm hlm2
  by_cases hok : l.length ≤ 100 ∧ l.length = m.length
  · obtain ⟨hl100, hlen⟩ := hok
    have hb1 : ¬ ((100 : Int) < l.length) := by omega
    have hb2 : ((l.length : Int) != (m.length : Int)) = false := by rw [hlen]; simp
    obtain ⟨q, hq⟩ : ∃ q : Nat, leaf = q := ⟨leaf.toNat, by omega⟩
    subst hq
    obtain ⟨nn, hnn⟩ : ∃ nn, leafN (q : Int) = nn := ⟨_, rfl⟩
    have hnv : (q : Int) % 12 + 1 = (nn : Int) := by rw [← hnn]; unfold leafN; omega
    have hn12 : 1 ≤ nn ∧ nn ≤ 12 := by omega
    have HNV := Lib.hid hnv
    have HNN := Lib.hid hnn
    have HLEN := Lib.hid hlen
    have H1 : Hid (∀ W, Below n0 w W → SlAt encSec W (Bl W.heap.size) A l) := fun W hb => h1.fwd (by rw [hn0]; exact hb)
    have H2 : Hid (∀ W, Below n0 w W → SlAt encSec W (Bl W.heap.size) A2 m) := fun W hb => h2.fwd (by rw [hn0]; exact hb)
    have HBA := Lib.hid (fun W (hb : Below n0 w W) => build_any A c l.length l (nn : Int) W rfl hc (H1.out W hb) (by omega) (by unfold I64; omega))
    have HBB := Lib.hid (fun W (hb : Below n0 w W) => build_any A2 c2 m.length m (nn : Int) W rfl hc2 (H2.out W hb) (by omega) (by unfold I64; omega))
    clear hnn hlen h1 h2
    go_enter Try.func31, Try.ntmps31
    go_wp2_with fail
    try rw [HNV.out]
    refine (HBA.out W0 hB0).mono ?_
    rintro e w1 ⟨B1, bc1, rfl, x1, x2, x3, hb1'⟩
    have hb01 : Below n0 w w1 := hB0.trans (hb1'.mono (by omega))
    have hz1 := hb1'.size
    obtain ⟨T1, hT1⟩ : ∃ T, buildT l (nn : Int) = T := ⟨_, rfl⟩
    obtain ⟨e1, he1⟩ : ∃ e, buildErr l (nn : Int) = e := ⟨_, rfl⟩
    rw [hT1] at x1 x3 ⊢
    rw [he1]
    obtain ⟨n3, hn3⟩ : ∃ n3, w1.heap.size = n3 := ⟨_, rfl⟩
    obtain ⟨W2, hW2⟩ : ∃ W2, w1.alloc (.cells #[.int .i64 T1.1, .int .i64 T1.2.1, .slice B1 T1.2.2.length bc1] 24) = W2 := ⟨_, rfl⟩
    have hb12 : Below n3 w1 W2 := by rw [← hW2, ← hn3]; exact ext_alloc (Below.refl _ _)
    have hr2 : W2.heap[n3]? = some (.cells #[.int .i64 T1.1, .int .i64 T1.2.1, .slice B1 T1.2.2.length bc1] 24 (0, 0)) := by rw [← hW2, ← hn3]; exact heap_alloc_new _ _
    have hz2 : W2.heap.size = n3 + 1 := by rw [← hW2, ← hn3]; simp
    have hb02 : Below n0 w W2 := hb01.trans (hb12.mono (by omega))
    have HW2 := Lib.hid hW2
    clear hW2
    go_upto_region 5 with (fail)
    rw [HW2.out]
    have HN3 := Lib.hid hn3
    have hn03 : n0 + 2 ≤ n3 := by omega
    clear hn3
    go_wp2_with fail
    try rw [HNV.out]
    refine (HBB.out W2 hb02).mono ?_
    rintro e w3 ⟨B2, bc2, rfl, y1, y2, y3, hb3⟩
    obtain ⟨T2, hT2⟩ : ∃ T, buildT m (nn : Int) = T := ⟨_, rfl⟩
    obtain ⟨e2, he2⟩ : ∃ e, buildErr m (nn : Int) = e := ⟨_, rfl⟩
    rw [hT2] at y1 y3 ⊢
    rw [he2]
    have hz3 := hb3.size
    obtain ⟨n5, hn5⟩ : ∃ n5, w3.heap.size = n5 := ⟨_, rfl⟩
    obtain ⟨W4, hW4⟩ : ∃ W4, w3.alloc (.cells #[.int .i64 T2.1, .int .i64 T2.2.1, .slice B2 T2.2.2.length bc2] 24) = W4 := ⟨_, rfl⟩
    have hb34 : Below n5 w3 W4 := by rw [← hW4, ← hn5]; exact ext_alloc (Below.refl _ _)
    have hr4 : W4.heap[n5]? = some (.cells #[.int .i64 T2.1, .int .i64 T2.2.1, .slice B2 T2.2.2.length bc2] 24 (0, 0)) := by rw [← hW4, ← hn5]; exact heap_alloc_new _ _
    have hz4 : W4.heap.size = n5 + 1 := by rw [← hW4, ← hn5]; simp
    have hn35 : n3 + 1 ≤ n5 := by omega
    have hn3e := HN3.out
    have hb24 : Below (n3 + 1) W2 W4 := (hb3.mono (by omega)).trans (hb34.mono (by omega))
    have hb04 : Below n0 w W4 := hb02.trans (hb24.mono (by omega))
    have hlow : ∀ g, g < n0 + 2 → W4.heap[g]? = W0.heap[g]? := fun g hg => (hb24.block g (by omega)).trans ((hb12.block g (by omega)).trans (hb1'.block g (by omega)))
    have hrA : W4.heap[n0]? = some (.cells #[.int .i64 0, .int .i64 0, .slice none 0 0] 24 (0, 0)) := (hlow n0 (by omega)).trans hr0
    have hrB : W4.heap[n0 + 1]? = some (.cells #[.int .i64 0, .int .i64 0, .slice none 0 0] 24 (0, 0)) := (hlow (n0 + 1) (by omega)).trans hr1
    have hr24 := (hb24.block n3 (by omega)).trans hr2
    have hsA : SlAt (encSl encU64) W4 (fun g => n0 + 2 ≤ g ∧ g < W4.heap.size) B1 T1.2.2 := (x3.blk (fun g hg => (hb24.block g (by have := hg.2; omega)).trans (hb12.block g (by have := hg.2; omega)))).more (fun g hg => ⟨by have := hg.1; omega, by have := hg.2; omega⟩)
    have hsB : SlAt (encSl encU64) W4 (fun g => n0 + 2 ≤ g ∧ g < W4.heap.size) B2 T2.2.2 := (y3.blk (fun g hg => hb34.block g (by have := hg.2; omega))).more (fun g hg => ⟨by have := hg.1; omega, by have := hg.2; omega⟩)
    have hE : Hid ((e1 = 0 ∧ e2 = 0 ∧ treesB l m = true) ∨ (e1 = 2 ∧ treesB l m = false)) := by
      rw [Hid, ← he1, ← he2]
      unfold buildErr treesB
      have hll := HLEN.out
      rcases limN_small (a := l.length) (b := (nn : Int)) hl100 (by omega) with ⟨h0, h1⟩ | ⟨h0, h1⟩
      · left
        refine ⟨h0, by rw [← hll]; exact h0, decide_eq_true ⟨h1, hl100, hll⟩⟩
      · right
        exact ⟨h0, decide_eq_false (by omega)⟩
    have HTT : Hid (buildT l (nn : Int) = T1 ∧ buildT m (nn : Int) = T2) := ⟨hT1, hT2⟩
    have HW4 := Lib.hid hW4
    clear hW4 x3 y3 hb3 hb34 hb1' hb12 hb24 hlow he1 he2 hT1 hT2 HBA HBB
    go_upto_region 6 with (fail)
    rw [HW4.out]
    clear hn3e
    clear hn5 a0 a1 a2 af b0 b1 b2 bf hnv hW0 hn0
    have HROWS : Hid (∀ W, BelXX n0 (n0 + 1) W4 W → (W.cell? ⟨n3, 0, none⟩ = some (.int .i64 T1.1) ∧ W.cell? ⟨n3, 1, none⟩ = some (.int .i64 T1.2.1) ∧ W.cell? ⟨n3, 2, none⟩ = some (.slice B1 T1.2.2.length bc1)) ∧ W.cell? ⟨n5, 0, none⟩ = some (.int .i64 T2.1) ∧ W.cell? ⟨n5, 1, none⟩ = some (.int .i64 T2.2.1) ∧ W.cell? ⟨n5, 2, none⟩ = some (.slice B2 T2.2.2.length bc2)) := fun W hb => by
      obtain ⟨u0, u1, u2, _⟩ := blk3 ((hb n3 (by omega) (by omega) (by omega)).trans hr24)
      obtain ⟨u3, u4, u5, _⟩ := blk3 ((hb n5 (by omega) (by omega) (by omega)).trans hr4)
      exact ⟨⟨u0, u1, u2⟩, u3, u4, u5⟩
    have hSw : BelXX n0 (n0 + 1) W4 W4.drew := fun _ _ _ _ => rfl
    have hfin : Hid (∀ t, treesB l m = t → RetTrees l m (leafN (q : Int)) w (.returned (.tuple #[.agg #[.int .i64 T1.1, .int .i64 T1.2.1, .slice B1 T1.2.2.length bc1], .agg #[.int .i64 T2.1, .int .i64 T2.2.1, .slice B2 T2.2.2.length bc2], .bool t])) (set3 (set3 W4.drew n0 (.int .i64 T1.1) (.int .i64 T1.2.1) (.slice B1 T1.2.2.length bc1)) (n0 + 1) (.int .i64 T2.1) (.int .i64 T2.2.1) (.slice B2 T2.2.2.length bc2))) := fun t ht => by
      have hko : ∀ g, n0 + 2 ≤ g → (set3 (set3 W4.drew n0 (.int .i64 T1.1) (.int .i64 T1.2.1) (.slice B1 T1.2.2.length bc1)) (n0 + 1) (.int .i64 T2.1) (.int .i64 T2.2.1) (.slice B2 T2.2.2.length bc2)).heap[g]? = W4.heap[g]? := fun g hg => (set3_other (by omega) _ _ _).trans ((set3_other (by omega) _ _ _).trans rfl)
      have hsz : (set3 (set3 W4.drew n0 (.int .i64 T1.1) (.int .i64 T1.2.1) (.slice B1 T1.2.2.length bc1)) (n0 + 1) (.int .i64 T2.1) (.int .i64 T2.2.1) (.slice B2 T2.2.2.length bc2)).heap.size = W4.heap.size := by rw [set3_sz, set3_sz]; rfl
      refine ⟨T1, T2, B1, B2, bc1, bc2, by rw [ht], ⟨x1, x2⟩, ⟨y1, y2⟩, (hsA.blk (fun g hg => hko g hg.1)).more (fun g hg => ⟨by have := HN0.out; have := hg.1; omega, by rw [hsz]; exact hg.2⟩), (hsB.blk (fun g hg => hko g hg.1)).more (fun g hg => ⟨by have := HN0.out; have := hg.1; omega, by rw [hsz]; exact hg.2⟩), ?_, fun _ => ?_⟩
      · rw [HN0.out]
        exact set3_below (set3_below hb04.drew (Nat.le_refl _) _ _ _) (by omega) _ _ _
      · rw [HNN.out]
        exact ⟨HTT.out.1.symm, HTT.out.2.symm⟩
    have hHE := hE.out
    rcases hHE with ⟨rfl, rfl, ht⟩ | ⟨rfl, ht⟩
    · refine wp_region_U (fun W' => BelXX n0 (n0 + 1) W4 W') 11 (by kernel_rfl) ?_
      refine wpAnyU_takeD (i := 0) (v := ?_) rfl rfl (by kernel_rfl) (by kernel_rfl) (by kernel_rfl) (by kernel_rfl) (fun _ _ _ h => h) (by rfl) ?_ hSw ?_
      rotate_left 1
      · intro W9 hW9
        try dsimp only at hW9
        obtain ⟨⟨u0, u1, u2⟩, u3, u4, u5⟩ := HROWS.out W9 hW9
        go_simp
        try with_reducible rfl
      try simp only [List.setIfInBounds_toArray, List.set_cons_zero, List.set_cons_succ]
      refine wpAnyU_takeD (i := 1) (v := ?_) rfl rfl (by kernel_rfl) (by kernel_rfl) (by kernel_rfl) (by kernel_rfl) (fun _ _ _ h => h) (by rfl) ?_ hSw ?_
      rotate_left 1
      · intro W9 hW9
        try dsimp only at hW9
        obtain ⟨⟨u0, u1, u2⟩, u3, u4, u5⟩ := HROWS.out W9 hW9
        go_simp
        try with_reducible rfl
      try simp only [List.setIfInBounds_toArray, List.set_cons_zero, List.set_cons_succ]
      refine wpAnyU_takeD (i := 2) (v := ?_) rfl rfl (by kernel_rfl) (by kernel_rfl) (by kernel_rfl) (by kernel_rfl) (fun _ _ _ h => h) (by rfl) ?_ hSw ?_
      rotate_left 1
      · intro W9 hW9
        try dsimp only at hW9
        obtain _ := True.intro
        go_simp
        try with_reducible rfl
      try simp only [List.setIfInBounds_toArray, List.set_cons_zero, List.set_cons_succ]
      refine wpAnyU_takeD (i := 3) (v := ?_) rfl rfl (by kernel_rfl) (by kernel_rfl) (by kernel_rfl) (by kernel_rfl) (fun _ _ _ h => h) (by rfl) ?_ hSw ?_
      rotate_left 1
      · intro W9 hW9
        try dsimp only at hW9
        obtain _ := True.intro
        go_simp
        try with_reducible rfl
      try simp only [List.setIfInBounds_toArray, List.set_cons_zero, List.set_cons_succ]
      refine wpAnyU_takeD (i := 4) (v := ?_) rfl rfl (by kernel_rfl) (by kernel_rfl) (by kernel_rfl) (by kernel_rfl) (fun _ _ _ h => h) (by rfl) ?_ hSw ?_
      rotate_left 1
      · intro W9 hW9
        try dsimp only at hW9
        obtain _ := True.intro
        go_simp
        try with_reducible rfl
      try simp only [List.setIfInBounds_toArray, List.set_cons_zero, List.set_cons_succ]
      refine wpAnyU_takeD (i := 5) (v := ?_) rfl rfl (by kernel_rfl) (by kernel_rfl) (by kernel_rfl) (by kernel_rfl) (fun _ _ _ h => h) (by rfl) ?_ hSw ?_
      rotate_left 1
      · intro W9 hW9
        try dsimp only at hW9
        obtain _ := True.intro
        go_simp
        try with_reducible rfl
      try simp only [List.setIfInBounds_toArray, List.set_cons_zero, List.set_cons_succ]
      refine wpAnyU_takeD (i := 6) (v := ?_) rfl rfl (by kernel_rfl) (by kernel_rfl) (by kernel_rfl) (by kernel_rfl) (fun _ _ _ h => h) (by rfl) ?_ hSw ?_
      rotate_left 1
      · intro W9 hW9
        try dsimp only at hW9
        obtain _ := True.intro
        go_simp
        try with_reducible rfl
      try simp only [List.setIfInBounds_toArray, List.set_cons_zero, List.set_cons_succ]
      refine wpAnyU_takeD (i := 7) (v := ?_) rfl rfl (by kernel_rfl) (by kernel_rfl) (by kernel_rfl) (by kernel_rfl) (fun _ _ _ h => h) (by rfl) ?_ hSw ?_
      rotate_left 1
      · intro W9 hW9
        try dsimp only at hW9
        obtain _ := True.intro
        go_simp
        try with_reducible rfl
      try simp only [List.setIfInBounds_toArray, List.set_cons_zero, List.set_cons_succ]
      obtain ⟨a0, a1, a2, af⟩ := blk3 (w := W4.drew) hrA
      obtain ⟨a3, a4, a5, ag⟩ := blk3 hrA
      refine wpAnyU_one (i := 8) (by kernel_rfl) rfl (fun K hK => ?_)
      go_simp
      have hS8 : BelXX n0 (n0 + 1) W4 (set3 W4.drew n0 (.int .i64 T1.1) (.int .i64 T1.2.1) (.slice B1 T1.2.2.length bc1)) := fun g _ h2 _ => (set3_other h2 _ _ _).trans rfl
      refine hK.out _ _ (fun _ => hS8) ?_
      clear hK K a0 a1 a2 af a3 a4 a5 ag
      try simp only [Act.put, List.setIfInBounds_toArray, List.set_cons_zero, List.set_cons_succ]
      have hq1 : (set3 W4.drew n0 (.int .i64 T1.1) (.int .i64 T1.2.1) (.slice B1 T1.2.2.length bc1)).heap[n0]? = _ := set3_row (w := W4.drew) hrA _ _ _
      have hq2 : (set3 W4.drew n0 (.int .i64 T1.1) (.int .i64 T1.2.1) (.slice B1 T1.2.2.length bc1)).heap[n0 + 1]? = some (.cells #[.int .i64 0, .int .i64 0, .slice none 0 0] 24 (0, 0)) := (set3_other (by omega) _ _ _).trans hrB
      change wpAnyU _ _ _ _ _ _ _ _ _ (set3 W4.drew n0 (.int .i64 T1.1) (.int .i64 T1.2.1) (.slice B1 T1.2.2.length bc1))
      have hret := hfin.out true ht
      generalize set3 W4.drew n0 (.int .i64 T1.1) (.int .i64 T1.2.1) (.slice B1 T1.2.2.length bc1) = W7 at hS8 hq1 hq2 hret ⊢
      obtain ⟨b0, b1, b2, bf⟩ := blk3 hq2
      refine wpAnyU_one (i := 9) (by kernel_rfl) rfl (fun K hK => ?_)
      go_simp
      have hS9 : BelXX n0 (n0 + 1) W4 (set3 W7 (n0 + 1) (.int .i64 T2.1) (.int .i64 T2.2.1) (.slice B2 T2.2.2.length bc2)) := fun g h1 h2 h3 => (set3_other h3 _ _ _).trans (hS8 g h1 h2 h3)
      refine hK.out _ _ (fun _ => hS9) ?_
      clear hK K b0 b1 b2 bf
      try simp only [Act.put, List.setIfInBounds_toArray, List.set_cons_zero, List.set_cons_succ]
      have hq3 : (set3 W7 (n0 + 1) (.int .i64 T2.1) (.int .i64 T2.2.1) (.slice B2 T2.2.2.length bc2)).heap[n0]? = _ := (set3_other (by omega) _ _ _).trans hq1
      have hq4 := set3_row hq2 (.int .i64 T2.1) (.int .i64 T2.2.1) (.slice B2 T2.2.2.length bc2)
      change wpAnyU _ _ _ _ _ _ _ _ _ (set3 W7 (n0 + 1) (.int .i64 T2.1) (.int .i64 T2.2.1) (.slice B2 T2.2.2.length bc2))
      generalize set3 W7 (n0 + 1) (.int .i64 T2.1) (.int .i64 T2.2.1) (.slice B2 T2.2.2.length bc2) = W8 at hS9 hq3 hq4 hret ⊢
      refine wpAnyU_one (i := 10) (by kernel_rfl) rfl (fun K hK => ?_)
      go_simp
      refine hK.out _ _ (fun _ => hS9) ?_
      clear hK K
      try simp only [Act.put, List.setIfInBounds_toArray, List.set_cons_zero, List.set_cons_succ]
      refine wpAnyU_done (by kernel_rfl) ?_ _
      obtain ⟨a0, a1, a2, _⟩ := blk3 hq3
      obtain ⟨b0, b1, b2, _⟩ := blk3 hq4
      go_wp2_with fail
      refine bodyPost_ret (v := .tuple #[.agg #[.int .i64 T1.1, .int .i64 T1.2.1, .slice B1 T1.2.2.length bc1], .agg #[.int .i64 T2.1, .int .i64 T2.2.1, .slice B2 T2.2.2.length bc2], .bool true]) ?_ rfl hret
      simp [results, Try.results31, Try.f31, go_sem, a0, a1, a2, b0, b1, b2]
    · refine wp_region_U (fun W' => BelXX n0 (n0 + 1) W4 W') 11 (by kernel_rfl) ?_
      refine wpAnyU_takeD (i := 0) (v := ?_) rfl rfl (by kernel_rfl) (by kernel_rfl) (by kernel_rfl) (by kernel_rfl) (fun _ _ _ h => h) (by rfl) ?_ hSw ?_
      rotate_left 1
      · intro W9 hW9
        try dsimp only at hW9
        obtain ⟨⟨u0, u1, u2⟩, u3, u4, u5⟩ := HROWS.out W9 hW9
        go_simp
        try with_reducible rfl
      try simp only [List.setIfInBounds_toArray, List.set_cons_zero, List.set_cons_succ]
      refine wpAnyU_takeD (i := 1) (v := ?_) rfl rfl (by kernel_rfl) (by kernel_rfl) (by kernel_rfl) (by kernel_rfl) (fun _ _ _ h => h) (by rfl) ?_ hSw ?_
      rotate_left 1
      · intro W9 hW9
        try dsimp only at hW9
        obtain ⟨⟨u0, u1, u2⟩, u3, u4, u5⟩ := HROWS.out W9 hW9
        go_simp
        try with_reducible rfl
      try simp only [List.setIfInBounds_toArray, List.set_cons_zero, List.set_cons_succ]
      refine wpAnyU_takeD (i := 2) (v := ?_) rfl rfl (by kernel_rfl) (by kernel_rfl) (by kernel_rfl) (by kernel_rfl) (fun _ _ _ h => h) (by rfl) ?_ hSw ?_
      rotate_left 1
      · intro W9 hW9
        try dsimp only at hW9
        obtain _ := True.intro
        go_simp
        try with_reducible rfl
      try simp only [List.setIfInBounds_toArray, List.set_cons_zero, List.set_cons_succ]
      refine wpAnyU_takeD (i := 3) (v := ?_) rfl rfl (by kernel_rfl) (by kernel_rfl) (by kernel_rfl) (by kernel_rfl) (fun _ _ _ h => h) (by rfl) ?_ hSw ?_
      rotate_left 1
      · intro W9 hW9
        try dsimp only at hW9
        obtain _ := True.intro
        go_simp
        try with_reducible rfl
      try simp only [List.setIfInBounds_toArray, List.set_cons_zero, List.set_cons_succ]
      refine wpAnyU_takeD (i := 4) (v := ?_) rfl rfl (by kernel_rfl) (by kernel_rfl) (by kernel_rfl) (by kernel_rfl) (fun _ _ _ h => h) (by rfl) ?_ hSw ?_
      rotate_left 1
      · intro W9 hW9
        try dsimp only at hW9
        obtain _ := True.intro
        go_simp
        try with_reducible rfl
      try simp only [List.setIfInBounds_toArray, List.set_cons_zero, List.set_cons_succ]
      refine wpAnyU_takeN (i := 5) rfl rfl (by kernel_rfl) (by kernel_rfl) (by kernel_rfl) (by kernel_rfl) (fun _ _ _ h => h) (by rfl) hSw ?_
      try simp only [List.setIfInBounds_toArray, List.set_cons_zero, List.set_cons_succ]
      refine wpAnyU_takeN (i := 6) rfl rfl (by kernel_rfl) (by kernel_rfl) (by kernel_rfl) (by kernel_rfl) (fun _ _ _ h => h) (by rfl) hSw ?_
      try simp only [List.setIfInBounds_toArray, List.set_cons_zero, List.set_cons_succ]
      refine wpAnyU_takeD (i := 7) (v := ?_) rfl rfl (by kernel_rfl) (by kernel_rfl) (by kernel_rfl) (by kernel_rfl) (fun _ _ _ h => h) (by rfl) ?_ hSw ?_
      rotate_left 1
      · intro W9 hW9
        try dsimp only at hW9
        obtain _ := True.intro
        go_simp
        try with_reducible rfl
      try simp only [List.setIfInBounds_toArray, List.set_cons_zero, List.set_cons_succ]
      obtain ⟨a0, a1, a2, af⟩ := blk3 (w := W4.drew) hrA
      obtain ⟨a3, a4, a5, ag⟩ := blk3 hrA
      refine wpAnyU_one (i := 8) (by kernel_rfl) rfl (fun K hK => ?_)
      go_simp
      have hS8 : BelXX n0 (n0 + 1) W4 (set3 W4.drew n0 (.int .i64 T1.1) (.int .i64 T1.2.1) (.slice B1 T1.2.2.length bc1)) := fun g _ h2 _ => (set3_other h2 _ _ _).trans rfl
      refine hK.out _ _ (fun _ => hS8) ?_
      clear hK K a0 a1 a2 af a3 a4 a5 ag
      try simp only [Act.put, List.setIfInBounds_toArray, List.set_cons_zero, List.set_cons_succ]
      have hq1 : (set3 W4.drew n0 (.int .i64 T1.1) (.int .i64 T1.2.1) (.slice B1 T1.2.2.length bc1)).heap[n0]? = _ := set3_row (w := W4.drew) hrA _ _ _
      have hq2 : (set3 W4.drew n0 (.int .i64 T1.1) (.int .i64 T1.2.1) (.slice B1 T1.2.2.length bc1)).heap[n0 + 1]? = some (.cells #[.int .i64 0, .int .i64 0, .slice none 0 0] 24 (0, 0)) := (set3_other (by omega) _ _ _).trans hrB
      change wpAnyU _ _ _ _ _ _ _ _ _ (set3 W4.drew n0 (.int .i64 T1.1) (.int .i64 T1.2.1) (.slice B1 T1.2.2.length bc1))
      have hret := hfin.out false ht
      generalize set3 W4.drew n0 (.int .i64 T1.1) (.int .i64 T1.2.1) (.slice B1 T1.2.2.length bc1) = W7 at hS8 hq1 hq2 hret ⊢
      obtain ⟨b0, b1, b2, bf⟩ := blk3 hq2
      refine wpAnyU_one (i := 9) (by kernel_rfl) rfl (fun K hK => ?_)
      go_simp
      have hS9 : BelXX n0 (n0 + 1) W4 (set3 W7 (n0 + 1) (.int .i64 T2.1) (.int .i64 T2.2.1) (.slice B2 T2.2.2.length bc2)) := fun g h1 h2 h3 => (set3_other h3 _ _ _).trans (hS8 g h1 h2 h3)
      refine hK.out _ _ (fun _ => hS9) ?_
      clear hK K b0 b1 b2 bf
      try simp only [Act.put, List.setIfInBounds_toArray, List.set_cons_zero, List.set_cons_succ]
      have hq3 : (set3 W7 (n0 + 1) (.int .i64 T2.1) (.int .i64 T2.2.1) (.slice B2 T2.2.2.length bc2)).heap[n0]? = _ := (set3_other (by omega) _ _ _).trans hq1
      have hq4 := set3_row hq2 (.int .i64 T2.1) (.int .i64 T2.2.1) (.slice B2 T2.2.2.length bc2)
      change wpAnyU _ _ _ _ _ _ _ _ _ (set3 W7 (n0 + 1) (.int .i64 T2.1) (.int .i64 T2.2.1) (.slice B2 T2.2.2.length bc2))
      generalize set3 W7 (n0 + 1) (.int .i64 T2.1) (.int .i64 T2.2.1) (.slice B2 T2.2.2.length bc2) = W8 at hS9 hq3 hq4 hret ⊢
      refine wpAnyU_one (i := 10) (by kernel_rfl) rfl (fun K hK => ?_)
      go_simp
      refine hK.out _ _ (fun _ => hS9) ?_
      clear hK K
      try simp only [Act.put, List.setIfInBounds_toArray, List.set_cons_zero, List.set_cons_succ]
      refine wpAnyU_done (by kernel_rfl) ?_ _
      obtain ⟨a0, a1, a2, _⟩ := blk3 hq3
      obtain ⟨b0, b1, b2, _⟩ := blk3 hq4
      go_wp2_with fail
      refine bodyPost_ret (v := .tuple #[.agg #[.int .i64 T1.1, .int .i64 T1.2.1, .slice B1 T1.2.2.length bc1], .agg #[.int .i64 T2.1, .int .i64 T2.2.1, .slice B2 T2.2.2.length bc2], .bool false]) ?_ rfl hret
      simp [results, Try.results31, Try.f31, go_sem, a0, a1, a2, b0, b1, b2]
  · have hT : treesB l m = false := by
      unfold treesB; rw [decide_eq_false_iff_not]; exact fun h => hok ⟨h.2.1, h.2.2⟩
    obtain ⟨W9, hW9⟩ : ∃ W9, set3 (set3 W0 n0 (.int .i64 0) (.int .i64 0) (.slice none 0 0)) (n0 + 1) (.int .i64 0) (.int .i64 0) (.slice none 0 0) = W9 := ⟨_, rfl⟩
    have hfin : Hid (RetTrees l m (leafN leaf) w (.returned (.tuple #[.agg #[.int .i64 0, .int .i64 0, .slice none 0 0], .agg #[.int .i64 0, .int .i64 0, .slice none 0 0], .bool false])) W9) := by
      refine ⟨zTree, zTree, none, none, 0, 0, by rw [hT]; rfl, ⟨Nat.le_refl _, Nat.zero_le _⟩, ⟨Nat.le_refl _, Nat.zero_le _⟩, SlAt.nil_, SlAt.nil_, ?_, fun h => by rw [hT] at h; cases h⟩
      rw [hn0, ← hW9]
      exact set3_below (set3_below hB0 (Nat.le_refl _) _ _ _) (by omega) _ _ _
    have hf0 : W9.heap[n0]? = some (.cells #[.int .i64 0, .int .i64 0, .slice none 0 0] 24 (0, 0)) := by
      rw [← hW9]; exact (set3_other (by omega) _ _ _).trans (set3_row hr0 _ _ _)
    have hf1 : W9.heap[n0 + 1]? = some (.cells #[.int .i64 0, .int .i64 0, .slice none 0 0] 24 (0, 0)) := by
      rw [← hW9]; exact set3_row ((set3_other (by omega) _ _ _).trans hr1) _ _ _
    have HF0 := Lib.hid (And.intro hf0 hf1)
    have HW9 := Lib.hid hW9
    clear hf0 hf1 hW9 hr0 hr1 h1 h2 hT
    by_cases h100 : 100 < l.length
    · have hb1 : (100 : Int) < l.length := by omega
      clear hok
      go_enter Try.func31, Try.ntmps31
      go_wp2_with fail
      change bodyPost _ _ _ _ _ (set3 (set3 W0 n0 (.int .i64 0) (.int .i64 0) (.slice none 0 0)) (n0 + 1) (.int .i64 0) (.int .i64 0) (.slice none 0 0))
      rw [HW9.out]
      obtain ⟨a0, a1, a2, _⟩ := blk3 HF0.out.1
      obtain ⟨b0, b1, b2, _⟩ := blk3 HF0.out.2
      refine bodyPost_ret (v := .tuple #[.agg #[.int .i64 0, .int .i64 0, .slice none 0 0], .agg #[.int .i64 0, .int .i64 0, .slice none 0 0], .bool false]) ?_ rfl hfin.out
      simp [results, Try.results31, Try.f31, go_sem, a0, a1, a2, b0, b1, b2]
    · have hb1 : ¬ ((100 : Int) < l.length) := by omega
      have hb2 : ((l.length : Int) != (m.length : Int)) = true := by rw [bne_iff_ne]; intro h; exact hok ⟨by omega, by omega⟩
      clear hok
      go_enter Try.func31, Try.ntmps31
      go_wp2_with fail
      change bodyPost _ _ _ _ _ (set3 (set3 W0 n0 (.int .i64 0) (.int .i64 0) (.slice none 0 0)) (n0 + 1) (.int .i64 0) (.int .i64 0) (.slice none 0 0))
      rw [HW9.out]
      obtain ⟨a0, a1, a2, _⟩ := blk3 HF0.out.1
      obtain ⟨b0, b1, b2, _⟩ := blk3 HF0.out.2
      refine bodyPost_ret (v := .tuple #[.agg #[.int .i64 0, .int .i64 0, .slice none 0 0], .agg #[.int .i64 0, .int .i64 0, .slice none 0 0], .bool false]) ?_ rfl hfin.out
      simp [results, Try.results31, Try.f31, go_sem, a0, a1, a2, b0, b1, b2]
end Go.Proofs.Ytjehedfdikdfpaa
namespace Go.Proofs.Ytjehedfdikdfpaa
open Go.RowKit Go.Shelf
attribute [local go_sem] Oper.semAt_some

structure TwoT (N n : Nat) (la lb : List (List Int)) : Prop where
  ca : checkT ((N : Int), (n : Int), la) = 0
  cb : checkT ((N : Int), (n : Int), lb) = 0
  ta : TOk N n la
  tb : TOk N n lb
theorem TwoT.swap {N n : Nat} {la lb : List (List Int)} (h : TwoT N n la lb) : TwoT N n lb la := ⟨h.cb, h.ca, h.tb, h.ta⟩
theorem TwoT.err {N n : Nat} {la lb : List (List Int)} (h : TwoT N n la lb) : difErr ((N : Int), (n : Int), la) ((N : Int), (n : Int), lb) = 0 := by
  unfold difErr; rw [if_neg (by rw [h.ca]; simp), if_neg (by rw [h.cb]; simp), if_neg (by simp)]
theorem TOk.rows {N n : Nat} {l : List (List Int)} (h : TOk N n l) : ∀ row ∈ l, row.length ≤ 1000000 := fun row hr => by
  obtain ⟨k, hk, rfl⟩ := List.mem_iff_getElem.1 hr
  have := (h.at_ k hk)
  omega
theorem leafN_range {leaf : Int} (h : 0 ≤ leaf ∧ leaf < 256) : 1 ≤ leafN leaf ∧ leafN leaf ≤ 12 := by unfold leafN; omega
theorem trees_two {l m : List Sec} {n : Nat} (hn : 1 ≤ n ∧ n ≤ 12) (h : treesB l m = true) : ∃ la lb, buildT l (n : Int) = ((l.length : Int), (n : Int), la) ∧ buildT m (n : Int) = ((l.length : Int), (n : Int), lb) ∧ TwoT l.length n la lb ∧ l.length ≤ 100 ∧ 1 ≤ l.length := by
  unfold treesB at h
  obtain ⟨h1, h2, h3⟩ := of_decide_eq_true h
  obtain ⟨_, b1, c1⟩ := build_ok (l := l) (m := n) ⟨h1, by omega⟩ ⟨hn.1, by omega⟩
  obtain ⟨_, b2, c2⟩ := build_ok (l := m) (m := n) ⟨by omega, by omega⟩ ⟨hn.1, by omega⟩
  rw [← h3] at b2 c2
  obtain ⟨n', m', e1, e2, tk⟩ := checkT_TOk c1
  obtain ⟨n'', m'', e3, e4, tk2⟩ := checkT_TOk c2
  obtain rfl : n' = l.length := by omega
  obtain rfl : m' = n := by omega
  obtain rfl : n'' = l.length := by omega
  obtain rfl : m'' = m' := by omega
  exact ⟨_, _, b1, b2, ⟨c1, c2, tk, tk2⟩, h2, h1⟩
end Go.Proofs.Ytjehedfdikdfpaa
