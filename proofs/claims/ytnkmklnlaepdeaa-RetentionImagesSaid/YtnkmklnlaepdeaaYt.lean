/-
  The reference's Merge of retention: the walk.
-/
import Derived.Test.YtnkmklnlaepdeaaY5
import Derived.Test.YtnkmklnlaepdeaaY2
set_option linter.unusedVariables false
set_option linter.unusedSimpArgs false
set_option linter.unusedSectionVars false
set_option linter.unnecessarySimpa false
namespace Go.Proofs.Ytnkmklnlaepdeaa
open Go.RowKit Go.Shelf
attribute [local go_sem] Oper.semAt_some

set_option maxHeartbeats 8000000 in
set_option maxRecDepth 100000 in
theorem refMerge_any (A B : Option Addr) (ca cb na nb : Nat) (wa wb : Int) (la lb : List Rule) (w : World) (hna : la.length = na) (hnb : lb.length = nb) (h1 : SlAt encExt w (Bl w.heap.size) A la) (h2 : SlAt encExt w (Bl w.heap.size) B lb) (hca : na ≤ ca ∧ ca ≤ maxLen) (hcb : nb ≤ cb ∧ cb ≤ maxLen) :
    Calls Try.prog 19 #[.agg #[.int .i64 wa, .slice A na ca], .agg #[.int .i64 wb, .slice B nb cb]] w (PolRet (mergeP (wa, la) (wb, lb)) (mergeE (wa, la) (wb, lb)) w) := by
  subst hna hnb
  obtain ⟨n0, hn0⟩ : ∃ n0, w.heap.size = n0 := ⟨_, rfl⟩
  rw [hn0] at h1 h2
  have H1 : Hid (∀ w', Below n0 w w' → SlAt encExt w' (Bl n0) A la) := fun w' hb => h1.below hb
  have H2 : Hid (∀ w', Below n0 w w' → SlAt encExt w' (Bl n0) B lb) := fun w' hb => h2.below hb
  clear h1 h2
  obtain ⟨hca0, hca1⟩ := hca
  obtain ⟨hcb0, hcb1⟩ := hcb
  unfold maxLen at hca1 hcb1
  obtain ⟨Wa, hWa⟩ : ∃ W, w.alloc (.cells #[.int .i64 wa, .slice A la.length ca] 24) = W := ⟨_, rfl⟩
  obtain ⟨Wb, hWb⟩ : ∃ W, Wa.alloc (.cells #[.int .i64 wb, .slice B lb.length cb] 24) = W := ⟨_, rfl⟩
  obtain ⟨W1, hW1⟩ : ∃ W, Wb.alloc (.cells #[.int .i64 0, .slice none 0 0] 24) = W := ⟨_, rfl⟩
  have sa : Wa.heap.size = n0 + 1 := by rw [← hWa, ← hn0]; simp
  have sb : Wb.heap.size = n0 + 1 + 1 := by rw [← hWb, World.size_alloc, sa]
  have sc : W1.heap.size = n0 + 1 + 1 + 1 := by rw [← hW1, World.size_alloc, sb]
  have bba : Below n0 w Wa := by rw [← hWa, ← hn0]; exact ext_alloc (Below.refl _ _)
  have bab : Below (n0 + 1) Wa Wb := by rw [← hWb, ← sa]; exact ext_alloc (Below.refl _ _)
  have bbc : Below (n0 + 1 + 1) Wb W1 := by rw [← hW1, ← sb]; exact ext_alloc (Below.refl _ _)
  have ra : Wa.heap[n0]? = some (.cells #[.int .i64 wa, .slice A la.length ca] 24 (0, 0)) := by rw [← hWa, ← hn0]; exact heap_alloc_new _ _
  have rb : Wb.heap[n0 + 1]? = some (.cells #[.int .i64 wb, .slice B lb.length cb] 24 (0, 0)) := by rw [← hWb, ← sa]; exact heap_alloc_new _ _
  have rc1 : W1.heap[n0 + 1 + 1]? = some (.cells #[.int .i64 0, .slice none 0 0] 24 (0, 0)) := by rw [← hW1, ← sb]; exact heap_alloc_new _ _
  have ra1 := (bbc.block n0 (by omega)).trans ((bab.block n0 (by omega)).trans ra)
  have rb1 := (bbc.block (n0 + 1) (by omega)).trans rb
  have hB1 : Below n0 w W1 := (bba.trans (bab.mono (by omega))).trans (bbc.mono (by omega))
  obtain ⟨n1, hn1⟩ : ∃ n1, n1 = n0 + 1 + 1 + 1 := ⟨_, rfl⟩
  have HAB : Hid (∀ W : World, Below n1 W1 W → (W.cell? ⟨n0, 0, none⟩ = some (.int .i64 wa) ∧ W.cell? ⟨n0, 1, none⟩ = some (.slice A la.length ca)) ∧ W.cell? ⟨n0 + 1, 0, none⟩ = some (.int .i64 wb) ∧ W.cell? ⟨n0 + 1, 1, none⟩ = some (.slice B lb.length cb)) := fun W hb => by
    obtain ⟨a, b, _⟩ := blk2 ((hb.block n0 (by omega)).trans ra1)
    obtain ⟨c, d, _⟩ := blk2 ((hb.block (n0 + 1) (by omega)).trans rb1)
    exact ⟨⟨a, b⟩, c, d⟩
  have HRZ : Hid (∀ W, Below n1 W1 W → W.heap[n0 + 1 + 1]? = some (.cells #[.int .i64 0, .slice none 0 0] 24 (0, 0))) := fun W hb => (hb.block (n0 + 1 + 1) (by omega)).trans rc1
  have HW := Lib.hid (And.intro hWa (And.intro hWb hW1))
  have HS1 := Lib.hid (And.intro sa sb)
  obtain ⟨pa, hpa⟩ : ∃ q, Hid (polE (wa, la) = q) := ⟨_, Lib.hid rfl⟩
  have HC := Lib.hid (refPolCheck_any A ca la.length wa la pa W1 rfl hpa.out ((H1.out W1 hB1).more (fun g hg => by have : g < n0 := hg; show g < W1.heap.size; omega)) (by omega))
  obtain ⟨⟨c0, c1⟩, c2, c3⟩ := HAB.out W1 (Below.refl _ _)
  have hs1 : n1 ≤ W1.heap.size := by omega
  clear ra rb ra1 rb1 rc1 bba bab bbc
  go_enter Try.func19, Try.ntmps19
  go_wp2_with fail
  refine HC.out.mono ?_
  rintro e w2 ⟨rfl, hb2⟩
  have hB2 : Below n1 W1 w2 := hb2.mono hs1
  clear HC c0 c1 c2 c3
  by_cases hx0 : pa = 0
  case neg =>
    have hx0' : (pa != 0) = true := by simp [hx0]
    have HX : Hid (mergeE (wa, la) (wb, lb) = pa ∧ mergeP (wa, la) (wb, lb) = zPol) := by
      have hm : mergeE (wa, la) (wb, lb) = pa := by
        unfold mergeE
        rw [if_pos (by rw [hpa.out]; exact hx0), hpa.out]
      exact ⟨hm, by unfold mergeP; rw [if_neg (by rw [hm]; first | exact hx0 | decide)]⟩
    clear hx0
    have hBww := hB1.trans (hB2.mono (by omega))
    have hrz := HRZ.out w2 hB2
    obtain ⟨z0, z1, zf⟩ := blk2 hrz
    go_wp2_with fail
    try rw [Exit.noGoto_ret]
    have hz := blk2_set hrz (.int .i64 0) (.slice none 0 0)
    have hbe := ((hBww.setCell (p := ⟨n0 + 1 + 1, 0, none⟩) (by show n0 ≤ n0 + 1 + 1; omega) (.int .i64 0)).setCell (p := ⟨n0 + 1 + 1, 1, none⟩) (by show n0 ≤ n0 + 1 + 1; omega) (.slice none 0 0))
    have hse := trivial
    change bodyPost _ _ _ _ _ ((w2.setCell ⟨(n0 + 1 + 1), 0, none⟩ (.int .i64 0)).setCell ⟨(n0 + 1 + 1), 1, none⟩ (.slice none 0 0))
    generalize (w2.setCell ⟨(n0 + 1 + 1), 0, none⟩ (.int .i64 0)).setCell ⟨(n0 + 1 + 1), 1, none⟩ (.slice none 0 0) = W3 at hz hbe hse ⊢
    obtain ⟨z0, z1, _⟩ := blk2 hz
    refine bodyPost_ret (v := .tuple #[.agg #[(.int .i64 0), (.slice none 0 0)], .int .i64 pa]) ?_ rfl ?_
    · simp [results, Try.results19, Try.f19, go_sem, z0, z1]
    rw [HX.out.1, HX.out.2]
    exact ⟨none, 0, rfl, by simp [zPol], by simp, SlAt.nil_, by rw [hn0]; exact hbe⟩
  have hx0' : (pa != 0) = false := by simp [hx0]
  have HPA : Hid (polE (wa, la) = 0) := hpa.out.trans hx0
  clear hx0 hpa
  obtain ⟨pb, hpb⟩ : ∃ q, Hid (polE (wb, lb) = q) := ⟨_, Lib.hid rfl⟩
  have hBw2 := hB1.trans (hB2.mono (by omega))
  have hz2 := hB2.size
  have HC := Lib.hid (refPolCheck_any B cb lb.length wb lb pb w2 rfl hpb.out ((H2.out w2 hBw2).more (fun g hg => by have : g < n0 := hg; show g < w2.heap.size; omega)) (by omega))
  obtain ⟨⟨c0, c1⟩, c2, c3⟩ := HAB.out w2 hB2
  go_wp2_with fail
  refine HC.out.mono ?_
  rintro e w3 ⟨rfl, hb3⟩
  have hB3 : Below n1 W1 w3 := hB2.trans (hb3.mono (by omega))
  clear HC c0 c1 c2 c3
  by_cases hx0 : pb = 0
  case neg =>
    have hx0b : (pb != 0) = true := by simp [hx0]
    have HX : Hid (mergeE (wa, la) (wb, lb) = pb ∧ mergeP (wa, la) (wb, lb) = zPol) := by
      have hm : mergeE (wa, la) (wb, lb) = pb := by
        unfold mergeE
        rw [if_neg (by rw [HPA.out]; simp), if_pos (by rw [hpb.out]; exact hx0), hpb.out]
      exact ⟨hm, by unfold mergeP; rw [if_neg (by rw [hm]; first | exact hx0 | decide)]⟩
    clear hx0
    have hBww := hB1.trans (hB3.mono (by omega))
    have hrz := HRZ.out w3 hB3
    obtain ⟨z0, z1, zf⟩ := blk2 hrz
    go_wp2_with fail
    try rw [Exit.noGoto_ret]
    have hz := blk2_set hrz (.int .i64 0) (.slice none 0 0)
    have hbe := ((hBww.setCell (p := ⟨n0 + 1 + 1, 0, none⟩) (by show n0 ≤ n0 + 1 + 1; omega) (.int .i64 0)).setCell (p := ⟨n0 + 1 + 1, 1, none⟩) (by show n0 ≤ n0 + 1 + 1; omega) (.slice none 0 0))
    have hse := trivial
    change bodyPost _ _ _ _ _ ((w3.setCell ⟨(n0 + 1 + 1), 0, none⟩ (.int .i64 0)).setCell ⟨(n0 + 1 + 1), 1, none⟩ (.slice none 0 0))
    generalize (w3.setCell ⟨(n0 + 1 + 1), 0, none⟩ (.int .i64 0)).setCell ⟨(n0 + 1 + 1), 1, none⟩ (.slice none 0 0) = W3 at hz hbe hse ⊢
    obtain ⟨z0, z1, _⟩ := blk2 hz
    refine bodyPost_ret (v := .tuple #[.agg #[(.int .i64 0), (.slice none 0 0)], .int .i64 pb]) ?_ rfl ?_
    · simp [results, Try.results19, Try.f19, go_sem, z0, z1]
    rw [HX.out.1, HX.out.2]
    exact ⟨none, 0, rfl, by simp [zPol], by simp, SlAt.nil_, by rw [hn0]; exact hbe⟩
  have hx0b : (pb != 0) = false := by simp [hx0]
  have HPB : Hid (polE (wb, lb) = 0) := hpb.out.trans hx0
  clear hx0 hpb
  have hA := Lib.hid (polE_ok HPA.out)
  have hBp := Lib.hid (polE_ok HPB.out)
  have hBw3 := hB1.trans (hB3.mono (by omega))
  have hz3 := hB3.size
  obtain ⟨⟨c0, c1⟩, c2, c3⟩ := HAB.out w3 hB3
  go_upto_region 8 with (fail)
  obtain ⟨wm, hwm⟩ : ∃ wm, max wa wb = wm := ⟨_, rfl⟩
  rw [hwm]
  have HWM := Lib.hid hwm
  obtain ⟨ob, hob⟩ : ∃ ob, w3.heap.size = ob := ⟨_, rfl⟩
  obtain ⟨W6, hW6⟩ : ∃ W6, w3.alloc (.cells #[.int .i64 wm, .slice none 0 0] 24) = W6 := ⟨_, rfl⟩
  rw [hW6, hob]
  have hb6 : Below ob w3 W6 := by rw [← hW6, ← hob]; exact ext_alloc (Below.refl _ _)
  have hr6 : W6.heap[ob]? = some (.cells #[.int .i64 wm, .slice none 0 0] 24 (0, 0)) := by rw [← hW6, ← hob]; exact heap_alloc_new _ _
  have hob1 : n1 ≤ ob := by omega
  have hB6 : Below n1 W1 W6 := hB3.trans (hb6.mono hob1)
  have hBw6 : Below n0 w W6 := hBw3.trans (hb6.mono (by omega))
  obtain ⟨n6, hn6⟩ : ∃ n6, W6.heap.size = n6 := ⟨_, rfl⟩
  have hob6 : ob < n6 := by rw [← hn6]; exact (Array.getElem?_eq_some_iff.1 hr6).1
  clear hwm hW6 c0 c1 c2 c3 hb6
  go_wp2_with fail
  go_loopw [9, 10] (fun iv kv wr => ∃ (i k dc : Nat) (D : Option Addr) (out : List Rule), i ≤ la.length ∧ k ≤ lb.length ∧ iv = .int .i64 i ∧ kv = .int .i64 k ∧ Hid (out.length + (la.length - i) + (lb.length - k) ≤ 16) ∧ Hid (mergeR la lb = out ++ mergeR (la.drop i) (lb.drop k)) ∧ Hid (W6.grownBy wr (some ob)) ∧ Hid (wr.heap[ob]? = some (.cells #[.int .i64 wm, .slice D out.length dc] 24 (0, 0))) ∧ Hid (OwnX (fun _ => False) encExt wr n6 48 (.slice D out.length dc) out)) (fun iv kv _ => (la.length - (intOf iv).toNat) + (lb.length - (intOf kv).toNat))
  case atStart => exact ⟨0, 0, 0, none, [], by omega, by omega, rfl, rfl, by rw [Hid]; have := hA.out.2.2.1; have := hBp.out.2.2.1; simp; omega, by simp [Hid], grown_reflR _ _, hr6, OwnX.nil_⟩
  case round =>
    obtain ⟨i, k, dc, D, out, hi, hk, rfl, rfl, HLE, HMR, HG, HOB, HO⟩ := hrel
    obtain ⟨wz, rfl⟩ : ∃ wz : World, wz = wr := ⟨_, rfl⟩
    have hBwz : Below n0 w wz := hBw6.grown HG.out (by omega) (fun g hg => by injection hg with hg; omega)
    have hB1z : Below n1 W1 wz := hB6.grown HG.out (by omega) (fun g hg => by injection hg with hg; omega)
    obtain ⟨⟨_, c1⟩, _, c3⟩ := HAB.out wz hB1z
    by_cases hi' : i < la.length
    · obtain ⟨bx, ox, hAe, hbx, gx0, gx1, ix0, ix1⟩ := (H1.out wz hBwz).ext hi'
      obtain ⟨x, hx⟩ : ∃ x, la[i] = x := ⟨_, rfl⟩
      rw [hx] at gx0 gx1 ix0 ix1
      obtain ⟨ex, cx⟩ := x
      simp only at gx0 gx1 ix0 ix1
      have hbx' : bx < n0 := hbx
      have HXE : Hid (la.drop i = (ex, cx) :: la.drop (i + 1)) := by rw [Hid, List.drop_eq_getElem_cons hi', hx]
      have hiI : (i : Int) < la.length := by omega
      have hi0 : (0 : Int) ≤ i := by omega
      have hiE : ((i : Int) == (la.length : Int)) = false := by simp; omega
      clear hx hbx
      subst hAe
      by_cases hk' : k < lb.length
      · obtain ⟨by_, oy, hBe, hby, gy0, gy1, iy0, iy1⟩ := (H2.out wz hBwz).ext hk'
        obtain ⟨y, hy⟩ : ∃ y, lb[k] = y := ⟨_, rfl⟩
        rw [hy] at gy0 gy1 iy0 iy1
        obtain ⟨ey, cy⟩ := y
        simp only at gy0 gy1 iy0 iy1
        have hby' : by_ < n0 := hby
        have HYE : Hid (lb.drop k = (ey, cy) :: lb.drop (k + 1)) := by rw [Hid, List.drop_eq_getElem_cons hk', hy]
        have hkI : (k : Int) < lb.length := by omega
        have hk0 : (0 : Int) ≤ k := by omega
        have hkE : ((k : Int) == (lb.length : Int)) = false := by simp; omega
        clear hy hby
        subst hBe
        by_cases hxy : ex < ey
        · have hd : decide (ex < ey) = true := decide_eq_true hxy
          have HXY := Lib.hid hxy
          clear hxy
          go_upto_region 12 with (fail)
          go_quiet (fail)
          generalize hWq : World.drewN wz _ = wq
          obtain ⟨HG, HOB, HO⟩ : Hid (W6.grownBy wq (some ob)) ∧ Hid (wq.heap[ob]? = some (.cells #[.int .i64 wm, .slice D out.length dc] 24 (0, 0))) ∧ Hid (OwnX (fun _ => False) encExt wq n6 48 (.slice D out.length dc) out) := by
            rw [← hWq]
            exact ⟨grown_drewR HG.out _, HOB.out, HO.out.below (bDrew (Below.refl _ _) _)⟩
          have HEQ : Hid (∀ b : Nat, wq.heap[b]? = wz.heap[b]?) := fun b => by rw [← hWq]; rfl
          clear hWq
          replace c1 := (World.cell?_of_block (a := ⟨n0, 1, none⟩) (HEQ.out n0)).trans c1
          replace c3 := (World.cell?_of_block (a := ⟨n0 + 1, 1, none⟩) (HEQ.out (n0 + 1))).trans c3
          replace gx0 := (World.cell?_of_block (a := ⟨bx, ox + i * 2, none⟩) (HEQ.out bx)).trans gx0
          replace gx1 := (World.cell?_of_block (a := ⟨bx, ox + i * 2 + 1, none⟩) (HEQ.out bx)).trans gx1
          replace gy0 := (World.cell?_of_block (a := ⟨by_, oy + k * 2, none⟩) (HEQ.out by_)).trans gy0
          replace gy1 := (World.cell?_of_block (a := ⟨by_, oy + k * 2 + 1, none⟩) (HEQ.out by_)).trans gy1
          clear HEQ
          go_upto_region 13 with (fail)
          have hO4 := Lib.hid ((HO.out.below (Below.refl wq.heap.size wq).drew).alloc (.cells #[.int .i64 ex, .int .i64 cx] 48))
          have hO4o := Lib.hid hO4.out.1
          have HRD : Hid (encExt.rd (wq.drew.alloc (.cells #[.int .i64 ex, .int .i64 cx] 48)) (fun b => Nw n6 (wq.drew.alloc (.cells #[.int .i64 ex, .int .i64 cx] 48)).heap.size b ∧ ¬ (fun _ => False) b ∧ (Value.slice D out.length dc).ownBlock ≠ some b) [.int .i64 ex, .int .i64 cx] (ex, cx)) := ext_mk (x := (ex, cx)) ix0 ix1
          have hol : out.length ≤ 16 := by have := HLE.out; omega
          have hgz := HG.out.size
          have hal : ∀ b, b = ob ∨ b < n0 + 2 → b < wq.heap.size := fun b hb => by omega
          have HAL := Lib.hid hal
          have hoown : Hid (∀ b, b = ob ∨ b < n0 + 2 → (Value.slice D out.length dc).ownBlock ≠ some b) := fun b hb h => by have := (HO.out.lt b h).1; omega
          have HSY : Hid (∀ W : World, (∀ b, b = ob ∨ b < n0 + 2 → W.heap[b]? = wq.heap[b]?) → (W.cell? ⟨ob, 1, none⟩ = some (.slice D out.length dc) ∧ W.frozen? ⟨ob, 1, none⟩ = false) ∧ (W.cell? ⟨n0, 1, none⟩ = some (.slice (some ⟨bx, ox, none⟩) la.length ca) ∧ W.cell? ⟨n0 + 1, 1, none⟩ = some (.slice (some ⟨by_, oy, none⟩) lb.length cb)) ∧ W.cell? ⟨bx, ox + i * 2, none⟩ = some (.int .i64 ex) ∧ W.cell? ⟨bx, ox + i * 2 + 1, none⟩ = some (.int .i64 cx)) := fun W hb => by
            obtain ⟨_, q1, qf⟩ := blk2 ((hb ob (Or.inl rfl)).trans HOB.out)
            exact ⟨⟨q1, qf 1⟩, ⟨(World.cell?_of_block (a := ⟨n0, 1, none⟩) (hb n0 (Or.inr (by omega)))).trans c1, (World.cell?_of_block (a := ⟨n0 + 1, 1, none⟩) (hb (n0 + 1) (Or.inr (by omega)))).trans c3⟩, (World.cell?_of_block (a := ⟨bx, ox + i * 2, none⟩) (hb bx (Or.inr (by omega)))).trans gx0, (World.cell?_of_block (a := ⟨bx, ox + i * 2 + 1, none⟩) (hb bx (Or.inr (by omega)))).trans gx1⟩
          have hSw := HSY.out wq.drew (fun _ _ => rfl)
          have hSt := HSY.out (wq.drew.alloc (.cells #[.int .i64 ex, .int .i64 cx] 48)) (fun b hb => Below.heap_alloc wq.drew _ b (HAL.out b hb))
          clear hal
          refine wp_region_U (fun W => ((W.cell? ⟨ob, 1, none⟩ = some (.slice D out.length dc) ∧ W.frozen? ⟨ob, 1, none⟩ = false) ∧ (W.cell? ⟨n0, 1, none⟩ = some (.slice (some ⟨bx, ox, none⟩) la.length ca) ∧ W.cell? ⟨n0 + 1, 1, none⟩ = some (.slice (some ⟨by_, oy, none⟩) lb.length cb)) ∧ W.cell? ⟨bx, ox + i * 2, none⟩ = some (.int .i64 ex) ∧ W.cell? ⟨bx, ox + i * 2 + 1, none⟩ = some (.int .i64 cx))) 10 (by kernel_rfl) ?_
          refine wpAnyU_take (i := 0) (v := ?_) rfl (by kernel_rfl) (by kernel_rfl) (by kernel_rfl) (by kernel_rfl) (fun _ _ _ h => h) (by rfl) ?_ hSw ?_
          rotate_left 1
          · intro W hW
            try dsimp only at hW
            obtain ⟨⟨o1, of⟩, ⟨a1, b1⟩, x0, x1⟩ := hW
            go_simp
            try with_reducible rfl
          try simp only [Act.put, List.setIfInBounds_toArray, List.set_cons_zero, List.set_cons_succ]
          refine wpAnyU_take (i := 1) (v := ?_) rfl (by kernel_rfl) (by kernel_rfl) (by kernel_rfl) (by kernel_rfl) (fun _ _ _ h => h) (by rfl) ?_ hSw ?_
          rotate_left 1
          · intro W hW
            try dsimp only at hW
            obtain ⟨⟨o1, of⟩, ⟨a1, b1⟩, x0, x1⟩ := hW
            go_simp
            try with_reducible rfl
          try simp only [Act.put, List.setIfInBounds_toArray, List.set_cons_zero, List.set_cons_succ]
          refine wpAnyU_take (i := 2) (v := ?_) rfl (by kernel_rfl) (by kernel_rfl) (by kernel_rfl) (by kernel_rfl) (fun _ _ _ h => h) (by rfl) ?_ hSw ?_
          rotate_left 1
          · intro W hW
            try dsimp only at hW
            obtain ⟨⟨o1, of⟩, ⟨a1, b1⟩, x0, x1⟩ := hW
            go_simp
            try with_reducible rfl
          try simp only [Act.put, List.setIfInBounds_toArray, List.set_cons_zero, List.set_cons_succ]
          refine wpAnyU_take (i := 3) (v := ?_) rfl (by kernel_rfl) (by kernel_rfl) (by kernel_rfl) (by kernel_rfl) (fun _ _ _ h => h) (by rfl) ?_ hSw ?_
          rotate_left 1
          · intro W hW
            try dsimp only at hW
            obtain ⟨⟨o1, of⟩, ⟨a1, b1⟩, x0, x1⟩ := hW
            go_simp
            try with_reducible rfl
          try simp only [Act.put, List.setIfInBounds_toArray, List.set_cons_zero, List.set_cons_succ]
          refine wpAnyU_take (i := 4) (v := ?_) rfl (by kernel_rfl) (by kernel_rfl) (by kernel_rfl) (by kernel_rfl) (fun _ _ _ h => h) (by rfl) ?_ hSw ?_
          rotate_left 1
          · intro W hW
            try dsimp only at hW
            obtain ⟨⟨o1, of⟩, ⟨a1, b1⟩, x0, x1⟩ := hW
            go_simp
            try with_reducible rfl
          try simp only [Act.put, List.setIfInBounds_toArray, List.set_cons_zero, List.set_cons_succ]
          refine wpAnyU_take (i := 5) (v := ?_) rfl (by kernel_rfl) (by kernel_rfl) (by kernel_rfl) (by kernel_rfl) (fun _ _ _ h => h) (by rfl) ?_ hSw ?_
          rotate_left 1
          · intro W hW
            try dsimp only at hW
            obtain ⟨⟨o1, of⟩, ⟨a1, b1⟩, x0, x1⟩ := hW
            go_simp
            try with_reducible rfl
          try simp only [Act.put, List.setIfInBounds_toArray, List.set_cons_zero, List.set_cons_succ]
          refine wpAnyU_take (i := 6) (v := ?_) rfl (by kernel_rfl) (by kernel_rfl) (by kernel_rfl) (by kernel_rfl) (fun _ _ _ h => h) (by rfl) ?_ hSw ?_
          rotate_left 1
          · intro W hW
            try dsimp only at hW
            obtain ⟨⟨o1, of⟩, ⟨a1, b1⟩, x0, x1⟩ := hW
            go_simp
            try with_reducible rfl
          try simp only [Act.put, List.setIfInBounds_toArray, List.set_cons_zero, List.set_cons_succ]
          refine wpAnyU_one (i := 7) (by kernel_rfl) rfl (fun K hK => ?_)
          go_simp
          refine hK.out _ _ (fun _ => hSt) ?_
          clear hK K
          try simp only [Act.put, List.setIfInBounds_toArray, List.set_cons_zero, List.set_cons_succ]
          refine wpAnyU_one (i := 8) (by kernel_rfl) rfl (fun K hK => ?_)
          refine step_app1 (E := encExt) tyRules rfl _ _ rfl rfl hO4o.out (ex, cx) [.int .i64 ex, .int .i64 cx] rfl HRD.out (heap_alloc_new _ _) (fun _ h => h.1.2) (by simp; omega) (by unfold maxLen; omega) (by omega) ?_
          intro A6 c6 w6 hown6 hg6 hat6
          have hk6 : Hid (∀ b, b = ob ∨ b < n0 + 2 → w6.heap[b]? = wq.heap[b]?) := fun b hb => (hg6.block b (by have := HAL.out b hb; simp; omega) (fun e => hoown.out b hb e.symm)).trans (Below.heap_alloc wq.drew _ b (HAL.out b hb))
          refine hK.out _ _ (fun _ => HSY.out w6 hk6.out) ?_
          clear hK K
          try simp only [Act.put, List.setIfInBounds_toArray, List.set_cons_zero, List.set_cons_succ]
          obtain ⟨⟨t0, tf⟩, _⟩ := HSY.out w6 hk6.out
          refine wpAnyU_one (i := 9) (by kernel_rfl) rfl (fun K hK => ?_)
          go_simp
          refine hK.out _ _ (fun _ => HSY.out w6 hk6.out) ?_
          clear hK K
          try simp only [Act.put, List.setIfInBounds_toArray, List.set_cons_zero, List.set_cons_succ]
          refine wpAnyU_one (i := 10) (by kernel_rfl) rfl (fun K hK => ?_)
          go_simp
          refine hK.out _ _ (fun h => absurd rfl h) ?_
          clear hK K
          refine wpAnyU_done (by kernel_rfl) ?_ _
          have hro7 : Hid ((w6.setCell ⟨ob, 1, none⟩ (.slice A6 (out.length + 1) c6)).heap[ob]? = some (.cells #[.int .i64 wm, .slice A6 (out.length + 1) c6] 24 (0, 0))) := blk2_1 ((hk6.out ob (Or.inl rfl)).trans HOB.out) (.slice A6 (out.length + 1) c6)
          have hO7 : Hid (OwnX (fun _ => False) encExt (w6.setCell ⟨ob, 1, none⟩ (.slice A6 (out.length + 1) c6)) n6 48 (.slice A6 (out.length + 1) c6) (out ++ [(ex, cx)])) := by
            have h := hO4.out.app hown6 hg6 hat6 (fun b hb => hb.elim)
            refine h.keep (by simp [World.setCell]) (fun g hg _ _ => heap_setCell_other w6 ⟨ob, 1, none⟩ g _ (by show g ≠ ob; omega))
          have hlo := hO4.out.lt
          have hG7 : Hid (W6.grownBy (w6.setCell ⟨ob, 1, none⟩ (.slice A6 (out.length + 1) c6)) (some ob)) := by
            refine grown_setR ⟨hg6.os.trans HG.out.os, hg6.tape.trans HG.out.tape, hg6.output.trans HG.out.output, Nat.le_trans hgz (by have := hg6.size; simp at this; omega), fun k hk hn => ?_⟩ 1 _
            refine (hg6.block k (by simp; omega) (fun e => ?_)).trans ((Below.heap_alloc wq.drew _ k (by show k < wq.heap.size; omega)).trans (HG.out.block k hk hn))
            have := (hlo k e.symm).1
            omega
          have hle7 : (out ++ [(ex, cx)]).length = out.length + 1 := by simp
          have HL7 := Lib.hid hle7
          clear hown6 hg6 hat6 hk6 hlo hle7 t0 tf
          generalize w6.setCell ⟨ob, 1, none⟩ (.slice A6 (out.length + 1) c6) = w7 at hro7 hO7 hG7 ⊢
          go_wp2_with fail
          go_roundw
          case rel =>

            exact ⟨i + 1, k, c6, A6, out ++ [(ex, cx)], by omega, by omega, by go_num, by go_num, by rw [Hid, HL7.out]; have := HLE.out; omega, by rw [Hid, HMR.out]; rw [HXE.out, HYE.out, mergeR_lt (a := (ex, cx)) (b := (ey, cy)) HXY.out]; simp, hG7.out, by rw [Hid, HL7.out]; exact hro7.out, by rw [Hid, HL7.out]; exact hO7.out⟩
          case measure => simp [intOf]; omega
        · have hd : decide (ex < ey) = false := decide_eq_false hxy
          by_cases hyx : ey < ex
          · have hd2 : decide (ey < ex) = true := decide_eq_true hyx
            have HYX := Lib.hid hyx
            clear hyx hxy
            go_upto_region 12 with (fail)
            go_quiet (fail)
            generalize hWq : World.drewN wz _ = wq
            obtain ⟨HG, HOB, HO⟩ : Hid (W6.grownBy wq (some ob)) ∧ Hid (wq.heap[ob]? = some (.cells #[.int .i64 wm, .slice D out.length dc] 24 (0, 0))) ∧ Hid (OwnX (fun _ => False) encExt wq n6 48 (.slice D out.length dc) out) := by
              rw [← hWq]
              exact ⟨grown_drewR HG.out _, HOB.out, HO.out.below (bDrew (Below.refl _ _) _)⟩
            have HEQ : Hid (∀ b : Nat, wq.heap[b]? = wz.heap[b]?) := fun b => by rw [← hWq]; rfl
            clear hWq
            replace c1 := (World.cell?_of_block (a := ⟨n0, 1, none⟩) (HEQ.out n0)).trans c1
            replace c3 := (World.cell?_of_block (a := ⟨n0 + 1, 1, none⟩) (HEQ.out (n0 + 1))).trans c3
            replace gx0 := (World.cell?_of_block (a := ⟨bx, ox + i * 2, none⟩) (HEQ.out bx)).trans gx0
            replace gx1 := (World.cell?_of_block (a := ⟨bx, ox + i * 2 + 1, none⟩) (HEQ.out bx)).trans gx1
            replace gy0 := (World.cell?_of_block (a := ⟨by_, oy + k * 2, none⟩) (HEQ.out by_)).trans gy0
            replace gy1 := (World.cell?_of_block (a := ⟨by_, oy + k * 2 + 1, none⟩) (HEQ.out by_)).trans gy1
            clear HEQ
            go_upto_region 15 with (fail)
            go_quiet (fail)
            generalize hWq : World.drewN wq _ = wp
            obtain ⟨HG, HOB, HO⟩ : Hid (W6.grownBy wp (some ob)) ∧ Hid (wp.heap[ob]? = some (.cells #[.int .i64 wm, .slice D out.length dc] 24 (0, 0))) ∧ Hid (OwnX (fun _ => False) encExt wp n6 48 (.slice D out.length dc) out) := by
              rw [← hWq]
              exact ⟨grown_drewR HG.out _, HOB.out, HO.out.below (bDrew (Below.refl _ _) _)⟩
            have HEQ : Hid (∀ b : Nat, wp.heap[b]? = wq.heap[b]?) := fun b => by rw [← hWq]; rfl
            clear hWq
            replace c1 := (World.cell?_of_block (a := ⟨n0, 1, none⟩) (HEQ.out n0)).trans c1
            replace c3 := (World.cell?_of_block (a := ⟨n0 + 1, 1, none⟩) (HEQ.out (n0 + 1))).trans c3
            replace gx0 := (World.cell?_of_block (a := ⟨bx, ox + i * 2, none⟩) (HEQ.out bx)).trans gx0
            replace gx1 := (World.cell?_of_block (a := ⟨bx, ox + i * 2 + 1, none⟩) (HEQ.out bx)).trans gx1
            replace gy0 := (World.cell?_of_block (a := ⟨by_, oy + k * 2, none⟩) (HEQ.out by_)).trans gy0
            replace gy1 := (World.cell?_of_block (a := ⟨by_, oy + k * 2 + 1, none⟩) (HEQ.out by_)).trans gy1
            clear HEQ
            go_upto_region 16 with (fail)
            have hO4 := Lib.hid ((HO.out.below (Below.refl wp.heap.size wp).drew).alloc (.cells #[.int .i64 ey, .int .i64 cy] 48))
            have hO4o := Lib.hid hO4.out.1
            have HRD : Hid (encExt.rd (wp.drew.alloc (.cells #[.int .i64 ey, .int .i64 cy] 48)) (fun b => Nw n6 (wp.drew.alloc (.cells #[.int .i64 ey, .int .i64 cy] 48)).heap.size b ∧ ¬ (fun _ => False) b ∧ (Value.slice D out.length dc).ownBlock ≠ some b) [.int .i64 ey, .int .i64 cy] (ey, cy)) := ext_mk (x := (ey, cy)) iy0 iy1
            have hol : out.length ≤ 16 := by have := HLE.out; omega
            have hgz := HG.out.size
            have hal : ∀ b, b = ob ∨ b < n0 + 2 → b < wp.heap.size := fun b hb => by omega
            have HAL := Lib.hid hal
            have hoown : Hid (∀ b, b = ob ∨ b < n0 + 2 → (Value.slice D out.length dc).ownBlock ≠ some b) := fun b hb h => by have := (HO.out.lt b h).1; omega
            have HSY : Hid (∀ W : World, (∀ b, b = ob ∨ b < n0 + 2 → W.heap[b]? = wp.heap[b]?) → (W.cell? ⟨ob, 1, none⟩ = some (.slice D out.length dc) ∧ W.frozen? ⟨ob, 1, none⟩ = false) ∧ (W.cell? ⟨n0, 1, none⟩ = some (.slice (some ⟨bx, ox, none⟩) la.length ca) ∧ W.cell? ⟨n0 + 1, 1, none⟩ = some (.slice (some ⟨by_, oy, none⟩) lb.length cb)) ∧ W.cell? ⟨by_, oy + k * 2, none⟩ = some (.int .i64 ey) ∧ W.cell? ⟨by_, oy + k * 2 + 1, none⟩ = some (.int .i64 cy)) := fun W hb => by
              obtain ⟨_, q1, qf⟩ := blk2 ((hb ob (Or.inl rfl)).trans HOB.out)
              exact ⟨⟨q1, qf 1⟩, ⟨(World.cell?_of_block (a := ⟨n0, 1, none⟩) (hb n0 (Or.inr (by omega)))).trans c1, (World.cell?_of_block (a := ⟨n0 + 1, 1, none⟩) (hb (n0 + 1) (Or.inr (by omega)))).trans c3⟩, (World.cell?_of_block (a := ⟨by_, oy + k * 2, none⟩) (hb by_ (Or.inr (by omega)))).trans gy0, (World.cell?_of_block (a := ⟨by_, oy + k * 2 + 1, none⟩) (hb by_ (Or.inr (by omega)))).trans gy1⟩
            have hSw := HSY.out wp.drew (fun _ _ => rfl)
            have hSt := HSY.out (wp.drew.alloc (.cells #[.int .i64 ey, .int .i64 cy] 48)) (fun b hb => Below.heap_alloc wp.drew _ b (HAL.out b hb))
            clear hal
            refine wp_region_U (fun W => ((W.cell? ⟨ob, 1, none⟩ = some (.slice D out.length dc) ∧ W.frozen? ⟨ob, 1, none⟩ = false) ∧ (W.cell? ⟨n0, 1, none⟩ = some (.slice (some ⟨bx, ox, none⟩) la.length ca) ∧ W.cell? ⟨n0 + 1, 1, none⟩ = some (.slice (some ⟨by_, oy, none⟩) lb.length cb)) ∧ W.cell? ⟨by_, oy + k * 2, none⟩ = some (.int .i64 ey) ∧ W.cell? ⟨by_, oy + k * 2 + 1, none⟩ = some (.int .i64 cy))) 10 (by kernel_rfl) ?_
            refine wpAnyU_take (i := 0) (v := ?_) rfl (by kernel_rfl) (by kernel_rfl) (by kernel_rfl) (by kernel_rfl) (fun _ _ _ h => h) (by rfl) ?_ hSw ?_
            rotate_left 1
            · intro W hW
              try dsimp only at hW
              obtain ⟨⟨o1, of⟩, ⟨a1, b1⟩, x0, x1⟩ := hW
              go_simp
              try with_reducible rfl
            try simp only [Act.put, List.setIfInBounds_toArray, List.set_cons_zero, List.set_cons_succ]
            refine wpAnyU_take (i := 1) (v := ?_) rfl (by kernel_rfl) (by kernel_rfl) (by kernel_rfl) (by kernel_rfl) (fun _ _ _ h => h) (by rfl) ?_ hSw ?_
            rotate_left 1
            · intro W hW
              try dsimp only at hW
              obtain ⟨⟨o1, of⟩, ⟨a1, b1⟩, x0, x1⟩ := hW
              go_simp
              try with_reducible rfl
            try simp only [Act.put, List.setIfInBounds_toArray, List.set_cons_zero, List.set_cons_succ]
            refine wpAnyU_take (i := 2) (v := ?_) rfl (by kernel_rfl) (by kernel_rfl) (by kernel_rfl) (by kernel_rfl) (fun _ _ _ h => h) (by rfl) ?_ hSw ?_
            rotate_left 1
            · intro W hW
              try dsimp only at hW
              obtain ⟨⟨o1, of⟩, ⟨a1, b1⟩, x0, x1⟩ := hW
              go_simp
              try with_reducible rfl
            try simp only [Act.put, List.setIfInBounds_toArray, List.set_cons_zero, List.set_cons_succ]
            refine wpAnyU_take (i := 3) (v := ?_) rfl (by kernel_rfl) (by kernel_rfl) (by kernel_rfl) (by kernel_rfl) (fun _ _ _ h => h) (by rfl) ?_ hSw ?_
            rotate_left 1
            · intro W hW
              try dsimp only at hW
              obtain ⟨⟨o1, of⟩, ⟨a1, b1⟩, x0, x1⟩ := hW
              go_simp
              try with_reducible rfl
            try simp only [Act.put, List.setIfInBounds_toArray, List.set_cons_zero, List.set_cons_succ]
            refine wpAnyU_take (i := 4) (v := ?_) rfl (by kernel_rfl) (by kernel_rfl) (by kernel_rfl) (by kernel_rfl) (fun _ _ _ h => h) (by rfl) ?_ hSw ?_
            rotate_left 1
            · intro W hW
              try dsimp only at hW
              obtain ⟨⟨o1, of⟩, ⟨a1, b1⟩, x0, x1⟩ := hW
              go_simp
              try with_reducible rfl
            try simp only [Act.put, List.setIfInBounds_toArray, List.set_cons_zero, List.set_cons_succ]
            refine wpAnyU_take (i := 5) (v := ?_) rfl (by kernel_rfl) (by kernel_rfl) (by kernel_rfl) (by kernel_rfl) (fun _ _ _ h => h) (by rfl) ?_ hSw ?_
            rotate_left 1
            · intro W hW
              try dsimp only at hW
              obtain ⟨⟨o1, of⟩, ⟨a1, b1⟩, x0, x1⟩ := hW
              go_simp
              try with_reducible rfl
            try simp only [Act.put, List.setIfInBounds_toArray, List.set_cons_zero, List.set_cons_succ]
            refine wpAnyU_take (i := 6) (v := ?_) rfl (by kernel_rfl) (by kernel_rfl) (by kernel_rfl) (by kernel_rfl) (fun _ _ _ h => h) (by rfl) ?_ hSw ?_
            rotate_left 1
            · intro W hW
              try dsimp only at hW
              obtain ⟨⟨o1, of⟩, ⟨a1, b1⟩, x0, x1⟩ := hW
              go_simp
              try with_reducible rfl
            try simp only [Act.put, List.setIfInBounds_toArray, List.set_cons_zero, List.set_cons_succ]
            refine wpAnyU_one (i := 7) (by kernel_rfl) rfl (fun K hK => ?_)
            go_simp
            refine hK.out _ _ (fun _ => hSt) ?_
            clear hK K
            try simp only [Act.put, List.setIfInBounds_toArray, List.set_cons_zero, List.set_cons_succ]
            refine wpAnyU_one (i := 8) (by kernel_rfl) rfl (fun K hK => ?_)
            refine step_app1 (E := encExt) tyRules rfl _ _ rfl rfl hO4o.out (ey, cy) [.int .i64 ey, .int .i64 cy] rfl HRD.out (heap_alloc_new _ _) (fun _ h => h.1.2) (by simp; omega) (by unfold maxLen; omega) (by omega) ?_
            intro A6 c6 w6 hown6 hg6 hat6
            have hk6 : Hid (∀ b, b = ob ∨ b < n0 + 2 → w6.heap[b]? = wp.heap[b]?) := fun b hb => (hg6.block b (by have := HAL.out b hb; simp; omega) (fun e => hoown.out b hb e.symm)).trans (Below.heap_alloc wp.drew _ b (HAL.out b hb))
            refine hK.out _ _ (fun _ => HSY.out w6 hk6.out) ?_
            clear hK K
            try simp only [Act.put, List.setIfInBounds_toArray, List.set_cons_zero, List.set_cons_succ]
            obtain ⟨⟨t0, tf⟩, _⟩ := HSY.out w6 hk6.out
            refine wpAnyU_one (i := 9) (by kernel_rfl) rfl (fun K hK => ?_)
            go_simp
            refine hK.out _ _ (fun _ => HSY.out w6 hk6.out) ?_
            clear hK K
            try simp only [Act.put, List.setIfInBounds_toArray, List.set_cons_zero, List.set_cons_succ]
            refine wpAnyU_one (i := 10) (by kernel_rfl) rfl (fun K hK => ?_)
            go_simp
            refine hK.out _ _ (fun h => absurd rfl h) ?_
            clear hK K
            refine wpAnyU_done (by kernel_rfl) ?_ _
            have hro7 : Hid ((w6.setCell ⟨ob, 1, none⟩ (.slice A6 (out.length + 1) c6)).heap[ob]? = some (.cells #[.int .i64 wm, .slice A6 (out.length + 1) c6] 24 (0, 0))) := blk2_1 ((hk6.out ob (Or.inl rfl)).trans HOB.out) (.slice A6 (out.length + 1) c6)
            have hO7 : Hid (OwnX (fun _ => False) encExt (w6.setCell ⟨ob, 1, none⟩ (.slice A6 (out.length + 1) c6)) n6 48 (.slice A6 (out.length + 1) c6) (out ++ [(ey, cy)])) := by
              have h := hO4.out.app hown6 hg6 hat6 (fun b hb => hb.elim)
              refine h.keep (by simp [World.setCell]) (fun g hg _ _ => heap_setCell_other w6 ⟨ob, 1, none⟩ g _ (by show g ≠ ob; omega))
            have hlo := hO4.out.lt
            have hG7 : Hid (W6.grownBy (w6.setCell ⟨ob, 1, none⟩ (.slice A6 (out.length + 1) c6)) (some ob)) := by
              refine grown_setR ⟨hg6.os.trans HG.out.os, hg6.tape.trans HG.out.tape, hg6.output.trans HG.out.output, Nat.le_trans hgz (by have := hg6.size; simp at this; omega), fun k hk hn => ?_⟩ 1 _
              refine (hg6.block k (by simp; omega) (fun e => ?_)).trans ((Below.heap_alloc wp.drew _ k (by show k < wp.heap.size; omega)).trans (HG.out.block k hk hn))
              have := (hlo k e.symm).1
              omega
            have hle7 : (out ++ [(ey, cy)]).length = out.length + 1 := by simp
            have HL7 := Lib.hid hle7
            clear hown6 hg6 hat6 hk6 hlo hle7 t0 tf
            generalize w6.setCell ⟨ob, 1, none⟩ (.slice A6 (out.length + 1) c6) = w7 at hro7 hO7 hG7 ⊢
            go_wp2_with fail
            go_roundw
            case rel =>

              exact ⟨i, k + 1, c6, A6, out ++ [(ey, cy)], by omega, by omega, by go_num, by go_num, by rw [Hid, HL7.out]; have := HLE.out; omega, by rw [Hid, HMR.out]; rw [HXE.out, HYE.out, mergeR_gt (a := (ex, cx)) (b := (ey, cy)) HYX.out]; simp, hG7.out, by rw [Hid, HL7.out]; exact hro7.out, by rw [Hid, HL7.out]; exact hO7.out⟩
            case measure => simp [intOf]; omega
          · have hd2 : decide (ey < ex) = false := decide_eq_false hyx
            have HXYE : Hid (ex = ey) := by rw [Hid]; omega
            obtain ⟨cm, hcm⟩ : ∃ cm, max cx cy = cm := ⟨_, rfl⟩
            have HCM := Lib.hid hcm
            have hicm : I64 cm := by unfold I64 at *; omega
            clear hyx hxy
            go_upto_region 12 with (fail)
            go_quiet (fail)
            generalize hWq : World.drewN wz _ = wq
            obtain ⟨HG, HOB, HO⟩ : Hid (W6.grownBy wq (some ob)) ∧ Hid (wq.heap[ob]? = some (.cells #[.int .i64 wm, .slice D out.length dc] 24 (0, 0))) ∧ Hid (OwnX (fun _ => False) encExt wq n6 48 (.slice D out.length dc) out) := by
              rw [← hWq]
              exact ⟨grown_drewR HG.out _, HOB.out, HO.out.below (bDrew (Below.refl _ _) _)⟩
            have HEQ : Hid (∀ b : Nat, wq.heap[b]? = wz.heap[b]?) := fun b => by rw [← hWq]; rfl
            clear hWq
            replace c1 := (World.cell?_of_block (a := ⟨n0, 1, none⟩) (HEQ.out n0)).trans c1
            replace c3 := (World.cell?_of_block (a := ⟨n0 + 1, 1, none⟩) (HEQ.out (n0 + 1))).trans c3
            replace gx0 := (World.cell?_of_block (a := ⟨bx, ox + i * 2, none⟩) (HEQ.out bx)).trans gx0
            replace gx1 := (World.cell?_of_block (a := ⟨bx, ox + i * 2 + 1, none⟩) (HEQ.out bx)).trans gx1
            replace gy0 := (World.cell?_of_block (a := ⟨by_, oy + k * 2, none⟩) (HEQ.out by_)).trans gy0
            replace gy1 := (World.cell?_of_block (a := ⟨by_, oy + k * 2 + 1, none⟩) (HEQ.out by_)).trans gy1
            clear HEQ
            go_upto_region 15 with (fail)
            go_quiet (fail)
            generalize hWq : World.drewN wq _ = wp
            obtain ⟨HG, HOB, HO⟩ : Hid (W6.grownBy wp (some ob)) ∧ Hid (wp.heap[ob]? = some (.cells #[.int .i64 wm, .slice D out.length dc] 24 (0, 0))) ∧ Hid (OwnX (fun _ => False) encExt wp n6 48 (.slice D out.length dc) out) := by
              rw [← hWq]
              exact ⟨grown_drewR HG.out _, HOB.out, HO.out.below (bDrew (Below.refl _ _) _)⟩
            have HEQ : Hid (∀ b : Nat, wp.heap[b]? = wq.heap[b]?) := fun b => by rw [← hWq]; rfl
            clear hWq
            replace c1 := (World.cell?_of_block (a := ⟨n0, 1, none⟩) (HEQ.out n0)).trans c1
            replace c3 := (World.cell?_of_block (a := ⟨n0 + 1, 1, none⟩) (HEQ.out (n0 + 1))).trans c3
            replace gx0 := (World.cell?_of_block (a := ⟨bx, ox + i * 2, none⟩) (HEQ.out bx)).trans gx0
            replace gx1 := (World.cell?_of_block (a := ⟨bx, ox + i * 2 + 1, none⟩) (HEQ.out bx)).trans gx1
            replace gy0 := (World.cell?_of_block (a := ⟨by_, oy + k * 2, none⟩) (HEQ.out by_)).trans gy0
            replace gy1 := (World.cell?_of_block (a := ⟨by_, oy + k * 2 + 1, none⟩) (HEQ.out by_)).trans gy1
            clear HEQ
            go_upto_region 10 with (fail)
            have hO4 := Lib.hid ((HO.out.below (Below.refl wp.heap.size wp).drew).alloc (.cells #[.int .i64 ex, .int .i64 cm] 48))
            have hO4o := Lib.hid hO4.out.1
            have HRD : Hid (encExt.rd (wp.drew.alloc (.cells #[.int .i64 ex, .int .i64 cm] 48)) (fun b => Nw n6 (wp.drew.alloc (.cells #[.int .i64 ex, .int .i64 cm] 48)).heap.size b ∧ ¬ (fun _ => False) b ∧ (Value.slice D out.length dc).ownBlock ≠ some b) [.int .i64 ex, .int .i64 cm] (ex, cm)) := ext_mk (x := (ex, cm)) ix0 hicm
            have hol : out.length ≤ 16 := by have := HLE.out; omega
            have hgz := HG.out.size
            have hal : ∀ b, b = ob ∨ b < n0 + 2 → b < wp.heap.size := fun b hb => by omega
            have HAL := Lib.hid hal
            have hoown : Hid (∀ b, b = ob ∨ b < n0 + 2 → (Value.slice D out.length dc).ownBlock ≠ some b) := fun b hb h => by have := (HO.out.lt b h).1; omega
            have HSY : Hid (∀ W : World, (∀ b, b = ob ∨ b < n0 + 2 → W.heap[b]? = wp.heap[b]?) → (W.cell? ⟨ob, 1, none⟩ = some (.slice D out.length dc) ∧ W.frozen? ⟨ob, 1, none⟩ = false) ∧ (W.cell? ⟨n0, 1, none⟩ = some (.slice (some ⟨bx, ox, none⟩) la.length ca) ∧ W.cell? ⟨n0 + 1, 1, none⟩ = some (.slice (some ⟨by_, oy, none⟩) lb.length cb)) ∧ W.cell? ⟨bx, ox + i * 2, none⟩ = some (.int .i64 ex) ∧ W.cell? ⟨bx, ox + i * 2 + 1, none⟩ = some (.int .i64 cx) ∧ W.cell? ⟨by_, oy + k * 2, none⟩ = some (.int .i64 ey) ∧ W.cell? ⟨by_, oy + k * 2 + 1, none⟩ = some (.int .i64 cy)) := fun W hb => by
              obtain ⟨_, q1, qf⟩ := blk2 ((hb ob (Or.inl rfl)).trans HOB.out)
              exact ⟨⟨q1, qf 1⟩, ⟨(World.cell?_of_block (a := ⟨n0, 1, none⟩) (hb n0 (Or.inr (by omega)))).trans c1, (World.cell?_of_block (a := ⟨n0 + 1, 1, none⟩) (hb (n0 + 1) (Or.inr (by omega)))).trans c3⟩, (World.cell?_of_block (a := ⟨bx, ox + i * 2, none⟩) (hb bx (Or.inr (by omega)))).trans gx0, (World.cell?_of_block (a := ⟨bx, ox + i * 2 + 1, none⟩) (hb bx (Or.inr (by omega)))).trans gx1, (World.cell?_of_block (a := ⟨by_, oy + k * 2, none⟩) (hb by_ (Or.inr (by omega)))).trans gy0, (World.cell?_of_block (a := ⟨by_, oy + k * 2 + 1, none⟩) (hb by_ (Or.inr (by omega)))).trans gy1⟩
            have hSw := HSY.out wp.drew (fun _ _ => rfl)
            have hSt := HSY.out (wp.drew.alloc (.cells #[.int .i64 ex, .int .i64 cm] 48)) (fun b hb => Below.heap_alloc wp.drew _ b (HAL.out b hb))
            clear hal
            refine wp_region_U (fun W => ((W.cell? ⟨ob, 1, none⟩ = some (.slice D out.length dc) ∧ W.frozen? ⟨ob, 1, none⟩ = false) ∧ (W.cell? ⟨n0, 1, none⟩ = some (.slice (some ⟨bx, ox, none⟩) la.length ca) ∧ W.cell? ⟨n0 + 1, 1, none⟩ = some (.slice (some ⟨by_, oy, none⟩) lb.length cb)) ∧ W.cell? ⟨bx, ox + i * 2, none⟩ = some (.int .i64 ex) ∧ W.cell? ⟨bx, ox + i * 2 + 1, none⟩ = some (.int .i64 cx) ∧ W.cell? ⟨by_, oy + k * 2, none⟩ = some (.int .i64 ey) ∧ W.cell? ⟨by_, oy + k * 2 + 1, none⟩ = some (.int .i64 cy))) 25 (by kernel_rfl) ?_
            refine wpAnyU_take (i := 0) (v := ?_) rfl (by kernel_rfl) (by kernel_rfl) (by kernel_rfl) (by kernel_rfl) (fun _ _ _ h => h) (by rfl) ?_ hSw ?_
            rotate_left 1
            · intro W hW
              try dsimp only at hW
              obtain ⟨⟨o1, of⟩, ⟨a1, b1⟩, x0, x1, y0, y1⟩ := hW
              go_simp
              try with_reducible rfl
            try simp only [Act.put, List.setIfInBounds_toArray, List.set_cons_zero, List.set_cons_succ]
            refine wpAnyU_take (i := 1) (v := ?_) rfl (by kernel_rfl) (by kernel_rfl) (by kernel_rfl) (by kernel_rfl) (fun _ _ _ h => h) (by rfl) ?_ hSw ?_
            rotate_left 1
            · intro W hW
              try dsimp only at hW
              obtain ⟨⟨o1, of⟩, ⟨a1, b1⟩, x0, x1, y0, y1⟩ := hW
              go_simp
              try with_reducible rfl
            try simp only [Act.put, List.setIfInBounds_toArray, List.set_cons_zero, List.set_cons_succ]
            refine wpAnyU_take (i := 2) (v := ?_) rfl (by kernel_rfl) (by kernel_rfl) (by kernel_rfl) (by kernel_rfl) (fun _ _ _ h => h) (by rfl) ?_ hSw ?_
            rotate_left 1
            · intro W hW
              try dsimp only at hW
              obtain ⟨⟨o1, of⟩, ⟨a1, b1⟩, x0, x1, y0, y1⟩ := hW
              go_simp
              try with_reducible rfl
            try simp only [Act.put, List.setIfInBounds_toArray, List.set_cons_zero, List.set_cons_succ]
            refine wpAnyU_take (i := 3) (v := ?_) rfl (by kernel_rfl) (by kernel_rfl) (by kernel_rfl) (by kernel_rfl) (fun _ _ _ h => h) (by rfl) ?_ hSw ?_
            rotate_left 1
            · intro W hW
              try dsimp only at hW
              obtain ⟨⟨o1, of⟩, ⟨a1, b1⟩, x0, x1, y0, y1⟩ := hW
              go_simp
              try with_reducible rfl
            try simp only [Act.put, List.setIfInBounds_toArray, List.set_cons_zero, List.set_cons_succ]
            refine wpAnyU_take (i := 4) (v := ?_) rfl (by kernel_rfl) (by kernel_rfl) (by kernel_rfl) (by kernel_rfl) (fun _ _ _ h => h) (by rfl) ?_ hSw ?_
            rotate_left 1
            · intro W hW
              try dsimp only at hW
              obtain ⟨⟨o1, of⟩, ⟨a1, b1⟩, x0, x1, y0, y1⟩ := hW
              go_simp
              try with_reducible rfl
            try simp only [Act.put, List.setIfInBounds_toArray, List.set_cons_zero, List.set_cons_succ]
            refine wpAnyU_take (i := 5) (v := ?_) rfl (by kernel_rfl) (by kernel_rfl) (by kernel_rfl) (by kernel_rfl) (fun _ _ _ h => h) (by rfl) ?_ hSw ?_
            rotate_left 1
            · intro W hW
              try dsimp only at hW
              obtain ⟨⟨o1, of⟩, ⟨a1, b1⟩, x0, x1, y0, y1⟩ := hW
              go_simp
              try with_reducible rfl
            try simp only [Act.put, List.setIfInBounds_toArray, List.set_cons_zero, List.set_cons_succ]
            refine wpAnyU_take (i := 6) (v := ?_) rfl (by kernel_rfl) (by kernel_rfl) (by kernel_rfl) (by kernel_rfl) (fun _ _ _ h => h) (by rfl) ?_ hSw ?_
            rotate_left 1
            · intro W hW
              try dsimp only at hW
              obtain ⟨⟨o1, of⟩, ⟨a1, b1⟩, x0, x1, y0, y1⟩ := hW
              go_simp
              try with_reducible rfl
            try simp only [Act.put, List.setIfInBounds_toArray, List.set_cons_zero, List.set_cons_succ]
            refine wpAnyU_take (i := 7) (v := ?_) rfl (by kernel_rfl) (by kernel_rfl) (by kernel_rfl) (by kernel_rfl) (fun _ _ _ h => h) (by rfl) ?_ hSw ?_
            rotate_left 1
            · intro W hW
              try dsimp only at hW
              obtain ⟨⟨o1, of⟩, ⟨a1, b1⟩, x0, x1, y0, y1⟩ := hW
              go_simp
              try with_reducible rfl
            try simp only [Act.put, List.setIfInBounds_toArray, List.set_cons_zero, List.set_cons_succ]
            refine wpAnyU_take (i := 8) (v := ?_) rfl (by kernel_rfl) (by kernel_rfl) (by kernel_rfl) (by kernel_rfl) (fun _ _ _ h => h) (by rfl) ?_ hSw ?_
            rotate_left 1
            · intro W hW
              try dsimp only at hW
              obtain ⟨⟨o1, of⟩, ⟨a1, b1⟩, x0, x1, y0, y1⟩ := hW
              go_simp
              try with_reducible rfl
            try simp only [Act.put, List.setIfInBounds_toArray, List.set_cons_zero, List.set_cons_succ]
            refine wpAnyU_take (i := 9) (v := ?_) rfl (by kernel_rfl) (by kernel_rfl) (by kernel_rfl) (by kernel_rfl) (fun _ _ _ h => h) (by rfl) ?_ hSw ?_
            rotate_left 1
            · intro W hW
              try dsimp only at hW
              obtain ⟨⟨o1, of⟩, ⟨a1, b1⟩, x0, x1, y0, y1⟩ := hW
              go_simp
              try with_reducible rfl
            try simp only [Act.put, List.setIfInBounds_toArray, List.set_cons_zero, List.set_cons_succ]
            refine wpAnyU_take (i := 10) (v := ?_) rfl (by kernel_rfl) (by kernel_rfl) (by kernel_rfl) (by kernel_rfl) (fun _ _ _ h => h) (by rfl) ?_ hSw ?_
            rotate_left 1
            · intro W hW
              try dsimp only at hW
              obtain ⟨⟨o1, of⟩, ⟨a1, b1⟩, x0, x1, y0, y1⟩ := hW
              go_simp
              try with_reducible rfl
            try simp only [Act.put, List.setIfInBounds_toArray, List.set_cons_zero, List.set_cons_succ]
            refine wpAnyU_take (i := 11) (v := ?_) rfl (by kernel_rfl) (by kernel_rfl) (by kernel_rfl) (by kernel_rfl) (fun _ _ _ h => h) (by rfl) ?_ hSw ?_
            rotate_left 1
            · intro W hW
              try dsimp only at hW
              obtain ⟨⟨o1, of⟩, ⟨a1, b1⟩, x0, x1, y0, y1⟩ := hW
              go_simp
              try with_reducible rfl
            try simp only [Act.put, List.setIfInBounds_toArray, List.set_cons_zero, List.set_cons_succ]
            refine wpAnyU_take (i := 12) (v := ?_) rfl (by kernel_rfl) (by kernel_rfl) (by kernel_rfl) (by kernel_rfl) (fun _ _ _ h => h) (by rfl) ?_ hSw ?_
            rotate_left 1
            · intro W hW
              try dsimp only at hW
              obtain ⟨⟨o1, of⟩, ⟨a1, b1⟩, x0, x1, y0, y1⟩ := hW
              go_simp
              try with_reducible rfl
            try simp only [Act.put, List.setIfInBounds_toArray, List.set_cons_zero, List.set_cons_succ]
            refine wpAnyU_take (i := 13) (v := ?_) rfl (by kernel_rfl) (by kernel_rfl) (by kernel_rfl) (by kernel_rfl) (fun _ _ _ h => h) (by rfl) ?_ hSw ?_
            rotate_left 1
            · intro W hW
              try dsimp only at hW
              obtain ⟨⟨o1, of⟩, ⟨a1, b1⟩, x0, x1, y0, y1⟩ := hW
              go_simp
              try with_reducible rfl
            try simp only [Act.put, List.setIfInBounds_toArray, List.set_cons_zero, List.set_cons_succ]
            refine wpAnyU_take (i := 14) (v := ?_) rfl (by kernel_rfl) (by kernel_rfl) (by kernel_rfl) (by kernel_rfl) (fun _ _ _ h => h) (by rfl) ?_ hSw ?_
            rotate_left 1
            · intro W hW
              try dsimp only at hW
              obtain ⟨⟨o1, of⟩, ⟨a1, b1⟩, x0, x1, y0, y1⟩ := hW
              go_simp
              try with_reducible rfl
            try simp only [Act.put, List.setIfInBounds_toArray, List.set_cons_zero, List.set_cons_succ]
            refine wpAnyU_take (i := 15) (v := ?_) rfl (by kernel_rfl) (by kernel_rfl) (by kernel_rfl) (by kernel_rfl) (fun _ _ _ h => h) (by rfl) ?_ hSw ?_
            rotate_left 1
            · intro W hW
              try dsimp only at hW
              obtain ⟨⟨o1, of⟩, ⟨a1, b1⟩, x0, x1, y0, y1⟩ := hW
              go_simp
              try with_reducible rfl
            try simp only [Act.put, List.setIfInBounds_toArray, List.set_cons_zero, List.set_cons_succ]
            refine wpAnyU_take (i := 16) (v := ?_) rfl (by kernel_rfl) (by kernel_rfl) (by kernel_rfl) (by kernel_rfl) (fun _ _ _ h => h) (by rfl) ?_ hSw ?_
            rotate_left 1
            · intro W hW
              try dsimp only at hW
              obtain ⟨⟨o1, of⟩, ⟨a1, b1⟩, x0, x1, y0, y1⟩ := hW
              go_simp
              try with_reducible rfl
            try simp only [Act.put, List.setIfInBounds_toArray, List.set_cons_zero, List.set_cons_succ]
            refine wpAnyU_take (i := 17) (v := ?_) rfl (by kernel_rfl) (by kernel_rfl) (by kernel_rfl) (by kernel_rfl) (fun _ _ _ h => h) (by rfl) ?_ hSw ?_
            rotate_left 1
            · intro W hW
              try dsimp only at hW
              obtain ⟨⟨o1, of⟩, ⟨a1, b1⟩, x0, x1, y0, y1⟩ := hW
              go_simp
              try with_reducible rfl
            try simp only [Act.put, List.setIfInBounds_toArray, List.set_cons_zero, List.set_cons_succ]
            refine wpAnyU_take (i := 18) (v := ?_) rfl (by kernel_rfl) (by kernel_rfl) (by kernel_rfl) (by kernel_rfl) (fun _ _ _ h => h) (by rfl) ?_ hSw ?_
            rotate_left 1
            · intro W hW
              try dsimp only at hW
              obtain ⟨⟨o1, of⟩, ⟨a1, b1⟩, x0, x1, y0, y1⟩ := hW
              go_simp
              try with_reducible rfl
            try simp only [Act.put, List.setIfInBounds_toArray, List.set_cons_zero, List.set_cons_succ]
            refine wpAnyU_take (i := 19) (v := ?_) rfl (by kernel_rfl) (by kernel_rfl) (by kernel_rfl) (by kernel_rfl) (fun _ _ _ h => h) (by rfl) ?_ hSw ?_
            rotate_left 1
            · intro W hW
              try dsimp only at hW
              obtain ⟨⟨o1, of⟩, ⟨a1, b1⟩, x0, x1, y0, y1⟩ := hW
              go_simp
              try with_reducible rfl
            try simp only [Act.put, List.setIfInBounds_toArray, List.set_cons_zero, List.set_cons_succ]
            refine wpAnyU_take (i := 20) (v := ?_) rfl (by kernel_rfl) (by kernel_rfl) (by kernel_rfl) (by kernel_rfl) (fun _ _ _ h => h) (by rfl) ?_ hSw ?_
            rotate_left 1
            · intro W hW
              try dsimp only at hW
              obtain ⟨⟨o1, of⟩, ⟨a1, b1⟩, x0, x1, y0, y1⟩ := hW
              go_simp
              try with_reducible rfl
            try simp only [Act.put, List.setIfInBounds_toArray, List.set_cons_zero, List.set_cons_succ]
            refine wpAnyU_take (i := 21) (v := ?_) rfl (by kernel_rfl) (by kernel_rfl) (by kernel_rfl) (by kernel_rfl) (fun _ _ _ h => h) (by rfl) ?_ hSw ?_
            rotate_left 1
            · intro W hW
              try dsimp only at hW
              obtain ⟨⟨o1, of⟩, ⟨a1, b1⟩, x0, x1, y0, y1⟩ := hW
              go_simp
              try with_reducible rfl
            try simp only [Act.put, List.setIfInBounds_toArray, List.set_cons_zero, List.set_cons_succ]
            refine wpAnyU_one (i := 22) (by kernel_rfl) rfl (fun K hK => ?_)
            go_simp
            refine hK.out _ _ (fun _ => hSt) ?_
            clear hK K
            try simp only [Act.put, List.setIfInBounds_toArray, List.set_cons_zero, List.set_cons_succ]
            refine wpAnyU_one (i := 23) (by kernel_rfl) rfl (fun K hK => ?_)
            refine step_app1 (E := encExt) tyRules rfl _ _ rfl rfl hO4o.out (ex, cm) [.int .i64 ex, .int .i64 cm] rfl HRD.out (heap_alloc_new _ _) (fun _ h => h.1.2) (by simp; omega) (by unfold maxLen; omega) (by omega) ?_
            intro A6 c6 w6 hown6 hg6 hat6
            have hk6 : Hid (∀ b, b = ob ∨ b < n0 + 2 → w6.heap[b]? = wp.heap[b]?) := fun b hb => (hg6.block b (by have := HAL.out b hb; simp; omega) (fun e => hoown.out b hb e.symm)).trans (Below.heap_alloc wp.drew _ b (HAL.out b hb))
            refine hK.out _ _ (fun _ => HSY.out w6 hk6.out) ?_
            clear hK K
            try simp only [Act.put, List.setIfInBounds_toArray, List.set_cons_zero, List.set_cons_succ]
            obtain ⟨⟨t0, tf⟩, _⟩ := HSY.out w6 hk6.out
            refine wpAnyU_one (i := 24) (by kernel_rfl) rfl (fun K hK => ?_)
            go_simp
            refine hK.out _ _ (fun _ => HSY.out w6 hk6.out) ?_
            clear hK K
            try simp only [Act.put, List.setIfInBounds_toArray, List.set_cons_zero, List.set_cons_succ]
            refine wpAnyU_one (i := 25) (by kernel_rfl) rfl (fun K hK => ?_)
            go_simp
            refine hK.out _ _ (fun h => absurd rfl h) ?_
            clear hK K
            refine wpAnyU_done (by kernel_rfl) ?_ _
            have hro7 : Hid ((w6.setCell ⟨ob, 1, none⟩ (.slice A6 (out.length + 1) c6)).heap[ob]? = some (.cells #[.int .i64 wm, .slice A6 (out.length + 1) c6] 24 (0, 0))) := blk2_1 ((hk6.out ob (Or.inl rfl)).trans HOB.out) (.slice A6 (out.length + 1) c6)
            have hO7 : Hid (OwnX (fun _ => False) encExt (w6.setCell ⟨ob, 1, none⟩ (.slice A6 (out.length + 1) c6)) n6 48 (.slice A6 (out.length + 1) c6) (out ++ [(ex, cm)])) := by
              have h := hO4.out.app hown6 hg6 hat6 (fun b hb => hb.elim)
              refine h.keep (by simp [World.setCell]) (fun g hg _ _ => heap_setCell_other w6 ⟨ob, 1, none⟩ g _ (by show g ≠ ob; omega))
            have hlo := hO4.out.lt
            have hG7 : Hid (W6.grownBy (w6.setCell ⟨ob, 1, none⟩ (.slice A6 (out.length + 1) c6)) (some ob)) := by
              refine grown_setR ⟨hg6.os.trans HG.out.os, hg6.tape.trans HG.out.tape, hg6.output.trans HG.out.output, Nat.le_trans hgz (by have := hg6.size; simp at this; omega), fun k hk hn => ?_⟩ 1 _
              refine (hg6.block k (by simp; omega) (fun e => ?_)).trans ((Below.heap_alloc wp.drew _ k (by show k < wp.heap.size; omega)).trans (HG.out.block k hk hn))
              have := (hlo k e.symm).1
              omega
            have hle7 : (out ++ [(ex, cm)]).length = out.length + 1 := by simp
            have HL7 := Lib.hid hle7
            clear hown6 hg6 hat6 hk6 hlo hle7 t0 tf
            generalize w6.setCell ⟨ob, 1, none⟩ (.slice A6 (out.length + 1) c6) = w7 at hro7 hO7 hG7 ⊢
            go_wp2_with fail
            go_roundw
            case rel =>

              exact ⟨i + 1, k + 1, c6, A6, out ++ [(ex, cm)], by omega, by omega, by go_num, by go_num, by rw [Hid, HL7.out]; have := HLE.out; omega, by rw [Hid, HMR.out]; rw [HXE.out, HYE.out, mergeR_eq (a := (ex, cx)) (b := (ey, cy)) HXYE.out]; show out ++ (ex, max cx cy) :: mergeR (la.drop (i + 1)) (lb.drop (k + 1)) = _; rw [HCM.out]; simp, hG7.out, by rw [Hid, HL7.out]; exact hro7.out, by rw [Hid, HL7.out]; exact hO7.out⟩
            case measure => simp [intOf]; omega
      · have hkE : ((k : Int) == (lb.length : Int)) = true := by rw [beq_iff_eq]; omega
        have hkn : lb.length ≤ k := by omega
        go_upto_region 12 with (fail)
        go_quiet (fail)
        generalize hWq : World.drewN wz _ = wq
        obtain ⟨HG, HOB, HO⟩ : Hid (W6.grownBy wq (some ob)) ∧ Hid (wq.heap[ob]? = some (.cells #[.int .i64 wm, .slice D out.length dc] 24 (0, 0))) ∧ Hid (OwnX (fun _ => False) encExt wq n6 48 (.slice D out.length dc) out) := by
          rw [← hWq]
          exact ⟨grown_drewR HG.out _, HOB.out, HO.out.below (bDrew (Below.refl _ _) _)⟩
        have HEQ : Hid (∀ b : Nat, wq.heap[b]? = wz.heap[b]?) := fun b => by rw [← hWq]; rfl
        clear hWq
        replace c1 := (World.cell?_of_block (a := ⟨n0, 1, none⟩) (HEQ.out n0)).trans c1
        replace c3 := (World.cell?_of_block (a := ⟨n0 + 1, 1, none⟩) (HEQ.out (n0 + 1))).trans c3
        replace gx0 := (World.cell?_of_block (a := ⟨bx, ox + i * 2, none⟩) (HEQ.out bx)).trans gx0
        replace gx1 := (World.cell?_of_block (a := ⟨bx, ox + i * 2 + 1, none⟩) (HEQ.out bx)).trans gx1
        clear HEQ
        go_upto_region 13 with (fail)
        have hO4 := Lib.hid ((HO.out.below (Below.refl wq.heap.size wq).drew).alloc (.cells #[.int .i64 ex, .int .i64 cx] 48))
        have hO4o := Lib.hid hO4.out.1
        have HRD : Hid (encExt.rd (wq.drew.alloc (.cells #[.int .i64 ex, .int .i64 cx] 48)) (fun b => Nw n6 (wq.drew.alloc (.cells #[.int .i64 ex, .int .i64 cx] 48)).heap.size b ∧ ¬ (fun _ => False) b ∧ (Value.slice D out.length dc).ownBlock ≠ some b) [.int .i64 ex, .int .i64 cx] (ex, cx)) := ext_mk (x := (ex, cx)) ix0 ix1
        have hol : out.length ≤ 16 := by have := HLE.out; omega
        have hgz := HG.out.size
        have hal : ∀ b, b = ob ∨ b < n0 + 2 → b < wq.heap.size := fun b hb => by omega
        have HAL := Lib.hid hal
        have hoown : Hid (∀ b, b = ob ∨ b < n0 + 2 → (Value.slice D out.length dc).ownBlock ≠ some b) := fun b hb h => by have := (HO.out.lt b h).1; omega
        have HSY : Hid (∀ W : World, (∀ b, b = ob ∨ b < n0 + 2 → W.heap[b]? = wq.heap[b]?) → (W.cell? ⟨ob, 1, none⟩ = some (.slice D out.length dc) ∧ W.frozen? ⟨ob, 1, none⟩ = false) ∧ (W.cell? ⟨n0, 1, none⟩ = some (.slice (some ⟨bx, ox, none⟩) la.length ca) ∧ W.cell? ⟨n0 + 1, 1, none⟩ = some (.slice B lb.length cb)) ∧ W.cell? ⟨bx, ox + i * 2, none⟩ = some (.int .i64 ex) ∧ W.cell? ⟨bx, ox + i * 2 + 1, none⟩ = some (.int .i64 cx)) := fun W hb => by
          obtain ⟨_, q1, qf⟩ := blk2 ((hb ob (Or.inl rfl)).trans HOB.out)
          exact ⟨⟨q1, qf 1⟩, ⟨(World.cell?_of_block (a := ⟨n0, 1, none⟩) (hb n0 (Or.inr (by omega)))).trans c1, (World.cell?_of_block (a := ⟨n0 + 1, 1, none⟩) (hb (n0 + 1) (Or.inr (by omega)))).trans c3⟩, (World.cell?_of_block (a := ⟨bx, ox + i * 2, none⟩) (hb bx (Or.inr (by omega)))).trans gx0, (World.cell?_of_block (a := ⟨bx, ox + i * 2 + 1, none⟩) (hb bx (Or.inr (by omega)))).trans gx1⟩
        have hSw := HSY.out wq.drew (fun _ _ => rfl)
        have hSt := HSY.out (wq.drew.alloc (.cells #[.int .i64 ex, .int .i64 cx] 48)) (fun b hb => Below.heap_alloc wq.drew _ b (HAL.out b hb))
        clear hal
        refine wp_region_U (fun W => ((W.cell? ⟨ob, 1, none⟩ = some (.slice D out.length dc) ∧ W.frozen? ⟨ob, 1, none⟩ = false) ∧ (W.cell? ⟨n0, 1, none⟩ = some (.slice (some ⟨bx, ox, none⟩) la.length ca) ∧ W.cell? ⟨n0 + 1, 1, none⟩ = some (.slice B lb.length cb)) ∧ W.cell? ⟨bx, ox + i * 2, none⟩ = some (.int .i64 ex) ∧ W.cell? ⟨bx, ox + i * 2 + 1, none⟩ = some (.int .i64 cx))) 10 (by kernel_rfl) ?_
        refine wpAnyU_take (i := 0) (v := ?_) rfl (by kernel_rfl) (by kernel_rfl) (by kernel_rfl) (by kernel_rfl) (fun _ _ _ h => h) (by rfl) ?_ hSw ?_
        rotate_left 1
        · intro W hW
          try dsimp only at hW
          obtain ⟨⟨o1, of⟩, ⟨a1, b1⟩, x0, x1⟩ := hW
          go_simp
          try with_reducible rfl
        try simp only [Act.put, List.setIfInBounds_toArray, List.set_cons_zero, List.set_cons_succ]
        refine wpAnyU_take (i := 1) (v := ?_) rfl (by kernel_rfl) (by kernel_rfl) (by kernel_rfl) (by kernel_rfl) (fun _ _ _ h => h) (by rfl) ?_ hSw ?_
        rotate_left 1
        · intro W hW
          try dsimp only at hW
          obtain ⟨⟨o1, of⟩, ⟨a1, b1⟩, x0, x1⟩ := hW
          go_simp
          try with_reducible rfl
        try simp only [Act.put, List.setIfInBounds_toArray, List.set_cons_zero, List.set_cons_succ]
        refine wpAnyU_take (i := 2) (v := ?_) rfl (by kernel_rfl) (by kernel_rfl) (by kernel_rfl) (by kernel_rfl) (fun _ _ _ h => h) (by rfl) ?_ hSw ?_
        rotate_left 1
        · intro W hW
          try dsimp only at hW
          obtain ⟨⟨o1, of⟩, ⟨a1, b1⟩, x0, x1⟩ := hW
          go_simp
          try with_reducible rfl
        try simp only [Act.put, List.setIfInBounds_toArray, List.set_cons_zero, List.set_cons_succ]
        refine wpAnyU_take (i := 3) (v := ?_) rfl (by kernel_rfl) (by kernel_rfl) (by kernel_rfl) (by kernel_rfl) (fun _ _ _ h => h) (by rfl) ?_ hSw ?_
        rotate_left 1
        · intro W hW
          try dsimp only at hW
          obtain ⟨⟨o1, of⟩, ⟨a1, b1⟩, x0, x1⟩ := hW
          go_simp
          try with_reducible rfl
        try simp only [Act.put, List.setIfInBounds_toArray, List.set_cons_zero, List.set_cons_succ]
        refine wpAnyU_take (i := 4) (v := ?_) rfl (by kernel_rfl) (by kernel_rfl) (by kernel_rfl) (by kernel_rfl) (fun _ _ _ h => h) (by rfl) ?_ hSw ?_
        rotate_left 1
        · intro W hW
          try dsimp only at hW
          obtain ⟨⟨o1, of⟩, ⟨a1, b1⟩, x0, x1⟩ := hW
          go_simp
          try with_reducible rfl
        try simp only [Act.put, List.setIfInBounds_toArray, List.set_cons_zero, List.set_cons_succ]
        refine wpAnyU_take (i := 5) (v := ?_) rfl (by kernel_rfl) (by kernel_rfl) (by kernel_rfl) (by kernel_rfl) (fun _ _ _ h => h) (by rfl) ?_ hSw ?_
        rotate_left 1
        · intro W hW
          try dsimp only at hW
          obtain ⟨⟨o1, of⟩, ⟨a1, b1⟩, x0, x1⟩ := hW
          go_simp
          try with_reducible rfl
        try simp only [Act.put, List.setIfInBounds_toArray, List.set_cons_zero, List.set_cons_succ]
        refine wpAnyU_take (i := 6) (v := ?_) rfl (by kernel_rfl) (by kernel_rfl) (by kernel_rfl) (by kernel_rfl) (fun _ _ _ h => h) (by rfl) ?_ hSw ?_
        rotate_left 1
        · intro W hW
          try dsimp only at hW
          obtain ⟨⟨o1, of⟩, ⟨a1, b1⟩, x0, x1⟩ := hW
          go_simp
          try with_reducible rfl
        try simp only [Act.put, List.setIfInBounds_toArray, List.set_cons_zero, List.set_cons_succ]
        refine wpAnyU_one (i := 7) (by kernel_rfl) rfl (fun K hK => ?_)
        go_simp
        refine hK.out _ _ (fun _ => hSt) ?_
        clear hK K
        try simp only [Act.put, List.setIfInBounds_toArray, List.set_cons_zero, List.set_cons_succ]
        refine wpAnyU_one (i := 8) (by kernel_rfl) rfl (fun K hK => ?_)
        refine step_app1 (E := encExt) tyRules rfl _ _ rfl rfl hO4o.out (ex, cx) [.int .i64 ex, .int .i64 cx] rfl HRD.out (heap_alloc_new _ _) (fun _ h => h.1.2) (by simp; omega) (by unfold maxLen; omega) (by omega) ?_
        intro A6 c6 w6 hown6 hg6 hat6
        have hk6 : Hid (∀ b, b = ob ∨ b < n0 + 2 → w6.heap[b]? = wq.heap[b]?) := fun b hb => (hg6.block b (by have := HAL.out b hb; simp; omega) (fun e => hoown.out b hb e.symm)).trans (Below.heap_alloc wq.drew _ b (HAL.out b hb))
        refine hK.out _ _ (fun _ => HSY.out w6 hk6.out) ?_
        clear hK K
        try simp only [Act.put, List.setIfInBounds_toArray, List.set_cons_zero, List.set_cons_succ]
        obtain ⟨⟨t0, tf⟩, _⟩ := HSY.out w6 hk6.out
        refine wpAnyU_one (i := 9) (by kernel_rfl) rfl (fun K hK => ?_)
        go_simp
        refine hK.out _ _ (fun _ => HSY.out w6 hk6.out) ?_
        clear hK K
        try simp only [Act.put, List.setIfInBounds_toArray, List.set_cons_zero, List.set_cons_succ]
        refine wpAnyU_one (i := 10) (by kernel_rfl) rfl (fun K hK => ?_)
        go_simp
        refine hK.out _ _ (fun h => absurd rfl h) ?_
        clear hK K
        refine wpAnyU_done (by kernel_rfl) ?_ _
        have hro7 : Hid ((w6.setCell ⟨ob, 1, none⟩ (.slice A6 (out.length + 1) c6)).heap[ob]? = some (.cells #[.int .i64 wm, .slice A6 (out.length + 1) c6] 24 (0, 0))) := blk2_1 ((hk6.out ob (Or.inl rfl)).trans HOB.out) (.slice A6 (out.length + 1) c6)
        have hO7 : Hid (OwnX (fun _ => False) encExt (w6.setCell ⟨ob, 1, none⟩ (.slice A6 (out.length + 1) c6)) n6 48 (.slice A6 (out.length + 1) c6) (out ++ [(ex, cx)])) := by
          have h := hO4.out.app hown6 hg6 hat6 (fun b hb => hb.elim)
          refine h.keep (by simp [World.setCell]) (fun g hg _ _ => heap_setCell_other w6 ⟨ob, 1, none⟩ g _ (by show g ≠ ob; omega))
        have hlo := hO4.out.lt
        have hG7 : Hid (W6.grownBy (w6.setCell ⟨ob, 1, none⟩ (.slice A6 (out.length + 1) c6)) (some ob)) := by
          refine grown_setR ⟨hg6.os.trans HG.out.os, hg6.tape.trans HG.out.tape, hg6.output.trans HG.out.output, Nat.le_trans hgz (by have := hg6.size; simp at this; omega), fun k hk hn => ?_⟩ 1 _
          refine (hg6.block k (by simp; omega) (fun e => ?_)).trans ((Below.heap_alloc wq.drew _ k (by show k < wq.heap.size; omega)).trans (HG.out.block k hk hn))
          have := (hlo k e.symm).1
          omega
        have hle7 : (out ++ [(ex, cx)]).length = out.length + 1 := by simp
        have HL7 := Lib.hid hle7
        clear hown6 hg6 hat6 hk6 hlo hle7 t0 tf
        generalize w6.setCell ⟨ob, 1, none⟩ (.slice A6 (out.length + 1) c6) = w7 at hro7 hO7 hG7 ⊢
        go_wp2_with fail
        go_roundw
        case rel =>

          exact ⟨i + 1, k, c6, A6, out ++ [(ex, cx)], by omega, by omega, by go_num, by go_num, by rw [Hid, HL7.out]; have := HLE.out; omega, by rw [Hid, HMR.out]; rw [HXE.out, List.drop_eq_nil_of_le (show lb.length ≤ k by omega), mergeR_nil, mergeR_nil]; simp, hG7.out, by rw [Hid, HL7.out]; exact hro7.out, by rw [Hid, HL7.out]; exact hO7.out⟩
        case measure => simp [intOf]; omega
    · by_cases hk' : k < lb.length
      · obtain ⟨by_, oy, hBe, hby, gy0, gy1, iy0, iy1⟩ := (H2.out wz hBwz).ext hk'
        obtain ⟨y, hy⟩ : ∃ y, lb[k] = y := ⟨_, rfl⟩
        rw [hy] at gy0 gy1 iy0 iy1
        obtain ⟨ey, cy⟩ := y
        simp only at gy0 gy1 iy0 iy1
        have hby' : by_ < n0 := hby
        have HYE : Hid (lb.drop k = (ey, cy) :: lb.drop (k + 1)) := by rw [Hid, List.drop_eq_getElem_cons hk', hy]
        have hkI : (k : Int) < lb.length := by omega
        have hk0 : (0 : Int) ≤ k := by omega
        have hkE : ((k : Int) == (lb.length : Int)) = false := by simp; omega
        clear hy hby
        subst hBe
        have hiI : ¬ (i : Int) < la.length := by omega
        have hiE : ((i : Int) == (la.length : Int)) = true := by rw [beq_iff_eq]; omega
        have hiId : decide ((i : Int) < la.length) = false := decide_eq_false hiI
        have hin : la.length ≤ i := by omega
        go_upto_region 12 with (fail)
        go_quiet (fail)
        generalize hWq : World.drewN wz _ = wq
        obtain ⟨HG, HOB, HO⟩ : Hid (W6.grownBy wq (some ob)) ∧ Hid (wq.heap[ob]? = some (.cells #[.int .i64 wm, .slice D out.length dc] 24 (0, 0))) ∧ Hid (OwnX (fun _ => False) encExt wq n6 48 (.slice D out.length dc) out) := by
          rw [← hWq]
          exact ⟨grown_drewR HG.out _, HOB.out, HO.out.below (bDrew (Below.refl _ _) _)⟩
        have HEQ : Hid (∀ b : Nat, wq.heap[b]? = wz.heap[b]?) := fun b => by rw [← hWq]; rfl
        clear hWq
        replace c1 := (World.cell?_of_block (a := ⟨n0, 1, none⟩) (HEQ.out n0)).trans c1
        replace c3 := (World.cell?_of_block (a := ⟨n0 + 1, 1, none⟩) (HEQ.out (n0 + 1))).trans c3
        replace gy0 := (World.cell?_of_block (a := ⟨by_, oy + k * 2, none⟩) (HEQ.out by_)).trans gy0
        replace gy1 := (World.cell?_of_block (a := ⟨by_, oy + k * 2 + 1, none⟩) (HEQ.out by_)).trans gy1
        clear HEQ
        go_upto_region 15 with (fail)
        go_quiet (fail)
        generalize hWq : World.drewN wq _ = wp
        obtain ⟨HG, HOB, HO⟩ : Hid (W6.grownBy wp (some ob)) ∧ Hid (wp.heap[ob]? = some (.cells #[.int .i64 wm, .slice D out.length dc] 24 (0, 0))) ∧ Hid (OwnX (fun _ => False) encExt wp n6 48 (.slice D out.length dc) out) := by
          rw [← hWq]
          exact ⟨grown_drewR HG.out _, HOB.out, HO.out.below (bDrew (Below.refl _ _) _)⟩
        have HEQ : Hid (∀ b : Nat, wp.heap[b]? = wq.heap[b]?) := fun b => by rw [← hWq]; rfl
        clear hWq
        replace c1 := (World.cell?_of_block (a := ⟨n0, 1, none⟩) (HEQ.out n0)).trans c1
        replace c3 := (World.cell?_of_block (a := ⟨n0 + 1, 1, none⟩) (HEQ.out (n0 + 1))).trans c3
        replace gy0 := (World.cell?_of_block (a := ⟨by_, oy + k * 2, none⟩) (HEQ.out by_)).trans gy0
        replace gy1 := (World.cell?_of_block (a := ⟨by_, oy + k * 2 + 1, none⟩) (HEQ.out by_)).trans gy1
        clear HEQ
        go_upto_region 16 with (fail)
        have hO4 := Lib.hid ((HO.out.below (Below.refl wp.heap.size wp).drew).alloc (.cells #[.int .i64 ey, .int .i64 cy] 48))
        have hO4o := Lib.hid hO4.out.1
        have HRD : Hid (encExt.rd (wp.drew.alloc (.cells #[.int .i64 ey, .int .i64 cy] 48)) (fun b => Nw n6 (wp.drew.alloc (.cells #[.int .i64 ey, .int .i64 cy] 48)).heap.size b ∧ ¬ (fun _ => False) b ∧ (Value.slice D out.length dc).ownBlock ≠ some b) [.int .i64 ey, .int .i64 cy] (ey, cy)) := ext_mk (x := (ey, cy)) iy0 iy1
        have hol : out.length ≤ 16 := by have := HLE.out; omega
        have hgz := HG.out.size
        have hal : ∀ b, b = ob ∨ b < n0 + 2 → b < wp.heap.size := fun b hb => by omega
        have HAL := Lib.hid hal
        have hoown : Hid (∀ b, b = ob ∨ b < n0 + 2 → (Value.slice D out.length dc).ownBlock ≠ some b) := fun b hb h => by have := (HO.out.lt b h).1; omega
        have HSY : Hid (∀ W : World, (∀ b, b = ob ∨ b < n0 + 2 → W.heap[b]? = wp.heap[b]?) → (W.cell? ⟨ob, 1, none⟩ = some (.slice D out.length dc) ∧ W.frozen? ⟨ob, 1, none⟩ = false) ∧ (W.cell? ⟨n0, 1, none⟩ = some (.slice A la.length ca) ∧ W.cell? ⟨n0 + 1, 1, none⟩ = some (.slice (some ⟨by_, oy, none⟩) lb.length cb)) ∧ W.cell? ⟨by_, oy + k * 2, none⟩ = some (.int .i64 ey) ∧ W.cell? ⟨by_, oy + k * 2 + 1, none⟩ = some (.int .i64 cy)) := fun W hb => by
          obtain ⟨_, q1, qf⟩ := blk2 ((hb ob (Or.inl rfl)).trans HOB.out)
          exact ⟨⟨q1, qf 1⟩, ⟨(World.cell?_of_block (a := ⟨n0, 1, none⟩) (hb n0 (Or.inr (by omega)))).trans c1, (World.cell?_of_block (a := ⟨n0 + 1, 1, none⟩) (hb (n0 + 1) (Or.inr (by omega)))).trans c3⟩, (World.cell?_of_block (a := ⟨by_, oy + k * 2, none⟩) (hb by_ (Or.inr (by omega)))).trans gy0, (World.cell?_of_block (a := ⟨by_, oy + k * 2 + 1, none⟩) (hb by_ (Or.inr (by omega)))).trans gy1⟩
        have hSw := HSY.out wp.drew (fun _ _ => rfl)
        have hSt := HSY.out (wp.drew.alloc (.cells #[.int .i64 ey, .int .i64 cy] 48)) (fun b hb => Below.heap_alloc wp.drew _ b (HAL.out b hb))
        clear hal
        refine wp_region_U (fun W => ((W.cell? ⟨ob, 1, none⟩ = some (.slice D out.length dc) ∧ W.frozen? ⟨ob, 1, none⟩ = false) ∧ (W.cell? ⟨n0, 1, none⟩ = some (.slice A la.length ca) ∧ W.cell? ⟨n0 + 1, 1, none⟩ = some (.slice (some ⟨by_, oy, none⟩) lb.length cb)) ∧ W.cell? ⟨by_, oy + k * 2, none⟩ = some (.int .i64 ey) ∧ W.cell? ⟨by_, oy + k * 2 + 1, none⟩ = some (.int .i64 cy))) 10 (by kernel_rfl) ?_
        refine wpAnyU_take (i := 0) (v := ?_) rfl (by kernel_rfl) (by kernel_rfl) (by kernel_rfl) (by kernel_rfl) (fun _ _ _ h => h) (by rfl) ?_ hSw ?_
        rotate_left 1
        · intro W hW
          try dsimp only at hW
          obtain ⟨⟨o1, of⟩, ⟨a1, b1⟩, x0, x1⟩ := hW
          go_simp
          try with_reducible rfl
        try simp only [Act.put, List.setIfInBounds_toArray, List.set_cons_zero, List.set_cons_succ]
        refine wpAnyU_take (i := 1) (v := ?_) rfl (by kernel_rfl) (by kernel_rfl) (by kernel_rfl) (by kernel_rfl) (fun _ _ _ h => h) (by rfl) ?_ hSw ?_
        rotate_left 1
        · intro W hW
          try dsimp only at hW
          obtain ⟨⟨o1, of⟩, ⟨a1, b1⟩, x0, x1⟩ := hW
          go_simp
          try with_reducible rfl
        try simp only [Act.put, List.setIfInBounds_toArray, List.set_cons_zero, List.set_cons_succ]
        refine wpAnyU_take (i := 2) (v := ?_) rfl (by kernel_rfl) (by kernel_rfl) (by kernel_rfl) (by kernel_rfl) (fun _ _ _ h => h) (by rfl) ?_ hSw ?_
        rotate_left 1
        · intro W hW
          try dsimp only at hW
          obtain ⟨⟨o1, of⟩, ⟨a1, b1⟩, x0, x1⟩ := hW
          go_simp
          try with_reducible rfl
        try simp only [Act.put, List.setIfInBounds_toArray, List.set_cons_zero, List.set_cons_succ]
        refine wpAnyU_take (i := 3) (v := ?_) rfl (by kernel_rfl) (by kernel_rfl) (by kernel_rfl) (by kernel_rfl) (fun _ _ _ h => h) (by rfl) ?_ hSw ?_
        rotate_left 1
        · intro W hW
          try dsimp only at hW
          obtain ⟨⟨o1, of⟩, ⟨a1, b1⟩, x0, x1⟩ := hW
          go_simp
          try with_reducible rfl
        try simp only [Act.put, List.setIfInBounds_toArray, List.set_cons_zero, List.set_cons_succ]
        refine wpAnyU_take (i := 4) (v := ?_) rfl (by kernel_rfl) (by kernel_rfl) (by kernel_rfl) (by kernel_rfl) (fun _ _ _ h => h) (by rfl) ?_ hSw ?_
        rotate_left 1
        · intro W hW
          try dsimp only at hW
          obtain ⟨⟨o1, of⟩, ⟨a1, b1⟩, x0, x1⟩ := hW
          go_simp
          try with_reducible rfl
        try simp only [Act.put, List.setIfInBounds_toArray, List.set_cons_zero, List.set_cons_succ]
        refine wpAnyU_take (i := 5) (v := ?_) rfl (by kernel_rfl) (by kernel_rfl) (by kernel_rfl) (by kernel_rfl) (fun _ _ _ h => h) (by rfl) ?_ hSw ?_
        rotate_left 1
        · intro W hW
          try dsimp only at hW
          obtain ⟨⟨o1, of⟩, ⟨a1, b1⟩, x0, x1⟩ := hW
          go_simp
          try with_reducible rfl
        try simp only [Act.put, List.setIfInBounds_toArray, List.set_cons_zero, List.set_cons_succ]
        refine wpAnyU_take (i := 6) (v := ?_) rfl (by kernel_rfl) (by kernel_rfl) (by kernel_rfl) (by kernel_rfl) (fun _ _ _ h => h) (by rfl) ?_ hSw ?_
        rotate_left 1
        · intro W hW
          try dsimp only at hW
          obtain ⟨⟨o1, of⟩, ⟨a1, b1⟩, x0, x1⟩ := hW
          go_simp
          try with_reducible rfl
        try simp only [Act.put, List.setIfInBounds_toArray, List.set_cons_zero, List.set_cons_succ]
        refine wpAnyU_one (i := 7) (by kernel_rfl) rfl (fun K hK => ?_)
        go_simp
        refine hK.out _ _ (fun _ => hSt) ?_
        clear hK K
        try simp only [Act.put, List.setIfInBounds_toArray, List.set_cons_zero, List.set_cons_succ]
        refine wpAnyU_one (i := 8) (by kernel_rfl) rfl (fun K hK => ?_)
        refine step_app1 (E := encExt) tyRules rfl _ _ rfl rfl hO4o.out (ey, cy) [.int .i64 ey, .int .i64 cy] rfl HRD.out (heap_alloc_new _ _) (fun _ h => h.1.2) (by simp; omega) (by unfold maxLen; omega) (by omega) ?_
        intro A6 c6 w6 hown6 hg6 hat6
        have hk6 : Hid (∀ b, b = ob ∨ b < n0 + 2 → w6.heap[b]? = wp.heap[b]?) := fun b hb => (hg6.block b (by have := HAL.out b hb; simp; omega) (fun e => hoown.out b hb e.symm)).trans (Below.heap_alloc wp.drew _ b (HAL.out b hb))
        refine hK.out _ _ (fun _ => HSY.out w6 hk6.out) ?_
        clear hK K
        try simp only [Act.put, List.setIfInBounds_toArray, List.set_cons_zero, List.set_cons_succ]
        obtain ⟨⟨t0, tf⟩, _⟩ := HSY.out w6 hk6.out
        refine wpAnyU_one (i := 9) (by kernel_rfl) rfl (fun K hK => ?_)
        go_simp
        refine hK.out _ _ (fun _ => HSY.out w6 hk6.out) ?_
        clear hK K
        try simp only [Act.put, List.setIfInBounds_toArray, List.set_cons_zero, List.set_cons_succ]
        refine wpAnyU_one (i := 10) (by kernel_rfl) rfl (fun K hK => ?_)
        go_simp
        refine hK.out _ _ (fun h => absurd rfl h) ?_
        clear hK K
        refine wpAnyU_done (by kernel_rfl) ?_ _
        have hro7 : Hid ((w6.setCell ⟨ob, 1, none⟩ (.slice A6 (out.length + 1) c6)).heap[ob]? = some (.cells #[.int .i64 wm, .slice A6 (out.length + 1) c6] 24 (0, 0))) := blk2_1 ((hk6.out ob (Or.inl rfl)).trans HOB.out) (.slice A6 (out.length + 1) c6)
        have hO7 : Hid (OwnX (fun _ => False) encExt (w6.setCell ⟨ob, 1, none⟩ (.slice A6 (out.length + 1) c6)) n6 48 (.slice A6 (out.length + 1) c6) (out ++ [(ey, cy)])) := by
          have h := hO4.out.app hown6 hg6 hat6 (fun b hb => hb.elim)
          refine h.keep (by simp [World.setCell]) (fun g hg _ _ => heap_setCell_other w6 ⟨ob, 1, none⟩ g _ (by show g ≠ ob; omega))
        have hlo := hO4.out.lt
        have hG7 : Hid (W6.grownBy (w6.setCell ⟨ob, 1, none⟩ (.slice A6 (out.length + 1) c6)) (some ob)) := by
          refine grown_setR ⟨hg6.os.trans HG.out.os, hg6.tape.trans HG.out.tape, hg6.output.trans HG.out.output, Nat.le_trans hgz (by have := hg6.size; simp at this; omega), fun k hk hn => ?_⟩ 1 _
          refine (hg6.block k (by simp; omega) (fun e => ?_)).trans ((Below.heap_alloc wp.drew _ k (by show k < wp.heap.size; omega)).trans (HG.out.block k hk hn))
          have := (hlo k e.symm).1
          omega
        have hle7 : (out ++ [(ey, cy)]).length = out.length + 1 := by simp
        have HL7 := Lib.hid hle7
        clear hown6 hg6 hat6 hk6 hlo hle7 t0 tf
        generalize w6.setCell ⟨ob, 1, none⟩ (.slice A6 (out.length + 1) c6) = w7 at hro7 hO7 hG7 ⊢
        go_wp2_with fail
        go_roundw
        case rel =>

          exact ⟨i, k + 1, c6, A6, out ++ [(ey, cy)], by omega, by omega, by go_num, by go_num, by rw [Hid, HL7.out]; have := HLE.out; omega, by rw [Hid, HMR.out]; rw [HYE.out, List.drop_eq_nil_of_le (show la.length ≤ i by omega), mergeR_nil', mergeR_nil']; simp, hG7.out, by rw [Hid, HL7.out]; exact hro7.out, by rw [Hid, HL7.out]; exact hO7.out⟩
        case measure => simp [intOf]; omega
      · have hiI : ¬ (i : Int) < la.length := by omega
        have hkI : ¬ (k : Int) < lb.length := by omega
        have HF : Hid (mergeR la lb = out) := by
          rw [Hid, HMR.out, List.drop_eq_nil_of_le (by omega), List.drop_eq_nil_of_le (by omega), mergeR_nil', List.append_nil]
        have hrz := HRZ.out wz hB1z
        have hwE : Hid (polE (wa, la) = 0 ∧ polE (wb, lb) = 0) := ⟨HPA.out, HPB.out⟩
        obtain ⟨y0, y1, _⟩ := blk2 HOB.out
        obtain ⟨z0, z1, zf⟩ := blk2 hrz
        clear hi' hk'
        by_cases hx0 : out.length ≤ 8
        case neg =>
          have h8' : (8 : Int) < out.length := by omega
          have HX : Hid (mergeE (wa, la) (wb, lb) = 6 ∧ mergeP (wa, la) (wb, lb) = zPol) := by
            have hm : mergeE (wa, la) (wb, lb) = 6 := by
              unfold mergeE
              rw [if_neg (by simp [hwE.out.1]), if_neg (by simp [hwE.out.2]), if_pos (by show 8 < (mergeR la lb).length; rw [HF.out]; omega)]
            exact ⟨hm, by unfold mergeP; rw [if_neg (by rw [hm]; first | exact hx0 | decide)]⟩
          clear hx0
          have hBww := hB1.trans (hB1z.mono (by omega))
          have hrz := HRZ.out wz hB1z
          obtain ⟨z0, z1, zf⟩ := blk2 hrz
          go_wp2_with fail
          try rw [Exit.noGoto_ret]
          have hz := blk2_set hrz (.int .i64 0) (.slice none 0 0)
          have hbe := ((hBww.setCell (p := ⟨n0 + 1 + 1, 0, none⟩) (by show n0 ≤ n0 + 1 + 1; omega) (.int .i64 0)).setCell (p := ⟨n0 + 1 + 1, 1, none⟩) (by show n0 ≤ n0 + 1 + 1; omega) (.slice none 0 0))
          have hse := trivial
          change bodyPost _ _ _ _ _ ((wz.setCell ⟨(n0 + 1 + 1), 0, none⟩ (.int .i64 0)).setCell ⟨(n0 + 1 + 1), 1, none⟩ (.slice none 0 0))
          generalize (wz.setCell ⟨(n0 + 1 + 1), 0, none⟩ (.int .i64 0)).setCell ⟨(n0 + 1 + 1), 1, none⟩ (.slice none 0 0) = W3 at hz hbe hse ⊢
          obtain ⟨z0, z1, _⟩ := blk2 hz
          refine bodyPost_ret (v := .tuple #[.agg #[(.int .i64 0), (.slice none 0 0)], .int .i64 6]) ?_ rfl ?_
          · simp [results, Try.results19, Try.f19, go_sem, z0, z1]
          rw [HX.out.1, HX.out.2]
          exact ⟨none, 0, rfl, by simp [zPol], by simp, SlAt.nil_, by rw [hn0]; exact hbe⟩
        · have h8' : ¬ (8 : Int) < out.length := by omega
          have HX : Hid (mergeE (wa, la) (wb, lb) = 0 ∧ mergeP (wa, la) (wb, lb) = (wm, out)) := by
            have hm : mergeE (wa, la) (wb, lb) = 0 := by
              unfold mergeE
              rw [if_neg (by simp [hwE.out.1]), if_neg (by simp [hwE.out.2]), if_neg (by show ¬ 8 < (mergeR la lb).length; rw [HF.out]; omega)]
            refine ⟨hm, ?_⟩
            unfold mergeP
            rw [if_pos hm]
            show (max wa wb, mergeR la lb) = _
            rw [HF.out, HWM.out]
          obtain ⟨_, o1, o2, o3⟩ := HO.out.parts
          clear hx0
          go_wp2_with fail
          try rw [Exit.noGoto_ret]
          have hz := blk2_set hrz (.int .i64 wm) (.slice D out.length dc)
          have hbe := ((hBwz.setCell (p := ⟨n0 + 1 + 1, 0, none⟩) (by show n0 ≤ n0 + 1 + 1; omega) (.int .i64 wm)).setCell (p := ⟨n0 + 1 + 1, 1, none⟩) (by show n0 ≤ n0 + 1 + 1; omega) (.slice D out.length dc))
          have hse := (show SlAt encExt ((wz.setCell ⟨n0 + 1 + 1, 0, none⟩ (.int .i64 wm)).setCell ⟨n0 + 1 + 1, 1, none⟩ (.slice D out.length dc)) (Nw n0 ((wz.setCell ⟨n0 + 1 + 1, 0, none⟩ (.int .i64 wm)).setCell ⟨n0 + 1 + 1, 1, none⟩ (.slice D out.length dc)).heap.size) D out from (o3.blk (fun g hg => (heap_setCell_other _ ⟨n0 + 1 + 1, 1, none⟩ g _ (by have := hg.1.1; show g ≠ n0 + 1 + 1; omega)).trans (heap_setCell_other _ ⟨n0 + 1 + 1, 0, none⟩ g _ (by have := hg.1.1; show g ≠ n0 + 1 + 1; omega)))).more (fun g hg => ⟨by have := hg.1.1; omega, by have := hg.1.2; simp [World.setCell]; exact this⟩))
          change bodyPost _ _ _ _ _ ((wz.setCell ⟨(n0 + 1 + 1), 0, none⟩ (.int .i64 wm)).setCell ⟨(n0 + 1 + 1), 1, none⟩ (.slice D out.length dc))
          generalize (wz.setCell ⟨(n0 + 1 + 1), 0, none⟩ (.int .i64 wm)).setCell ⟨(n0 + 1 + 1), 1, none⟩ (.slice D out.length dc) = W3 at hz hbe hse ⊢
          obtain ⟨z0, z1, _⟩ := blk2 hz
          refine bodyPost_ret (v := .tuple #[.agg #[(.int .i64 wm), (.slice D out.length dc)], .int .i64 0]) ?_ rfl ?_
          · simp [results, Try.results19, Try.f19, go_sem, z0, z1]
          rw [HX.out.1, HX.out.2]
          exact ⟨D, dc, rfl, o1, o2, by rw [hn0]; exact hse, by rw [hn0]; exact hbe⟩
end Go.Proofs.Ytnkmklnlaepdeaa
