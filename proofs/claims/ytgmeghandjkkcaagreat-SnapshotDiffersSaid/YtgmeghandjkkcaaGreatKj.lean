/-
  snapshot.Apply: the walk.
-/
import Derived.Test.YtgmeghandjkkcaaGreatSn2
set_option linter.unusedVariables false
set_option linter.unusedSimpArgs false
set_option linter.unusedSectionVars false
set_option linter.unnecessarySimpa false
namespace Go.Proofs.YtgmeghandjkkcaaGreat
open Go.RowKit Go.Shelf
attribute [local go_sem] Oper.semAt_some

theorem errOf_conv36 {α : Type} {f : α → Int} {l : List α} (h : errOf f l = 0) : ∀ x ∈ l, f x = 0 := by
  intro x hx
  unfold errOf at h
  cases hq : l.find? (fun x => f x != 0) with
  | none =>
    have := List.find?_eq_none.1 hq x hx
    simpa using this
  | some y =>
    rw [hq] at h
    have := List.find?_some hq
    simp at this h
    exact absurd h this
theorem applyErr_ok {im : Img} {l : List Wr} (h : applyErr im l = 0) : sizesN (lens im) = 0 ∧ ∀ x ∈ l, fitsN (lens im) x = 0 := by
  unfold applyErr at h
  by_cases h1 : sizesN (lens im) = 0
  · rw [if_neg (by simp [h1])] at h
    exact ⟨h1, errOf_conv36 h⟩
  · rw [if_pos h1] at h; exact absurd h h1
set_option maxHeartbeats 4000000 in
set_option maxRecDepth 100000 in
theorem snApply_any (A A2 A3 : Option Addr) (c c2 c3 n m p : Nat) (im : Img) (l : List Snp) (ws : List Wr) (w : World) (hn : im.length = n) (hm : l.length = m) (hp : ws.length = p) (h1 : SlAt (encSl encSec) w (Bl w.heap.size) A im) (h2 : SlAt encSnp w (Bl w.heap.size) A2 l) (h3 : SlAt encWr w (Bl w.heap.size) A3 ws) (hL : SnLim im l) (hwl : p ≤ 1000) (hsv : ∀ x ∈ l, x.2.2.length ≤ 99000) :
    Calls Tryz.prog 10 #[.agg #[.slice A n c, .slice A2 m c2], .slice A3 p c3] w (SnRetE (sApply (im, l) ws) (sApplyE (im, l) ws) w) := by
  subst hn hm hp
  have H1 : Hid (∀ w', Below w.heap.size w w' → SlAt (encSl encSec) w' (Bl w.heap.size) A im) := fun w' hb => h1.below hb
  have H2 : Hid (∀ w', Below w.heap.size w w' → SlAt encSnp w' (Bl w.heap.size) A2 l) := fun w' hb => h2.below hb
  have H3 : Hid (∀ w', Below w.heap.size w w' → SlAt encWr w' (Bl w.heap.size) A3 ws) := fun w' hb => h3.below hb
  have HLM := Lib.hid hL
  have HSV := Lib.hid hsv
  have hl1 := hL.ims
  have hl2 := hL.its
  clear h1 h2 h3 hL hsv
  obtain ⟨n0, hn0⟩ : ∃ n0, w.heap.size = n0 := ⟨_, rfl⟩
  obtain ⟨W0, hW0⟩ : ∃ W0, (w.alloc (.cells #[.slice A im.length c, .slice A2 l.length c2] 26)).alloc (.cells #[.slice none 0 0, .slice none 0 0] 26) = W0 := ⟨_, rfl⟩
  have hB0 : Below n0 w W0 := by rw [← hW0, ← hn0]; exact ext_alloc (ext_alloc (Below.refl _ _))
  have hs0 : n0 + 1 < W0.heap.size := by rw [← hW0, ← hn0]; simp
  have hr0 : W0.heap[n0]? = some (.cells #[.slice A im.length c, .slice A2 l.length c2] 26 (0, 0)) := by rw [← hW0, ← hn0]; exact (Below.heap_alloc _ _ _ (by simp)).trans (heap_alloc_new _ _)
  have hrz0 : W0.heap[n0 + 1]? = some (.cells #[.slice none 0 0, .slice none 0 0] 26 (0, 0)) := by rw [← hW0, ← hn0]; exact heap_new2 _ _ _
  have hBL : Hid (∀ (W : World) g, Below n0 w W → Bl w.heap.size g → Bl W.heap.size g) := fun W g hb hg => by have := hb.size; have h5 : g < w.heap.size := hg; show g < W.heap.size; omega
  have HCC : Hid (∀ W, Below W0.heap.size W0 W → W.cell? ⟨n0, 0, none⟩ = some (.slice A im.length c) ∧ W.cell? ⟨n0, 1, none⟩ = some (.slice A2 l.length c2)) := fun W hb => by
    obtain ⟨a, b, _⟩ := blk2 ((hb.block n0 (by omega)).trans hr0)
    exact ⟨a, b⟩
  have HRZ : Hid (∀ W, Below W0.heap.size W0 W → W.heap[n0 + 1]? = some (.cells #[.slice none 0 0, .slice none 0 0] 26 (0, 0))) := fun W hb => (hb.block (n0 + 1) hs0).trans hrz0
  obtain ⟨r, hr⟩ : ∃ r, Hid (snE (im, l) = r) := ⟨_, rfl⟩
  have HCK := Lib.hid (snCheck_any A A2 c c2 im.length l.length im l r W0 rfl rfl hr.out ((H1.out W0 (by rw [hn0]; exact hB0)).more (fun g hg => hBL.out W0 g hB0 hg)) ((H2.out W0 (by rw [hn0]; exact hB0)).more (fun g hg => hBL.out W0 g hB0 hg)) hl1 (by omega))
  obtain ⟨c0, c1⟩ := HCC.out W0 (Below.refl _ _)
  clear hr0 hrz0
  go_enter Tryz.func10, Tryz.ntmps10
  go_wp2_with fail
  refine HCK.out.mono ?_
  rintro e w1 ⟨rfl, hb1⟩
  have hbw1 : Below n0 w w1 := hB0.trans (hb1.mono (by omega))
  have hz1 := hb1.size
  have hrz1 := HRZ.out w1 hb1
  clear HCK hW0 c0 c1
  by_cases hx0 : r = 0
  case neg =>
    have hx0' : (r != 0) = true := by simp [hx0]
    have hne : r ≠ 0 := hx0
    have hre : Hid (sApplyE (im, l) ws = r) := by rw [Hid, sApplyE, hr.out, if_pos hx0]
    clear hx0
    have hE : Hid (sApplyE (im, l) ws = r) := hre.out
    have hS : Hid (sApply (im, l) ws = zSns) := by rw [Hid, sApply, if_neg (by rw [hE.out]; exact hne)]
    obtain ⟨q0, q1, qf⟩ := blk2 hrz1
    clear hne
    go_wp2_with fail
    have hz := blk2_set hrz1 (.slice none 0 0) (.slice none 0 0)
    have hbe := ((hbw1.setCell (p := ⟨n0 + 1, 0, none⟩) (by show n0 ≤ n0 + 1; omega) (.slice none 0 0)).setCell (p := ⟨n0 + 1, 1, none⟩) (by show n0 ≤ n0 + 1; omega) (.slice none 0 0))
    have hse := (SnRet.zero (w := (w1.setCell ⟨n0 + 1, 0, none⟩ (.slice none 0 0)).setCell ⟨n0 + 1, 1, none⟩ (.slice none 0 0)) (lo := n0) (by simp [World.setCell]; omega))
    change bodyPost _ _ _ _ _ ((w1.setCell ⟨(n0 + 1), 0, none⟩ (.slice none 0 0)).setCell ⟨(n0 + 1), 1, none⟩ (.slice none 0 0))
    generalize (w1.setCell ⟨(n0 + 1), 0, none⟩ (.slice none 0 0)).setCell ⟨(n0 + 1), 1, none⟩ (.slice none 0 0) = W3 at hz hbe hse ⊢
    obtain ⟨z0, z1, _⟩ := blk2 hz
    refine bodyPost_ret (v := .tuple #[.agg #[(.slice none 0 0), (.slice none 0 0)], .int .i64 r]) ?_ rfl ?_
    · simp [results, Tryz.results10, Tryz.f10, go_sem, z0, z1]
    rw [hE.out, hS.out]
    exact ⟨none, 0, none, 0, n0, rfl, by rw [hn0]; exact hse, by rw [hn0]; exact hbe⟩
  have hx0' : (r != 0) = false := by simp [hx0]
  have HOK : Hid (snE (im, l) = 0) := by rw [Hid, hr.out, hx0]
  clear hx0 hr
  obtain ⟨en, hen⟩ : ∃ en, Hid (applyErr im ws = en) := ⟨_, rfl⟩
  have hsE : Hid (sApplyE (im, l) ws = en) := by rw [Hid, sApplyE, HOK.out, if_neg (by decide)]; exact hen.out
  have HAP := Lib.hid (apply_any A A3 c c3 im ws w1 ((H1.out w1 (by rw [hn0]; exact hbw1)).more (fun g hg => hBL.out w1 g hbw1 hg)) (by omega) ((H3.out w1 (by rw [hn0]; exact hbw1)).more (fun g hg => hBL.out w1 g hbw1 hg)) (by omega))
  rw [hen.out] at HAP
  obtain ⟨c0, c1⟩ := HCC.out w1 hb1
  go_wp2_with fail
  refine HAP.out.mono ?_
  rintro e w2 ⟨A4, c4, ix, rfl, a1, a2, a3, hb2⟩
  have hb02 : Below W0.heap.size W0 w2 := ext_trans hb1 hb2
  have hbw2 : Below n0 w w2 := hB0.trans (hb02.mono (by omega))
  have hrz2 := HRZ.out w2 hb02
  have hz2 := hb2.size
  have HA3 := Lib.hid a3
  clear HAP c0 c1 hrz1 a3
  by_cases hx0 : en = 0
  case neg =>
    have hx0' : (en != 0) = true := by simp [hx0]
    have hne : en ≠ 0 := hx0
    clear hx0
    have hE : Hid (sApplyE (im, l) ws = en) := hsE.out
    have hS : Hid (sApply (im, l) ws = zSns) := by rw [Hid, sApply, if_neg (by rw [hE.out]; exact hne)]
    obtain ⟨q0, q1, qf⟩ := blk2 hrz2
    clear hne
    go_wp2_with fail
    have hz := blk2_set hrz2 (.slice none 0 0) (.slice none 0 0)
    have hbe := ((hbw2.setCell (p := ⟨n0 + 1, 0, none⟩) (by show n0 ≤ n0 + 1; omega) (.slice none 0 0)).setCell (p := ⟨n0 + 1, 1, none⟩) (by show n0 ≤ n0 + 1; omega) (.slice none 0 0))
    have hse := (SnRet.zero (w := (w2.setCell ⟨n0 + 1, 0, none⟩ (.slice none 0 0)).setCell ⟨n0 + 1, 1, none⟩ (.slice none 0 0)) (lo := n0) (by simp [World.setCell]; omega))
    change bodyPost _ _ _ _ _ ((w2.setCell ⟨(n0 + 1), 0, none⟩ (.slice none 0 0)).setCell ⟨(n0 + 1), 1, none⟩ (.slice none 0 0))
    generalize (w2.setCell ⟨(n0 + 1), 0, none⟩ (.slice none 0 0)).setCell ⟨(n0 + 1), 1, none⟩ (.slice none 0 0) = W3 at hz hbe hse ⊢
    obtain ⟨z0, z1, _⟩ := blk2 hz
    refine bodyPost_ret (v := .tuple #[.agg #[(.slice none 0 0), (.slice none 0 0)], .int .i64 en]) ?_ rfl ?_
    · simp [results, Tryz.results10, Tryz.f10, go_sem, z0, z1]
    rw [hE.out, hS.out]
    exact ⟨none, 0, none, 0, n0, rfl, by rw [hn0]; exact hse, by rw [hn0]; exact hbe⟩
  have hx0' : (en != 0) = false := by simp [hx0]
  have hE : Hid (sApplyE (im, l) ws = 0) := by rw [Hid, hsE.out, hx0]
  have hfit : Hid (∀ x ∈ ws, fitsN (lens im) x = 0) := (applyErr_ok (by rw [hen.out, hx0])).2
  have hapl : Hid (applyL im ws = putAll im ws) := by rw [Hid, applyL, if_pos (by rw [hen.out, hx0])]
  have hS : Hid (sApply (im, l) ws = (putAll im ws, setLast l fun d => foldL (contL im ws ++ d))) := by rw [Hid, sApply, if_pos hE.out]
  rw [hapl.out] at HA3 a1 ⊢
  clear hx0 hsE hapl
  have hpl : (putAll im ws).length = im.length := putAll_length im ws
  obtain ⟨im2, him2⟩ : ∃ im2, putAll im ws = im2 := ⟨_, rfl⟩
  rw [him2] at HA3 a1 hS hpl ⊢
  clear him2
  have HCP := Lib.hid (copied36_any A A2 c c2 im.length l.length im l w2 rfl rfl ((H1.out w2 (by rw [hn0]; exact hbw2)).more (fun g hg => hBL.out w2 g hbw2 hg)) ((H2.out w2 (by rw [hn0]; exact hbw2)).more (fun g hg => hBL.out w2 g hbw2 hg)) HLM.out)
  obtain ⟨c0, c1⟩ := HCC.out w2 hb02
  go_wp2_with fail
  refine HCP.out.mono ?_
  rintro e w3 ⟨B, vc, D, dc, mid, rfl, hsn, hb3⟩
  clear HCP c0 c1 hrz2
  go_upto_region 8 with (fail)
  obtain ⟨ob, hob⟩ : ∃ ob, w3.heap.size = ob := ⟨_, rfl⟩
  obtain ⟨w4, hw4⟩ : ∃ w4, w3.alloc (.cells #[.slice B im.length vc, .slice D l.length dc] 26) = w4 := ⟨_, rfl⟩
  rw [hw4, hob]
  have hb4 : Below w3.heap.size w3 w4 := by rw [← hw4]; exact ext_alloc (Below.refl _ _)
  have hr4 : w4.heap[ob]? = some (.cells #[.slice B im.length vc, .slice D l.length dc] 26 (0, 0)) := by rw [← hw4, ← hob]; exact heap_alloc_new _ _
  have hs4 : ob < w4.heap.size := (Array.getElem?_eq_some_iff.1 hr4).1
  have hz3 := hb3.size
  obtain ⟨k1, k2, k3, k4, k5, k6⟩ := hsn
  have hO4 : Hid (OwnX (fun g => g = ob) encSnp w4 mid 76 (.slice D l.length dc) l) := (k6.var (X' := fun g => g = ob) (fun g hg => Or.inr (by omega))).below hb4
  have hb04 : Below W0.heap.size W0 w4 := ext_trans (ext_trans hb02 hb3) hb4
  have hbw4 : Below n0 w w4 := hB0.trans (hb04.mono (by omega))
  have HA4 : Hid (SlAt (encSl encSec) w4 (Nw w1.heap.size mid) A4 im2) := (HA3.out.blk (w' := w4) (fun g hg => (hb4.block g (by have := hg.2; omega)).trans (hb3.block g hg.2))).more (fun g hg => hg.mono (Nat.le_refl _) (by omega))
  obtain ⟨o0, o1, _⟩ := blk2 hr4
  have hmz : mid ≤ ob := by omega
  clear k1 k2 k5 k6 hw4 HA3 hb3 hb4 hen
  by_cases h0 : l.length = 0
  · have HL0 : Hid (l = []) := List.eq_nil_of_length_eq_zero h0
    have hg0 : decide (0 < l.length) = false := decide_eq_false (by omega)
    clear h0
    go_upto_region 13 with (fail)
    obtain ⟨o0, o1, of⟩ := blk2 hr4
    have hro6 := blk2_0 hr4 (.slice A4 im.length c4)
    have hrz6 : (w4.setCell ⟨ob, 0, none⟩ (.slice A4 im.length c4)).heap[n0 + 1]? = some (.cells #[.slice none 0 0, .slice none 0 0] 26 (0, 0)) := (heap_setCell_other w4 ⟨ob, 0, none⟩ (n0 + 1) (.slice A4 im.length c4) (by show n0 + 1 ≠ ob; omega)).trans (HRZ.out w4 hb04)
    have hO6 := Lib.hid ((hO4.out).set (p := ⟨ob, 0, none⟩) rfl (.slice A4 im.length c4))
    have hA6 : Hid (SlAt (encSl encSec) (w4.setCell ⟨ob, 0, none⟩ (.slice A4 im.length c4)) (Nw w1.heap.size mid) A4 im2) := (HA4.out).blk (fun g hg => heap_setCell_other _ _ _ _ (by have := hg.2; show g ≠ ob; omega))
    have hB6 : Below n0 w (w4.setCell ⟨ob, 0, none⟩ (.slice A4 im.length c4)) := (hbw4).setCell (p := ⟨ob, 0, none⟩) (by show n0 ≤ ob; omega) _
    have hz6 : mid ≤ (w4.setCell ⟨ob, 0, none⟩ (.slice A4 im.length c4)).heap.size := by have := (hbw4).size; have := (Array.getElem?_eq_some_iff.1 hr4).1; simp [World.setCell]; omega
    go_upto_region 14 with (fail)
    generalize w4.setCell ⟨ob, 0, none⟩ (.slice A4 im.length c4) = w6 at hro6 hrz6 hO6 hA6 hB6 hz6 ⊢
    clear o0 o1 of
    obtain ⟨o0, o1, _⟩ := blk2 hro6
    obtain ⟨q0, q1, qf⟩ := blk2 hrz6
    go_wp2_with fail
    have hz := blk2_set hrz6 (.slice A4 im.length c4) (.slice D l.length dc)
    have hbe := ((hB6.setCell (p := ⟨n0 + 1, 0, none⟩) (by show n0 ≤ n0 + 1; omega) (.slice A4 im.length c4)).setCell (p := ⟨n0 + 1, 1, none⟩) (by show n0 ≤ n0 + 1; omega) (.slice D l.length dc))
    have hse := (((show SnRet im2 l A4 c4 D dc mid w1.heap.size w6 from ⟨a1, a2, by omega, hz6, hA6.out, by have := hO6.out.var (X' := fun _ => False) (fun g hg => hg.elim); simpa using this⟩).set (p := ⟨n0 + 1, 0, none⟩) (by show n0 + 1 < w1.heap.size; omega) (.slice A4 im.length c4)).set (p := ⟨n0 + 1, 1, none⟩) (by show n0 + 1 < w1.heap.size; omega) (.slice D l.length dc))
    change bodyPost _ _ _ _ _ ((w6.setCell ⟨(n0 + 1), 0, none⟩ (.slice A4 im.length c4)).setCell ⟨(n0 + 1), 1, none⟩ (.slice D l.length dc))
    generalize (w6.setCell ⟨(n0 + 1), 0, none⟩ (.slice A4 im.length c4)).setCell ⟨(n0 + 1), 1, none⟩ (.slice D l.length dc) = W3 at hz hbe hse ⊢
    obtain ⟨z0, z1, _⟩ := blk2 hz
    refine bodyPost_ret (v := .tuple #[.agg #[(.slice A4 im.length c4), (.slice D l.length dc)], .int .i64 0]) ?_ rfl ?_
    · simp [results, Tryz.results10, Tryz.f10, go_sem, z0, z1]
    rw [hE.out, hS.out]
    have e : setLast l (fun d => foldL (contL im ws ++ d)) = l := by rw [HL0.out]; rfl
    rw [e]
    exact ⟨A4, c4, D, dc, mid, by rw [hpl], hse.low (by omega), by rw [hn0]; exact hbe⟩
  · have hg0 : decide (0 < l.length) = true := decide_eq_true (by omega)
    have hlt : l.length - 1 < l.length := by omega
    obtain ⟨g, cs, rfl, hg1, hg2, hg3, hcell, hfz, hrd⟩ := hO4.out.1.elem (i := l.length - 1) hlt
    have hgob : Hid (g ≠ ob) := fun e => hO4.out.2 g rfl e
    have hset := setLast_set (l := l) (by omega) (fun d => foldL (contL im ws ++ d))
    have hsvl := HSV.out l[l.length - 1] (List.getElem_mem hlt)
    obtain ⟨x, hx⟩ : ∃ x, l[l.length - 1] = x := ⟨_, rfl⟩
    rw [hx] at hrd hset hsvl
    obtain ⟨num, tm, sv⟩ := x
    obtain ⟨Dx, dx, rfl, i1, i2, j1, j2, j3⟩ := snp_cs hrd
    simp only at i1 i2 j1 j2 j3 hset hsvl
    have d0 := hcell 0 _ rfl
    have d1 := hcell 1 _ rfl
    have d2 := hcell 2 _ rfl
    simp only [show encSnp.size = 3 from rfl, Nat.add_zero] at d0 d1 d2
    have HSET := Lib.hid hset
    have HI := Lib.hid (And.intro i1 i2)
    have e4 : ((l.length : Int) - 1).toNat = l.length - 1 := by omega
    have e5 : (1 : Int) ≤ l.length := by omega
    clear hcell hrd hset hx i1 i2
    go_upto_region 11 with (fail)
    obtain ⟨ib, hib⟩ : ∃ ib, w4.heap.size = ib := ⟨_, rfl⟩
    obtain ⟨w5, hw5⟩ : ∃ w5, w4.alloc (.cells #[.int .i64 num, .int .i64 tm, .slice Dx sv.length dx] 87) = w5 := ⟨_, rfl⟩
    rw [hw5, hib]
    have hb5 : Below w4.heap.size w4 w5 := by rw [← hw5]; exact ext_alloc (Below.refl _ _)
    have hr5 : w5.heap[ib]? = some (.cells #[.int .i64 num, .int .i64 tm, .slice Dx sv.length dx] 87 (0, 0)) := by rw [← hw5, ← hib]; exact heap_alloc_new _ _
    have hs5 : ib < w5.heap.size := (Array.getElem?_eq_some_iff.1 hr5).1
    have hb05 : Below W0.heap.size W0 w5 := ext_trans hb04 hb5
    have hbw5 : Below n0 w w5 := hB0.trans (hb05.mono (by omega))
    have HCT := Lib.hid (contents_any A A3 c c3 im.length ws.length im ws w5 rfl rfl ((H1.out w5 (by rw [hn0]; exact hbw5)).more (fun g hg => hBL.out w5 g hbw5 hg)) ((H3.out w5 (by rw [hn0]; exact hbw5)).more (fun g hg => hBL.out w5 g hbw5 hg)) hl1 (by omega) hfit.out HLM.out.row)
    have hj3 : Hid (SlAt encWr w5 (Bl w5.heap.size) Dx sv) := (j3.blk (w' := w5) (fun g hg => hb5.block g hg.1.2)).more (fun g hg => by have := hg.1.2; show g < w5.heap.size; omega)
    obtain ⟨c0, c1⟩ := HCC.out w5 hb05
    have HDD := Lib.hid (And.intro d0 (And.intro d1 d2))
    clear hw5 o0 o1 d0 d1 d2 j3
    go_wp2_with fail
    refine HCT.out.mono ?_
    rintro e w6 ⟨A7, c7, rfl, t1, t2, t3, hb6⟩
    have hr6 := (hb6.block ib hs5).trans hr5
    have hz6 := hb6.size
    have hsv7 := save_any ib num tm A7 Dx c7 dx ws.length (contL im ws) sv w6 (by simp [contL]) hr6 (t3.more (fun g hg => hg.2)) (hj3.out.fwd hb6) ⟨t1, t2⟩ ⟨j1, j2⟩ (by omega)
    obtain ⟨rr, hrr⟩ : ∃ rr, foldL (contL im ws ++ sv) = rr := ⟨_, rfl⟩
    rw [hrr] at hsv7 HSET
    have HSV7 := Lib.hid hsv7
    clear HCT t3 hsv7 c0 c1 hr5 hrr
    go_wp2_with fail
    refine HSV7.out.mono ?_
    rintro e w7 ⟨A8, c8, rfl, hr7, ⟨u1, u2, u3⟩, hg7⟩
    have hz7 := hg7.size
    have hk7 : ∀ b, b < ib → w7.heap[b]? = w4.heap[b]? := fun b hb => (hg7.block b (by omega) (fun e => by injection e with e; omega)).trans ((hb6.block b (by omega)).trans (hb5.block b (by omega)))
    have hro7 := (hk7 ob (by omega)).trans hr4
    have hO7 : Hid (OwnX (fun g => g = ob) encSnp w7 mid 76 (.slice (some ⟨g, 0, none⟩) l.length dc) l) := hO4.out.keep (by omega) (fun b _ hb _ => hk7 b (by omega))
    have hO8 : Hid (OwnX (fun g => g = ob) encSnp (st3 w7 g (l.length - 1) (.int .i64 num) (.int .i64 tm) (.slice A8 rr.length c8)) mid 76 (.slice (some ⟨g, 0, none⟩) l.length dc) (l.set (l.length - 1) (num, tm, rr))) :=
      hO7.out.storeS hlt HI.out.1 HI.out.2 u1 u2 (u3.more (fun b hb => ⟨⟨by have := hb.1; omega, hb.2⟩, by have := hb.1; omega, by have := hb.1; omega⟩))
    have hB7 : Below n0 w w7 := hbw5.trans ⟨hg7.os.trans hb6.os, hg7.tape.trans hb6.tape, hg7.output.trans hb6.output, Nat.le_trans hz6 hz7, fun b hb => (hg7.block b (by omega) (fun e => by injection e with e; omega)).trans (hb6.block b (by omega))⟩
    have hB07 : Below W0.heap.size W0 w7 := hb05.trans ⟨hg7.os.trans hb6.os, hg7.tape.trans hb6.tape, hg7.output.trans hb6.output, Nat.le_trans hz6 hz7, fun b hb => (hg7.block b (by have := hb04.size; omega) (fun e => by have := hb04.size; injection e with e; omega)).trans (hb6.block b (by have := hb04.size; omega))⟩
    have hA7 : Hid (SlAt (encSl encSec) (st3 w7 g (l.length - 1) (.int .i64 num) (.int .i64 tm) (.slice A8 rr.length c8)) (Nw w1.heap.size mid) A4 im2) := HA4.out.blk (fun b hb => (st3_other (by have := hb.2; omega)).trans (hk7 b (by have := hb.2; omega)))
    have hgz : g < w4.heap.size := hg2
    have hmg : Hid (mid ≤ g) := hg1
    have hfz7 : ∀ j, w7.frozen? ⟨g, j, none⟩ = false := fun j => (World.frozen?_of_block (a := ⟨g, j, none⟩) (hk7 g (by omega))).trans (hfz j)
    have hB8 : Below n0 w (st3 w7 g (l.length - 1) (.int .i64 num) (.int .i64 tm) (.slice A8 rr.length c8)) := ((hB7.setCell (p := ⟨g, (l.length - 1) * 3, none⟩) (by show n0 ≤ g; have := hmg.out; omega) _).setCell (p := ⟨g, (l.length - 1) * 3 + 1, none⟩) (by show n0 ≤ g; have := hmg.out; omega) _).setCell (p := ⟨g, (l.length - 1) * 3 + 2, none⟩) (by show n0 ≤ g; have := hmg.out; omega) _
    have hB08 : Below W0.heap.size W0 (st3 w7 g (l.length - 1) (.int .i64 num) (.int .i64 tm) (.slice A8 rr.length c8)) := ((hB07.setCell (p := ⟨g, (l.length - 1) * 3, none⟩) (by show W0.heap.size ≤ g; have := hmg.out; have := hb02.size; omega) _).setCell (p := ⟨g, (l.length - 1) * 3 + 1, none⟩) (by show W0.heap.size ≤ g; have := hmg.out; have := hb02.size; omega) _).setCell (p := ⟨g, (l.length - 1) * 3 + 2, none⟩) (by show W0.heap.size ≤ g; have := hmg.out; have := hb02.size; omega) _
    have hro8 : (st3 w7 g (l.length - 1) (.int .i64 num) (.int .i64 tm) (.slice A8 rr.length c8)).heap[ob]? = some (.cells #[.slice B im.length vc, .slice (some ⟨g, 0, none⟩) l.length dc] 26 (0, 0)) := (st3_other (fun e => hgob.out e.symm)).trans hro7
    obtain ⟨o0, o1, _⟩ := blk2 hro7
    obtain ⟨x0, x1, x2, _⟩ := blk3 hr7
    have f0 := hfz7 ((l.length - 1) * 3)
    have f1 := hfz7 ((l.length - 1) * 3 + 1)
    have f2 := hfz7 ((l.length - 1) * 3 + 2)
    have hkg := hk7 g (by omega)
    have d0 := (World.cell?_of_block (a := ⟨g, (l.length - 1) * 3, none⟩) hkg).trans HDD.out.1
    have d1 := (World.cell?_of_block (a := ⟨g, (l.length - 1) * 3 + 1, none⟩) hkg).trans HDD.out.2.1
    have d2 := (World.cell?_of_block (a := ⟨g, (l.length - 1) * 3 + 2, none⟩) hkg).trans HDD.out.2.2
    clear HSV7 u3 hg7 hfz hfz7 hro7 hkg
    go_upto_region 13 with (fail)
    change Code.wp _ _ _ _ (st3 w7 g (l.length - 1) (.int .i64 num) (.int .i64 tm) (.slice A8 rr.length c8))
    generalize st3 w7 g (l.length - 1) (.int .i64 num) (.int .i64 tm) (.slice A8 rr.length c8) = w8 at hO8 hA7 hB8 hB08 hro8 ⊢
    clear o0 o1 x0 x1 x2 f0 f1 f2 d0 d1 d2 e4 e5
    obtain ⟨o0, o1, of⟩ := blk2 hro8
    have hro6 := blk2_0 hro8 (.slice A4 im.length c4)
    have hrz6 : (w8.setCell ⟨ob, 0, none⟩ (.slice A4 im.length c4)).heap[n0 + 1]? = some (.cells #[.slice none 0 0, .slice none 0 0] 26 (0, 0)) := (heap_setCell_other w8 ⟨ob, 0, none⟩ (n0 + 1) (.slice A4 im.length c4) (by show n0 + 1 ≠ ob; omega)).trans (HRZ.out w8 hB08)
    have hO6 := Lib.hid ((hO8.out).set (p := ⟨ob, 0, none⟩) rfl (.slice A4 im.length c4))
    have hA6 : Hid (SlAt (encSl encSec) (w8.setCell ⟨ob, 0, none⟩ (.slice A4 im.length c4)) (Nw w1.heap.size mid) A4 im2) := (hA7.out).blk (fun g hg => heap_setCell_other _ _ _ _ (by have := hg.2; show g ≠ ob; omega))
    have hB6 : Below n0 w (w8.setCell ⟨ob, 0, none⟩ (.slice A4 im.length c4)) := (hB8).setCell (p := ⟨ob, 0, none⟩) (by show n0 ≤ ob; omega) _
    have hz6 : mid ≤ (w8.setCell ⟨ob, 0, none⟩ (.slice A4 im.length c4)).heap.size := by have := (hB8).size; have := (Array.getElem?_eq_some_iff.1 hro8).1; simp [World.setCell]; omega
    go_upto_region 14 with (fail)
    generalize w8.setCell ⟨ob, 0, none⟩ (.slice A4 im.length c4) = w6 at hro6 hrz6 hO6 hA6 hB6 hz6 ⊢
    clear o0 o1 of
    obtain ⟨o0, o1, _⟩ := blk2 hro6
    obtain ⟨q0, q1, qf⟩ := blk2 hrz6
    go_wp2_with fail
    have hz := blk2_set hrz6 (.slice A4 im.length c4) (.slice (some ⟨g, 0, none⟩) l.length dc)
    have hbe := ((hB6.setCell (p := ⟨n0 + 1, 0, none⟩) (by show n0 ≤ n0 + 1; omega) (.slice A4 im.length c4)).setCell (p := ⟨n0 + 1, 1, none⟩) (by show n0 ≤ n0 + 1; omega) (.slice (some ⟨g, 0, none⟩) l.length dc))
    have hse := (((show SnRet im2 (l.set (l.length - 1) (num, tm, rr)) A4 c4 (some ⟨g, 0, none⟩) dc mid w1.heap.size w6 from ⟨a1, a2, by omega, hz6, hA6.out, by have := hO6.out.var (X' := fun _ => False) (fun g hg => hg.elim); simpa using this⟩).set (p := ⟨n0 + 1, 0, none⟩) (by show n0 + 1 < w1.heap.size; omega) (.slice A4 im.length c4)).set (p := ⟨n0 + 1, 1, none⟩) (by show n0 + 1 < w1.heap.size; omega) (.slice (some ⟨g, 0, none⟩) l.length dc))
    change bodyPost _ _ _ _ _ ((w6.setCell ⟨(n0 + 1), 0, none⟩ (.slice A4 im.length c4)).setCell ⟨(n0 + 1), 1, none⟩ (.slice (some ⟨g, 0, none⟩) l.length dc))
    generalize (w6.setCell ⟨(n0 + 1), 0, none⟩ (.slice A4 im.length c4)).setCell ⟨(n0 + 1), 1, none⟩ (.slice (some ⟨g, 0, none⟩) l.length dc) = W3 at hz hbe hse ⊢
    obtain ⟨z0, z1, _⟩ := blk2 hz
    refine bodyPost_ret (v := .tuple #[.agg #[(.slice A4 im.length c4), (.slice (some ⟨g, 0, none⟩) l.length dc)], .int .i64 0]) ?_ rfl ?_
    · simp [results, Tryz.results10, Tryz.f10, go_sem, z0, z1]
    rw [hE.out, hS.out]
    rw [HSET.out]
    exact ⟨A4, c4, some ⟨g, 0, none⟩, dc, mid, by rw [hpl, List.length_set], hse.low (by omega), by rw [hn0]; exact hbe⟩
end Go.Proofs.YtgmeghandjkkcaaGreat
