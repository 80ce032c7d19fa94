/-
  clone.Write: the walk.
-/
import Derived.BigQuiet
import Derived.Test.YtgndgkjefgjamaaGreatZ01
import Derived.Test.YtgndgkjefgjamaaGreatZ02
import Derived.Test.YtgndgkjefgjamaaGreatZ03
import Derived.Test.YtgndgkjefgjamaaGreatZ04
import Derived.Test.YtgndgkjefgjamaaGreatZ05
import Derived.Test.YtgndgkjefgjamaaGreatZ06
import Derived.Test.YtgndgkjefgjamaaGreatZ07
import Derived.Test.YtgndgkjefgjamaaGreatZ08
import Derived.Test.YtgndgkjefgjamaaGreatZ09
import Derived.Test.YtgndgkjefgjamaaGreatZ10
import Derived.Test.YtgndgkjefgjamaaGreatZ11
import Derived.Test.YtgndgkjefgjamaaGreatZ12
import Derived.Test.YtgndgkjefgjamaaGreatZ13
set_option linter.unusedVariables false
set_option linter.unusedSimpArgs false
set_option linter.unusedSectionVars false
set_option linter.unnecessarySimpa false
namespace Go.Proofs.YtgndgkjefgjamaaGreat
open Go.RowKit Go.Shelf
attribute [local go_sem] Oper.semAt_some

theorem Own.lowC {α : Type} {E : Enc α} {w : World} {base lo : Nat} {e : TypeId} {S : Nat → Prop} {v : Value} {l : List α} (h : Own E w base e S v l) (hl : lo ≤ base) : Own E w lo e S v l := by
  obtain ⟨css, ⟨h0, h1⟩, h2, h3⟩ := h
  refine ⟨css, ⟨h0, ?_⟩, h2, h3⟩
  rcases h1 with h1 | ⟨g, cap, cur, e1, hg, r⟩
  · exact Or.inl h1
  · exact Or.inr ⟨g, cap, cur, e1, Nat.le_trans hl hg, r⟩
theorem cls_sl {w : World} {lo g : Nat} {G : Option Addr} {ys : List CB} {S : Nat → Prop} (h : Own encCB w lo 87 (fun _ => False) (.slice G ys.length g) ys) (hov : ∀ (i : Nat) (y : CB), ys[i]? = some y → y.1.2.2.length ≤ y.2.2.1 ∧ y.2.2.1 ≤ maxLen ∧ SlAt encWr w S y.2.1 y.1.2.2) (hg : ∀ b, (Value.slice G ys.length g).ownBlock = some b → S b) :
    ys.length ≤ g ∧ g ≤ maxLen ∧ SlAt encCln w S G (ys.map (·.1)) := by
  obtain ⟨A', c', he, h1, h2, h3⟩ := h.reads (S' := S) (fun b hb => hb.elim) hg
  simp only [List.cons.injEq, Value.slice.injEq, and_true] at he
  obtain ⟨rfl, _, rfl⟩ := he
  refine ⟨h1, h2, fun hne => ?_⟩
  have hn : ys ≠ [] := by intro e; rw [e] at hne; exact hne rfl
  obtain ⟨b, off, e, hb, hc⟩ := h3 hn
  refine ⟨b, off, e, hb, fun i x hx => ?_⟩
  rw [List.getElem?_map, Option.map_eq_some_iff] at hx
  obtain ⟨y, hy, rfl⟩ := hx
  obtain ⟨cs, hcs, hr⟩ := hc i y hy
  refine ⟨cs, hcs, ?_⟩
  obtain ⟨rfl, r1, r2⟩ := hr
  obtain ⟨c1, c2, c3⟩ := hov i y hy
  exact cln_mk r1 r2 c1 c2 c3
theorem setOv_at {l : List Cln} {k : Nat} {xn : ByteArray} {xnum : Int} {xs : List Wr} (hk : k < l.length) (h : l[k] = (xn, xnum, xs)) (f : List Wr → List Wr) : setOv l k f = l.set k (xn, xnum, f xs) := by
  unfold setOv
  rw [List.getElem?_eq_getElem hk, h]
set_option maxHeartbeats 4000000 in
set_option maxRecDepth 100000 in
theorem clWrite_any (A A2 A3 Dw : Option Addr) (c c2 c3 n m p dw wl : Nat) (im : Img) (l : List Snp) (cl : List Cln) (nm : ByteArray) (v s : Int) (data : List Sec) (w : World) (hn : im.length = n) (hm : l.length = m) (hp : cl.length = p) (hwl : data.length = wl) (h1 : SlAt (encSl encSec) w (Bl w.heap.size) A im) (h2 : SlAt encSnp w (Bl w.heap.size) A2 l) (h3 : SlAt encCln w (Bl w.heap.size) A3 cl) (h4 : SlAt encSec w (Bl w.heap.size) Dw data) (hL : ClLim (im, l) cl) (hvs : I64 v ∧ I64 s) (hdl : wl ≤ 1000000) (hdc : wl ≤ dw ∧ dw ≤ maxLen) :
    Calls Tryz.prog 19 #[.agg #[.slice A n c, .slice A2 m c2, .slice A3 p c3], .string nm, .agg #[.int .i64 v, .int .i64 s, .slice Dw wl dw]] w (RetCl (wrS ((im, l), cl) nm (v, s, data)) (wrE ((im, l), cl) nm (v, s, data)) w) := by
  subst hn hm hp hwl
  have h4' := h4
  obtain ⟨n0, hn0⟩ : ∃ n0, w.heap.size = n0 := ⟨_, rfl⟩
  obtain ⟨W0, hW0⟩ : ∃ W0, ((w.alloc (.cells #[.slice A im.length c, .slice A2 l.length c2, .slice A3 cl.length c3] 29)).alloc (.cells #[.int .i64 v, .int .i64 s, .slice Dw data.length dw] 45)).alloc (.cells #[.slice none 0 0, .slice none 0 0, .slice none 0 0] 29) = W0 := ⟨_, rfl⟩
  have hB0 : Below n0 w W0 := by rw [← hW0, ← hn0]; repeat (first | exact Below.refl _ _ | refine ext_alloc ?_)
  have hr0 : W0.heap[n0]? = some (.cells #[.slice A im.length c, .slice A2 l.length c2, .slice A3 cl.length c3] 29 (0, 0)) := by rw [← hW0, ← hn0]; exact (Below.heap_alloc _ _ _ (by simp; omega)).trans ((Below.heap_alloc _ _ _ (by simp)).trans (heap_alloc_new _ _))
  have hr1 : W0.heap[n0 + 1 + 1]? = some (.cells #[.slice none 0 0, .slice none 0 0, .slice none 0 0] 29 (0, 0)) := by rw [← hW0, ← hn0]; exact heap_new3 _ _ _ _
  obtain ⟨n2, hn2⟩ : ∃ n2, W0.heap.size = n2 := ⟨_, rfl⟩
  have hn02 : n0 + 1 + 1 < n2 := by rw [← hn2]; exact (Array.getElem?_eq_some_iff.1 hr1).1
  have up : ∀ {α : Type} {E : Enc α} {A : Option Addr} {l : List α}, SlAt E w (Bl w.heap.size) A l → ∀ W, Below n2 W0 W → SlAt E W (Bl W.heap.size) A l := fun h W hb => by
    rw [hn0] at h
    exact (h.blk (fun g hg => (hb.block g (by have : g < n0 := hg; omega)).trans (hB0.block g hg))).more (fun g hg => by have : g < n0 := hg; have := hb.size; show g < W.heap.size; omega)
  have H1 := Lib.hid (up h1)
  have H2 := Lib.hid (up h2)
  have H3 := Lib.hid (up h3)
  have HC : Hid (∀ W, Below n2 W0 W → W.cell? ⟨n0, 0, none⟩ = some (.slice A im.length c) ∧ W.cell? ⟨n0, 1, none⟩ = some (.slice A2 l.length c2) ∧ W.cell? ⟨n0, 2, none⟩ = some (.slice A3 cl.length c3)) := fun W hb => by
    obtain ⟨a, b, d, _⟩ := blk3 ((hb.block _ (by omega)).trans hr0)
    exact ⟨a, b, d⟩
  have HRR : Hid (∀ W, Below n2 W0 W → W.heap[n0 + 1 + 1]? = some (.cells #[.slice none 0 0, .slice none 0 0, .slice none 0 0] 29 (0, 0))) := fun W hb => (hb.block _ (by omega)).trans hr1
  have HROW0 : Hid (∀ W, Below n2 W0 W → W.heap[n0]? = some (.cells #[.slice A im.length c, .slice A2 l.length c2, .slice A3 cl.length c3] 29 (0, 0))) := fun W hb => (hb.block _ (by omega)).trans hr0
  have HBW : Hid (∀ W, Below n2 W0 W → Below w.heap.size w W) := fun W hb => by rw [hn0]; exact hB0.trans (hb.mono (by omega))
  have HN0 := Lib.hid hn0
  have HN2 := Lib.hid hn2
  have hN0 : n0 ≤ w.heap.size ∧ w.heap.size ≤ n0 := by omega
  have hl1 := hL.sn.ims
  have hl2 := hL.sn.its
  have hl3 := hL.its
  have HLM := Lib.hid hL
  simp only at hl1 hl2
  obtain ⟨s0, hs0⟩ : ∃ s0, clE ((im, l), cl) = s0 := ⟨_, rfl⟩
  have HCK := Lib.hid (fun W (hb : Below n2 W0 W) => clCheck_any A A2 A3 c c2 c3 im.length l.length cl.length im l cl s0 W rfl rfl rfl hs0 (H1.out W hb) (H2.out W hb) (H3.out W hb) hl1 (by omega) (by omega))
  have HOW := Lib.hid (fun W (hb : Below n2 W0 W) => own37_any A A2 A3 c c2 c3 im.length l.length cl.length im l cl W rfl rfl rfl (H1.out W hb) (H2.out W hb) (H3.out W hb) HLM.out)
  have HS0 := Lib.hid hs0
  have hB00 := Below.refl n2 W0
  obtain ⟨p0, p1, p2⟩ := HC.out W0 hB00
  clear h1 h2 h3 up hB0 hL hr0 hr1 hs0
  have HFI := Lib.hid (clFind_any A A2 A3 c c2 c3 im.length l.length cl.length im l cl nm W0 rfl rfl rfl (H1.out W0 hB00) (H2.out W0 hB00) (H3.out W0 hB00) HLM.out)
  have hrw : W0.heap[n0 + 1]? = some (.cells #[.int .i64 v, .int .i64 s, .slice Dw data.length dw] 45 (0, 0)) := by
    rw [← hW0, ← hn0]
    have h := heap_alloc_new (w.alloc (.cells #[.slice A im.length c, .slice A2 l.length c2, .slice A3 cl.length c3] 29)) (.cells #[.int .i64 v, .int .i64 s, .slice Dw data.length dw] 45)
    simp only [World.size_alloc] at h
    exact (Below.heap_alloc _ _ _ (by simp)).trans h
  have HWC : Hid (∀ W, Below n2 W0 W → W.cell? ⟨n0 + 1, 0, none⟩ = some (.int .i64 v) ∧ W.cell? ⟨n0 + 1, 1, none⟩ = some (.int .i64 s) ∧ W.cell? ⟨n0 + 1, 2, none⟩ = some (.slice Dw data.length dw)) := fun W hb => by
    obtain ⟨a, b, d, _⟩ := blk3 ((hb.block _ (by omega)).trans hrw)
    exact ⟨a, b, d⟩
  have H4 : Hid (∀ W, Below n2 W0 W → SlAt encSec W (Bl W.heap.size) Dw data) := fun W hb => (h4'.below (HBW.out W hb)).more (Bl.mono (HBW.out W hb).size)
  obtain ⟨fe, hfe⟩ : ∃ fe, fitsN (lens im) (v, s, data) = fe := ⟨_, rfl⟩
  have HFE := Lib.hid hfe
  clear h4 h4' hrw hfe
  go_enter Tryz.func19, Tryz.ntmps19
  go_wp2_with fail
  refine HFI.out.mono ?_
  intro e w1 hf
  rcases hf with ⟨q, hq0, hqe, rfl, hb1⟩ | ⟨k, B, vc, D, dc, g, gc, m1, m2, hE0, hN0', rfl, hcr, hb1⟩
  · rw [HN2.out] at hb1
    clear p0 p1 p2 HFI hn2 hn0 hW0
    obtain ⟨ob, hob⟩ : ∃ ob, w1.heap.size = ob := ⟨_, rfl⟩
    have hq0' : (q != 0) = true := by simp [hq0]
    have HE := Lib.hid hqe
    have HQ0 := Lib.hid hq0
    clear hq0 hqe
    obtain ⟨w2, hw2⟩ : ∃ w2, w1.alloc (.cells #[.slice none 0 0, .slice none 0 0, .slice none 0 0] 29) = w2 := ⟨_, rfl⟩
    have hb2 : Below n2 W0 w2 := by rw [← hw2]; exact hb1.alloc (by have := hb1.size; have := HN2.out; omega) _
    have HW2 := Lib.hid hw2
    clear hw2
    go_upto_region 2 with (fail)
    rw [HW2.out]
    clear HW2
    have HE2 : Hid (wrE ((im, l), cl) nm (v, s, data) = q) := by rw [Hid, wrE, HE.out, if_pos HQ0.out]
    have HT : Hid (wrS ((im, l), cl) nm (v, s, data) = zCls) := by rw [Hid, wrS, if_neg (by rw [HE2.out]; exact HQ0.out)]
    have hr2 := HRR.out w2 hb2
    obtain ⟨v0, v1, v2, vf⟩ := blk3 hr2
    go_wp2_with fail
    have hend := cl_end (w := w) (x := zCls) (A := none) (c := 0) (D := none) (d := 0) (G := none) (g := 0) hr2 (by omega) (HBW.out w2 hb2) ClAt.zero q
    obtain ⟨hz, hret⟩ := hend
    change bodyPost _ _ _ _ _ (sw3 w2 (n0 + 1 + 1) (.slice none (zCls).1.1.length 0) (.slice none (zCls).1.2.length 0) (.slice none (zCls).2.length 0))
    generalize sw3 w2 (n0 + 1 + 1) (.slice none (zCls).1.1.length 0) (.slice none (zCls).1.2.length 0) (.slice none (zCls).2.length 0) = W3 at hz hret ⊢
    obtain ⟨z0, z1, z2, _⟩ := blk3 hz
    refine bodyPost_ret (v := .tuple #[.agg #[.slice none (zCls).1.1.length 0, .slice none (zCls).1.2.length 0, .slice none (zCls).2.length 0], .int .i64 q]) ?_ rfl ?_
    · simp [results, Tryz.results19, Tryz.f19, go_sem, z0, z1, z2, zCls, zSns]
    rw [HT.out, HE2.out]; exact hret
  · rw [HN2.out] at hb1
    clear p0 p1 p2 HFI hn2 hn0 hW0
    obtain ⟨ob, hob⟩ : ∃ ob, w1.heap.size = ob := ⟨_, rfl⟩
    have HE := Lib.hid hE0
    obtain ⟨hck, hkl, hknm, hfd⟩ := cfE_ok hE0
    simp only at hkl hfd
    rw [hN0'] at hkl
    have HNK := Lib.hid hN0'
    have HCKE := Lib.hid hck
    obtain ⟨w2, hw2⟩ : ∃ w2, w1.alloc (.cells #[.slice B im.length vc, .slice D l.length dc, .slice (some ⟨g, 0, none⟩) cl.length gc] 29) = w2 := ⟨_, rfl⟩
    have hb12 : Below ob w1 w2 := by rw [← hw2, ← hob]; exact ext_alloc (Below.refl _ _)
    have hr2 : w2.heap[ob]? = some (.cells #[.slice B im.length vc, .slice D l.length dc, .slice (some ⟨g, 0, none⟩) cl.length gc] 29 (0, 0)) := by rw [← hw2, ← hob]; exact heap_alloc_new _ _
    have hle := hcr.le
    have hz1 := hb1.size
    have hN2 : n2 ≤ W0.heap.size ∧ W0.heap.size ≤ n2 := by have := HN2.out; omega
    have hz2 : ob < w2.heap.size := (Array.getElem?_eq_some_iff.1 hr2).1
    have hb2 : Below n2 W0 w2 := hb1.trans (hb12.mono (by omega))
    have hO2 : OwnX (fun b => b = ob) encCln w2 m2 87 (.slice (some ⟨g, 0, none⟩) cl.length gc) cl := (hcr.cl.var (X' := fun b => b = ob) (fun g hg => Or.inr (by rw [hob]; omega))).below (by rw [hob]; exact hb12)
    have HO2 := Lib.hid hO2
    have HCR := Lib.hid hcr
    obtain ⟨_, _, _, hS2⟩ := hO2.parts
    have hgl := hO2.lt g rfl
    have hgo : g ≠ ob := hO2.2 g rfl
    obtain ⟨b', off', Dx, dx, hA', hbS, g0, g1, g2, hDx, hd1, hd2, hi1, hi2⟩ := hS2.cln hkl
    injection hA' with hA'
    injection hA' with hA1 hA2
    subst hA1 hA2
    obtain ⟨xv, hxv⟩ : ∃ x, cl[k] = x := ⟨_, rfl⟩
    rw [hxv] at g0 g1 g2 hDx hd1 hi1 hi2
    have HXV : Hid (cAt ((im, l), cl) nm = xv) := by rw [Hid, cAt, hN0', List.getD_eq_getElem?_getD, List.getElem?_eq_getElem hkl]; exact hxv
    have HXM : Hid (xv ∈ cl) := by rw [Hid, ← hxv]; exact List.getElem_mem hkl
    obtain ⟨xn, xnum, xs⟩ := xv
    simp only [Nat.zero_add] at g0 g1 g2 hDx hd1 hi1 hi2
    obtain ⟨nq, hnq⟩ : ∃ nq, w2.heap.size = nq := ⟨_, rfl⟩
    have hnqs : nq ≤ w2.heap.size ∧ w2.heap.size ≤ nq := by omega
    have HOC : Hid (∀ W, Below nq w2 W → W.cell? ⟨ob, 0, none⟩ = some (.slice B im.length vc) ∧ W.cell? ⟨ob, 1, none⟩ = some (.slice D l.length dc) ∧ W.cell? ⟨ob, 2, none⟩ = some (.slice (some ⟨g, 0, none⟩) cl.length gc)) := fun W hb => by
      obtain ⟨a, b, d, _⟩ := blk3 ((hb.block ob (by omega)).trans hr2)
      exact ⟨a, b, d⟩
    have HXC : Hid (∀ W, Below nq w2 W → W.cell? ⟨g, k * 3, none⟩ = some (.string xn) ∧ W.cell? ⟨g, k * 3 + 1, none⟩ = some (.int .i64 xnum) ∧ W.cell? ⟨g, k * 3 + 2, none⟩ = some (.slice Dx xs.length dx)) := fun W hb => by
      have hgg : ∀ i, W.cell? ⟨g, i, none⟩ = w2.cell? ⟨g, i, none⟩ := fun i => World.cell?_of_block (hb.block g (by omega))
      exact ⟨(hgg _).trans g0, (hgg _).trans g1, (hgg _).trans g2⟩
    have HXS : Hid (∀ W, Below nq w2 W → SlAt encWr W (Bl W.heap.size) Dx xs) := fun W hb => (hDx.blk (fun x hx => hb.block x (by have := hx.1.2; omega))).more (fun x hx => by have := hx.1.2; have := hb.size; show x < W.heap.size; omega)
    have HIM : Hid (∀ W, Below nq w2 W → SlAt (encSl encSec) W (Bl W.heap.size) B im ∧ SlAt encSnp W (Bl W.heap.size) D l) := fun W hb => by
      have hz := hb.size
      exact ⟨(HCR.out.im.2.2.blk (fun x hx => (hb.block x (by have := hx.2; omega)).trans (hb12.block x (by have := hx.2; omega)))).more (fun x hx => by have := hx.2; show x < W.heap.size; omega), (HCR.out.sn.2.2.blk (fun x hx => (hb.block x (by have := hx.2; omega)).trans (hb12.block x (by have := hx.2; omega)))).more (fun x hx => by have := hx.2; show x < W.heap.size; omega)⟩
    have HBQ : Hid (∀ W, Below nq w2 W → Below n2 W0 W) := fun W hb => hb2.trans (hb.mono (by omega))
    have HCAP := Lib.hid (And.intro HCR.out.im.1 (And.intro HCR.out.im.2.1 (And.intro HCR.out.sn.1 HCR.out.sn.2.1)))
    have HW2 := Lib.hid hw2
    have hk0 : (0 : Int) ≤ k := by omega
    have hk9 : (k : Int) ≤ 9223372036854775806 := by omega
    have hckl : cl.length ≤ 16 := (clE_ok hck).2.1
    clear hw2 hcr hO2 hS2 hE0 hck hknm hfd hN0' g0 g1 g2 hDx hnq hxv hbS
    go_upto_region 2 with (fail)
    rw [HW2.out]
    clear HW2
    obtain ⟨hf1, hf2, hf3⟩ := clE_fits HCKE.out
    obtain ⟨hf4, hf5⟩ := hf3 _ HXM.out
    simp only at hf4 hf5
    have HF1 := Lib.hid hf1
    have HF5 := Lib.hid hf5
    have HFT := Lib.hid (imgFits_any B vc im.length im v s Dw dw data.length data w2 rfl rfl (HIM.out w2 (Below.refl _ _)).1 (by omega) hf1 (by omega) hvs.1 hvs.2 fe HFE.out)
    obtain ⟨q0, q1, q2⟩ := HOC.out w2 (Below.refl _ _)
    obtain ⟨y0, y1, y2⟩ := HWC.out w2 hb2
    clear hf1 hf2 hf3 hf4 hf5
    go_wp2_with fail
    refine HFT.out.mono ?_
    rintro e w3 ⟨rfl, hb3⟩
    have hbq3 : Below nq w2 w3 := hb3.mono (by omega)
    have hb3' := HBQ.out w3 hbq3
    clear q0 q1 q2 y0 y1 y2 HFT
    by_cases hfe0 : fe = 0
    case neg =>
      have hfe' : (fe != 0) = true := by simp [hfe0]
      have HE2 : Hid (wrE ((im, l), cl) nm (v, s, data) = fe) := by rw [Hid, wrE, HE.out, if_neg (by simp)]; exact HFE.out
      have HT : Hid (wrS ((im, l), cl) nm (v, s, data) = zCls) := by rw [Hid, wrS, if_neg (by rw [HE2.out]; exact hfe0)]
      clear hfe0
      have hr3 := HRR.out w3 hb3'
      obtain ⟨v0, v1, v2, vf⟩ := blk3 hr3
      go_wp2_with fail
      have hend := cl_end (w := w) (x := zCls) (A := none) (c := 0) (D := none) (d := 0) (G := none) (g := 0) hr3 (by omega) (HBW.out w3 hb3') ClAt.zero fe
      obtain ⟨hz, hret⟩ := hend
      change bodyPost _ _ _ _ _ (sw3 w3 (n0 + 1 + 1) (.slice none (zCls).1.1.length 0) (.slice none (zCls).1.2.length 0) (.slice none (zCls).2.length 0))
      generalize sw3 w3 (n0 + 1 + 1) (.slice none (zCls).1.1.length 0) (.slice none (zCls).1.2.length 0) (.slice none (zCls).2.length 0) = W3 at hz hret ⊢
      obtain ⟨z0, z1, z2, _⟩ := blk3 hz
      refine bodyPost_ret (v := .tuple #[.agg #[.slice none (zCls).1.1.length 0, .slice none (zCls).1.2.length 0, .slice none (zCls).2.length 0], .int .i64 fe]) ?_ rfl ?_
      · simp [results, Tryz.results19, Tryz.f19, go_sem, z0, z1, z2, zCls, zSns]
      rw [HT.out, HE2.out]; exact hret
    have hfe' : (fe != 0) = false := by simp [hfe0]
    have HE2 : Hid (wrE ((im, l), cl) nm (v, s, data) = 0) := by rw [Hid, wrE, HE.out, if_neg (by simp)]; exact HFE.out.trans hfe0
    have hfit : fitsN (lens im) (v, s, data) = 0 := HFE.out.trans hfe0
    subst hfe0
    obtain ⟨rr, hrr⟩ : ∃ rr, foldL (xs ++ [(v, s, data)]) = rr := ⟨_, rfl⟩
    have hpl : errOf placedN (xs ++ [(v, s, data)]) = 0 := errOf_zero (fun x hx => by
      rcases List.mem_append.1 hx with hx | hx
      · exact fits_placed1 HF1.out (HF5.out x hx)
      · rw [List.mem_singleton.1 hx]; exact fits_placed1 HF1.out hfit)
    have hxl : xs.length ≤ 100000 := (HLM.out.ovl _ HXM.out).1
    -- the overlay's own memory
    obtain ⟨ys, hym, hyo⟩ := HCR.out.ow
    have hyo2 : ClsOwn w2 m2 (some ⟨g, 0, none⟩) gc ys := hyo.keep (by omega) (fun x h1 h2 => hb12.block x (by omega))
    have hyl : ys.length = cl.length := by rw [← hym, List.length_map]
    have hky : k < ys.length := by omega
    have hclk : cl[k] = (xn, xnum, xs) := by
      have h := HXV.out
      rw [cAt, HNK.out, List.getD_eq_getElem?_getD, List.getElem?_eq_getElem hkl] at h
      exact h
    have hy1 : (ys[k]).1 = (xn, xnum, xs) := by rw [← hclk]; simp [← hym]
    obtain ⟨ha1, hb1', hoi, hgn⟩ := hyo2.ov ys[k] (List.getElem_mem hky)
    have hb1w := (hyo.ov ys[k] (List.getElem_mem hky)).2.1
    obtain ⟨yk, hyk⟩ : ∃ y, ys[k] = y := ⟨_, rfl⟩
    rw [hyk] at hy1 ha1 hb1' hoi hgn hb1w
    obtain ⟨yc, D', d', ia, ib⟩ := yk
    obtain rfl : yc = (xn, xnum, xs) := hy1
    simp only at ha1 hb1' hoi hgn hb1w
    have hcellk : Dx = D' ∧ dx = d' := by
      obtain ⟨A', c', he, _, _, h3⟩ := hyo2.own.reads (S' := fun _ => True) (fun _ h => h.elim) (fun _ _ => trivial)
      simp only [List.cons.injEq, Value.slice.injEq, and_true] at he
      obtain ⟨rfl, _, rfl⟩ := he
      obtain ⟨bb, oo, cs, e, _, hcs, hr⟩ := h3.at_ hky
      injection e with e
      injection e with e1 e2
      subst e1 e2
      rw [hyk] at hr
      obtain ⟨rfl, _, _⟩ := hr
      have h9 := hcs 2 _ rfl
      rw [show 0 + k * encCB.size + 2 = k * 3 + 2 by show 0 + k * 3 + 2 = _; omega, (HXC.out w2 (Below.refl _ _)).2.2] at h9
      simp only [Option.some.injEq, Value.slice.injEq] at h9
      exact ⟨h9.1, h9.2.2⟩
    obtain ⟨rfl, rfl⟩ := hcellk
    have hgab : ¬ Nw ia ib g := hgn g rfl
    have HOI := Lib.hid hoi
    have hownlt : ∀ b, (Value.slice Dx xs.length dx).ownBlock = some b → Nw ia ib b := fun b hb => ⟨(hoi.1.lt b hb).1, hoi.2 b hb⟩
    have HOL := Lib.hid hownlt
    have HYO := Lib.hid hyo2
    have HYK := Lib.hid hyk
    have HYM := Lib.hid hym
    have HPL := Lib.hid hpl
    have HFO := Lib.hid hrr
    have HCLK := Lib.hid hclk
    have hibq : ib ≤ nq := by omega
    have HSX : Hid (∀ W, (Below m2 w2 W ∧ ∀ x, x < nq → ¬ Nw ia ib x → W.heap[x]? = w2.heap[x]?) → W.cell? ⟨g, k * 3 + 2, none⟩ = some (.slice Dx xs.length dx)) := fun W hW => (World.cell?_of_block (hW.2 g (by omega) hgab)).trans (HXC.out w2 (Below.refl _ _)).2.2
    have hSw : Below m2 w2 w3.drew ∧ ∀ x, x < nq → ¬ Nw ia ib x → w3.drew.heap[x]? = w2.heap[x]? := ⟨(hb3.mono (by omega)).drew, fun x hx _ => hb3.block x (by omega)⟩
    have hz3 := hb3.size
    clear hoi hownlt hyo hyo2 hyk hym hpl hrr hclk hgn hfit
    go_upto_region 7 with (fail)
    go_cut [12, 10] (fun e f wx => f = .int .i64 0 ∧ ∃ A8 c8, e = .slice A8 rr.length c8 ∧ rr.length ≤ c8 ∧ c8 ≤ maxLen ∧ SlAt encWr wx (Nw nq wx.heap.size) A8 rr ∧ Below m2 w2 wx ∧ ∀ x, x < nq → ¬ Nw ia ib x → wx.heap[x]? = w2.heap[x]?)
    case first =>
      refine wp_region_U (fun W' => Below m2 w2 W' ∧ ∀ x, x < nq → ¬ Nw ia ib x → W'.heap[x]? = w2.heap[x]?) 14 (by kernel_rfl) ?_
      refine wpAnyU_takeD (i := 0) (v := ?_) rfl rfl (by kernel_rfl) (by kernel_rfl) (by kernel_rfl) (by kernel_rfl) (fun _ _ _ h => h) (by rfl) ?_ hSw ?_
      rotate_left 1
      · intro W9 hW9
        try dsimp only at hW9
        obtain _ := trivial
        go_simp
        try with_reducible rfl
      try simp only [List.setIfInBounds_toArray, List.set_cons_zero, List.set_cons_succ]
      refine wpAnyU_takeD (i := 1) (v := ?_) rfl rfl (by kernel_rfl) (by kernel_rfl) (by kernel_rfl) (by kernel_rfl) (fun _ _ _ h => h) (by rfl) ?_ hSw ?_
      rotate_left 1
      · intro W9 hW9
        try dsimp only at hW9
        obtain _ := trivial
        go_simp
        try with_reducible rfl
      try simp only [List.setIfInBounds_toArray, List.set_cons_zero, List.set_cons_succ]
      refine wpAnyU_takeD (i := 2) (v := ?_) rfl rfl (by kernel_rfl) (by kernel_rfl) (by kernel_rfl) (by kernel_rfl) (fun _ _ _ h => h) (by rfl) ?_ hSw ?_
      rotate_left 1
      · intro W9 hW9
        try dsimp only at hW9
        obtain _ := trivial
        go_simp
        try with_reducible rfl
      try simp only [List.setIfInBounds_toArray, List.set_cons_zero, List.set_cons_succ]
      refine wpAnyU_takeD (i := 3) (v := ?_) rfl rfl (by kernel_rfl) (by kernel_rfl) (by kernel_rfl) (by kernel_rfl) (fun _ _ _ h => h) (by rfl) ?_ hSw ?_
      rotate_left 1
      · intro W9 hW9
        try dsimp only at hW9
        obtain q2 := HSX.out W9 hW9
        go_simp
        try with_reducible rfl
      try simp only [List.setIfInBounds_toArray, List.set_cons_zero, List.set_cons_succ]
      obtain ⟨y0, y1, y2⟩ := HWC.out w3 hb3'
      refine wpAnyU_op (i := 4) (by kernel_rfl) rfl rfl (fun K hK => ?_)
      go_simp
      refine hK.out _ _ (fun _ => hSw) ?_
      clear hK K
      try simp only [Act.put, List.setIfInBounds_toArray, List.set_cons_zero, List.set_cons_succ]
      clear y0 y1 y2
      have hS5 : Below m2 w2 (w3.drew.alloc (.cells #[.int .i64 v, .int .i64 s, .slice Dw data.length dw] 45)) ∧ ∀ x, x < nq → ¬ Nw ia ib x → (w3.drew.alloc (.cells #[.int .i64 v, .int .i64 s, .slice Dw data.length dw] 45)).heap[x]? = w2.heap[x]? := ⟨hSw.1.alloc (by have := hSw.1.size; omega) _, fun x hx hn => (Below.heap_alloc _ _ _ (by show x < w3.heap.size; omega)).trans (hSw.2 x hx hn)⟩
      refine wpAnyU_op (i := 5) (by kernel_rfl) rfl rfl (fun K hK => ?_)
      go_simp
      refine hK.out _ _ (fun _ => hS5) ?_
      clear hK K
      try simp only [Act.put, List.setIfInBounds_toArray, List.set_cons_zero, List.set_cons_succ]
      have hr5 : (w3.drew.alloc (.cells #[.int .i64 v, .int .i64 s, .slice Dw data.length dw] 45)).heap[w3.heap.size]? = some (.cells #[.int .i64 v, .int .i64 s, .slice Dw data.length dw] 45 (0, 0)) := heap_alloc_new w3.drew _
      have hk5 : ∀ x, x < w3.heap.size → (w3.drew.alloc (.cells #[.int .i64 v, .int .i64 s, .slice Dw data.length dw] 45)).heap[x]? = w3.heap[x]? := fun x hx => Below.heap_alloc w3.drew _ x hx
      change wpAnyU _ _ _ _ _ _ _ _ _ (w3.drew.alloc (.cells #[.int .i64 v, .int .i64 s, .slice Dw data.length dw] 45))
      generalize w3.drew.alloc (.cells #[.int .i64 v, .int .i64 s, .slice Dw data.length dw] 45) = W5 at hS5 hr5 hk5 ⊢
      have hl5 : w3.heap.size < W5.heap.size := (Array.getElem?_eq_some_iff.1 hr5).1
      have hSl5 : SlAt encWr W5 (Bl W5.heap.size) (some ⟨w3.heap.size, 0, none⟩) [(v, s, data)] :=
        litSl36 (E := encWr) (S0 := Bl w3.heap.size) (css := [[.int .i64 v, .int .i64 s, .slice Dw data.length dw]]) hr5 rfl ⟨wr_mk (x := (v, s, data)) hvs.1 hvs.2 hdc.1 hdc.2 ((H4.out w3 hb3').blk (fun x hx => hk5 x hx)), trivial⟩ (fun b hb => by have : b < w3.heap.size := hb; show b < W5.heap.size; omega) hl5
      have HCW := Lib.hid (clWrites_any (some ⟨w3.heap.size, 0, none⟩) 1 1 [(v, s, data)] W5 rfl hSl5 (by decide) (fun x hx => by rw [List.mem_singleton.1 hx]; exact hdl))
      clear hSl5
      refine wpAnyU_op (i := 6) (by kernel_rfl) rfl rfl (fun K hK => ?_)
      go_wp2_with fail
      refine (HCW.out).mono ?_
      rintro e w6 ⟨A6, c6, rfl, hox6, hb6⟩
      refine hK.out _ _ (fun _ => (show Below m2 w2 w6 ∧ ∀ x, x < nq → ¬ Nw ia ib x → w6.heap[x]? = w2.heap[x]? from ⟨hS5.1.trans (hb6.mono (by have := hS5.1.size; omega)), fun x hx hn => (hb6.block x (by have := hS5.1.size; omega)).trans (hS5.2 x hx hn)⟩)) ?_
      clear hK K
      try simp only [Act.put, List.setIfInBounds_toArray, List.set_cons_zero, List.set_cons_succ]
      have hS6 : Below m2 w2 w6 ∧ ∀ x, x < nq → ¬ Nw ia ib x → w6.heap[x]? = w2.heap[x]? := ⟨hS5.1.trans (hb6.mono (by have := hS5.1.size; omega)), fun x hx hn => (hb6.block x (by have := hS5.1.size; omega)).trans (hS5.2 x hx hn)⟩
      have hz6 := hb6.size
      have hz5 := hS5.1.size
      have hSl6 := hox6.parts.2.2.2
      have hoi6 : OwnIn w6 ia ib (.slice Dx xs.length dx) xs := HOI.out.keep (fun x hx => (hb6.block x (by have := hx.2; omega)).trans ((hk5 x (by have := hx.2; omega)).trans (hb3.block x (by have := hx.2; omega))))
      have hOwn6 : Own encWr w6 m2 45 (fun b => (Nw ia ib b ∨ Nw W5.heap.size w6.heap.size b) ∧ (Value.slice Dx xs.length dx).ownBlock ≠ some b) (.slice Dx xs.length dx) xs := (hoi6.1.more (fun b hb => ⟨Or.inl hb.1, hb.2⟩) (fun b hb hS => hS.2 hb)).lowC ha1
      have hSl6' : SlAt encWr w6 (fun b => (Nw ia ib b ∨ Nw W5.heap.size w6.heap.size b) ∧ (Value.slice Dx xs.length dx).ownBlock ≠ some b) A6 [(v, s, data)] := hSl6.more (fun b hb => ⟨Or.inr hb.1, fun e => by have := (HOL.out b e).2; have := hb.1.1; omega⟩)
      have hSb : ∀ b, ((Nw ia ib b ∨ Nw W5.heap.size w6.heap.size b) ∧ (Value.slice Dx xs.length dx).ownBlock ≠ some b) → b < w6.heap.size := fun b hb => by
        rcases hb.1 with h | h
        · have := h.2; omega
        · exact h.2
      refine wpAnyU_one (i := 7) (by kernel_rfl) rfl (fun K hK => ?_)
      refine step_appAll (E := encWr) tyWrs rfl _ _ rfl rfl hOwn6 (news := [(v, s, data)]) rfl rfl hSl6' hSb (by omega) (by unfold maxLen; omega) (by omega) ?_
      intro A7 c7 w7 hown7 hg7 hat7
      have hz7 := hg7.size
      have hS7 : Below m2 w2 w7 ∧ ∀ x, x < nq → ¬ Nw ia ib x → w7.heap[x]? = w2.heap[x]? := ⟨hS6.1.grown hg7 (by omega) (fun x e => by have := (HOL.out x e).1; omega), fun x hx hn => (hg7.block x (by omega) (fun e => hn (HOL.out x e.symm))).trans (hS6.2 x hx hn)⟩
      have hSl7 : SlAt encWr w7 (Bl w7.heap.size) A7 (xs ++ [(v, s, data)]) := by
        obtain ⟨A', c', he, _, _, h3⟩ := hown7.reads (S' := Bl w7.heap.size) (fun b hb => by
          rcases hb.1 with h | h
          · have := h.2; show b < w7.heap.size; omega
          · have := h.2; show b < w7.heap.size; omega) (fun b hb => (hown7.lt b hb).2)
        simp only [List.cons.injEq, Value.slice.injEq, and_true] at he
        obtain ⟨rfl, _, _⟩ := he
        exact h3
      refine hK.out _ _ (fun _ => hS7) ?_
      clear hK K
      have HFD := Lib.hid (foldX A7 c7 (xs.length + 1) (xs ++ [(v, s, data)]) rr (by simp) HFO.out HPL.out w7 hSl7 (by omega))
      clear hown7 hat7 hOwn6 hSl6 hSl6' hoi6 hSl7 hSb hox6 hk5 hr5
      change wpAnyU _ _ _ _ _ _ 6 _ (Act.put _ (some 41) _) _
      obtain ⟨xn1, hxn1⟩ : ∃ n, xs.length + 1 = n := ⟨_, rfl⟩
      rw [hxn1] at HFD ⊢
      clear hxn1
      simp only [Act.put, List.setIfInBounds_toArray, List.set_cons_zero, List.set_cons_succ]
      refine wpAnyU_op (i := 8) (by kernel_rfl) rfl rfl (fun K hK => ?_)
      go_wp2_with fail
      refine (HFD.out).mono ?_
      rintro e w8 ⟨A8, c8, rfl, f1, f2, f3, hb8⟩
      refine hK.out _ _ (fun _ => (show Below m2 w2 w8 ∧ ∀ x, x < nq → ¬ Nw ia ib x → w8.heap[x]? = w2.heap[x]? from ⟨hS7.1.trans (hb8.mono (by omega)), fun x hx hn => (hb8.block x (by omega)).trans (hS7.2 x hx hn)⟩)) ?_
      clear hK K
      try simp only [Act.put, List.setIfInBounds_toArray, List.set_cons_zero, List.set_cons_succ]
      have hS8 : Below m2 w2 w8 ∧ ∀ x, x < nq → ¬ Nw ia ib x → w8.heap[x]? = w2.heap[x]? := ⟨hS7.1.trans (hb8.mono (by omega)), fun x hx hn => (hb8.block x (by omega)).trans (hS7.2 x hx hn)⟩
      refine wpAnyU_op (i := 9) (by kernel_rfl) rfl rfl (fun K hK => ?_)
      go_simp
      refine hK.out _ _ (fun _ => hS8) ?_
      clear hK K
      try simp only [Act.put, List.setIfInBounds_toArray, List.set_cons_zero, List.set_cons_succ]
      clear hSw
      have hSw := hS8
      refine wpAnyU_takeD (i := 10) (v := ?_) rfl rfl (by kernel_rfl) (by kernel_rfl) (by kernel_rfl) (by kernel_rfl) (fun _ _ _ h => h) (by rfl) ?_ hSw ?_
      rotate_left 1
      · intro W9 hW9
        try dsimp only at hW9
        obtain _ := trivial
        go_simp
        try with_reducible rfl
      try simp only [List.setIfInBounds_toArray, List.set_cons_zero, List.set_cons_succ]
      refine wpAnyU_takeD (i := 11) (v := ?_) rfl rfl (by kernel_rfl) (by kernel_rfl) (by kernel_rfl) (by kernel_rfl) (fun _ _ _ h => h) (by rfl) ?_ hSw ?_
      rotate_left 1
      · intro W9 hW9
        try dsimp only at hW9
        obtain _ := trivial
        go_simp
        try with_reducible rfl
      try simp only [List.setIfInBounds_toArray, List.set_cons_zero, List.set_cons_succ]
      refine wpAnyU_op (i := 12) (by kernel_rfl) rfl rfl (fun K hK => ?_)
      go_simp
      refine hK.out _ _ (fun _ => hS8) ?_
      clear hK K
      try simp only [Act.put, List.setIfInBounds_toArray, List.set_cons_zero, List.set_cons_succ]
      refine wpAnyU_op (i := 13) (by kernel_rfl) rfl rfl (fun K hK => ?_)
      go_simp
      refine hK.out _ _ (fun _ => hS8) ?_
      clear hK K
      try simp only [Act.put, List.setIfInBounds_toArray, List.set_cons_zero, List.set_cons_succ]
      refine wpAnyU_done (by kernel_rfl) ?_ _
      go_wp2
      go_meet
      exact ⟨rfl, A8, c8, rfl, f1, f2, f3.more (fun b hb => ⟨by have := hb.1; omega, hb.2⟩), hS8.1, hS8.2⟩
    case rest =>
      obtain ⟨rfl, A8, c8, rfl, f1, f2, f3, hbm, hkx⟩ := hcut
      obtain ⟨wy, rfl⟩ : ∃ wy : World, wy = wc := ⟨_, rfl⟩
      have hOwnY : Own encCB wy m2 87 (fun _ => False) (.slice (some ⟨g, 0, none⟩) ys.length gc) ys := HYO.out.own.blk (fun b hb => by
        rcases hb with hb | hb
        · exact hb.elim
        · have e : g = b := by simpa [Value.ownBlock] using hb
          subst e
          exact hkx g (by omega) hgab)
      have hgrow : ∃ cur, wy.heap[g]? = some (.cells cur 87 (0, 0)) := by
        obtain ⟨_, _, h⟩ := hOwnY.row
        rcases h with ⟨h, _⟩ | ⟨g', cap, cur, e1, _, h2, _⟩
        · cases h
        · simp only [Value.slice.injEq, Option.some.injEq, Addr.mk.injEq] at e1
          obtain ⟨⟨rfl, _⟩, _⟩ := e1
          exact ⟨cur, h2⟩
      obtain ⟨cur, hgr⟩ := hgrow
      have hfz : wy.frozen? ⟨g, k * 3 + 2, none⟩ = false := by simp [World.frozen?, hgr]
      have hcx := HSX.out wy ⟨hbm, hkx⟩
      have hzy := hbm.size
      have hb2y : Below n2 W0 wy := hb2.trans (hbm.mono (by omega))
      have hOwn9 : Own encCB (wy.setCell ⟨g, k * 3 + 2, none⟩ (.slice A8 rr.length c8)) m2 87 (fun _ => False) (.slice (some ⟨g, 0, none⟩) ys.length gc) (ys.set k ((xn, xnum, rr), A8, c8, 0, 0)) :=
        Own.stored hOwnY hky (j := 2) (by decide) (.slice A8 rr.length c8) ((xn, xnum, rr), A8, c8, 0, 0) (fun cs hr => by
          rw [HYK.out] at hr
          obtain ⟨rfl, r1, r2⟩ := hr
          exact ⟨rfl, r1, r2⟩)
      have HOwn9 := Lib.hid hOwn9
      have HF3 := Lib.hid f3
      clear hOwn9 hOwnY hgr
      go_upto_region 11 with (fail)
      clear hfz hcx
      change Code.wp _ _ _ _ (wy.setCell ⟨g, k * 3 + 2, none⟩ (.slice A8 rr.length c8))
      have hk9 : ∀ x, x ≠ g → (wy.setCell ⟨g, k * 3 + 2, none⟩ (.slice A8 rr.length c8)).heap[x]? = wy.heap[x]? := fun x hx => heap_setCell_other _ _ _ _ hx
      have hz9 : wy.heap.size ≤ (wy.setCell ⟨g, k * 3 + 2, none⟩ (.slice A8 rr.length c8)).heap.size := by simp [World.setCell]
      have hb9 : Below n2 W0 (wy.setCell ⟨g, k * 3 + 2, none⟩ (.slice A8 rr.length c8)) := hb2y.setCell (p := ⟨g, k * 3 + 2, none⟩) (by show n2 ≤ g; omega) _
      generalize wy.setCell ⟨g, k * 3 + 2, none⟩ (.slice A8 rr.length c8) = w9 at HOwn9 hk9 hz9 hb9 ⊢
      have hr9 := (hk9 ob (fun e => hgo e.symm)).trans ((hkx ob (by omega) (fun h => by have := h.2; omega)).trans hr2)
      have hr19 := HRR.out w9 hb9
      obtain ⟨xl, hxl2⟩ : ∃ xl, cl.set k (xn, xnum, rr) = xl := ⟨_, rfl⟩
      have hlen : xl.length = cl.length := by rw [← hxl2, List.length_set]
      have HT : Hid (wrS ((im, l), cl) nm (v, s, data) = ((im, l), xl)) := by
        rw [Hid, wrS, if_pos HE2.out, HNK.out]
        show ((im, l), setOv cl k fun d => foldL (d ++ [(v, s, data)])) = _
        rw [setOv_at hkl HCLK.out, HFO.out, hxl2]
      have hcs := cls_sl (S := fun q => w.heap.size ≤ q ∧ q < w9.heap.size ∧ q ≠ n0 + 1 + 1) (by rw [List.length_set]; exact HOwn9.out) (fun i y hy => by
        rw [List.getElem?_set] at hy
        by_cases hik : k = i
        · rw [if_pos hik, if_pos hky] at hy
          injection hy with hy
          subst hy
          exact ⟨f1, f2, (HF3.out.blk (fun x hx => hk9 x (by have := hx.1; omega))).more (fun x hx => ⟨by have := hx.1; omega, by have := hx.2; omega, by have := hx.1; omega⟩)⟩
        · rw [if_neg hik] at hy
          obtain ⟨hi, rfl⟩ := List.getElem?_eq_some_iff.1 hy
          obtain ⟨o1, o2, o3, o4⟩ := HYO.out.ov ys[i] (List.getElem_mem hi)
          obtain ⟨_, u1, u2, u3⟩ := o3.sl
          have hdj := List.pairwise_iff_getElem.1 HYO.out.dj
          refine ⟨u1, u2, (u3.blk (fun x hx => (hk9 x (fun e => o4 g rfl (by rw [← e]; exact hx))).trans (hkx x (by have := hx.2; omega) (fun hn => ?_)))).more (fun x hx => ⟨by have := hx.1; omega, by have := hx.2; omega, by have := hx.1; omega⟩)⟩
          rcases Nat.lt_or_gt_of_ne hik with h | h
          · have := hdj k i hky hi h
            rw [HYK.out] at this
            simp only at this
            have := hn.2; have := hx.1; omega
          · have := hdj i k hi hky h
            rw [HYK.out] at this
            simp only at this
            have := hn.1; have := hx.2; omega) (fun b hb => by
        have e : g = b := by simpa [Value.ownBlock] using hb
        subst e
        exact ⟨by omega, by omega, by omega⟩)
      obtain ⟨y1, y2, y3⟩ := hcs
      rw [List.length_set] at y1
      rw [List.map_set, HYM.out] at y3
      have y3' : SlAt encCln w9 (fun q => w.heap.size ≤ q ∧ q < w9.heap.size ∧ q ≠ n0 + 1 + 1) (some ⟨g, 0, none⟩) xl := by rw [← hxl2]; exact y3
      have HCL : Hid (ClAt (((im, l), xl) : Cls) B vc D dc (some ⟨g, 0, none⟩) gc (fun q => w.heap.size ≤ q ∧ q < w9.heap.size ∧ q ≠ n0 + 1 + 1) w9) := by
        have h := HCR.out
        have hk : ∀ x, x < m2 → w9.heap[x]? = w1.heap[x]? := fun x hx => (hk9 x (by omega)).trans ((hkx x (by omega) (fun hn => by have := hn.1; omega)).trans (hb12.block x (by omega)))
        exact ⟨⟨h.im.1, h.im.2.1, (h.im.2.2.blk (fun x hx => hk x (by have := hx.2; omega))).more (fun x hx => ⟨by have := hx.1; omega, by have := hx.2; omega, by have := hx.1; omega⟩)⟩,
          ⟨h.sn.1, h.sn.2.1, (h.sn.2.2.blk (fun x hx => hk x hx.2)).more (fun x hx => ⟨by have := hx.1; omega, by have := hx.2; omega, by have := hx.1; omega⟩)⟩,
          ⟨by rw [hlen]; omega, y2, y3'⟩⟩
      rw [← hlen] at hr9
      clear y3 y3' hk9 hkx f3 HOwn9 hz9 hzy hxl2
      rw [← hlen]
      clear hlen
      obtain ⟨q0, q1, q2, qf⟩ := blk3 hr9
      obtain ⟨v0, v1, v2, vf⟩ := blk3 hr19
      go_wp2_with fail
      have hend := cl_end (w := w) (x := (((im, l), xl) : Cls)) (A := B) (c := vc) (D := D) (d := dc) (G := (some ⟨g, 0, none⟩)) (g := gc) hr19 (by omega) (HBW.out w9 hb9) HCL.out 0
      obtain ⟨hz, hret⟩ := hend
      change bodyPost _ _ _ _ _ (sw3 w9 (n0 + 1 + 1) (.slice B ((((im, l), xl) : Cls)).1.1.length vc) (.slice D ((((im, l), xl) : Cls)).1.2.length dc) (.slice (some ⟨g, 0, none⟩) ((((im, l), xl) : Cls)).2.length gc))
      generalize sw3 w9 (n0 + 1 + 1) (.slice B ((((im, l), xl) : Cls)).1.1.length vc) (.slice D ((((im, l), xl) : Cls)).1.2.length dc) (.slice (some ⟨g, 0, none⟩) ((((im, l), xl) : Cls)).2.length gc) = W3 at hz hret ⊢
      obtain ⟨z0, z1, z2, _⟩ := blk3 hz
      refine bodyPost_ret (v := .tuple #[.agg #[.slice B ((((im, l), xl) : Cls)).1.1.length vc, .slice D ((((im, l), xl) : Cls)).1.2.length dc, .slice (some ⟨g, 0, none⟩) ((((im, l), xl) : Cls)).2.length gc], .int .i64 0]) ?_ rfl ?_
      · simp [results, Tryz.results19, Tryz.f19, go_sem, z0, z1, z2, zCls, zSns]
      rw [HT.out, HE2.out]; exact hret
end Go.Proofs.YtgndgkjefgjamaaGreat
