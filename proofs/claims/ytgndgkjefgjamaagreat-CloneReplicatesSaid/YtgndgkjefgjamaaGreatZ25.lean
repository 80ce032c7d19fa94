/-
  clone.Replicate, Take: the walks.; Reference 37: Replicate.; Reference 37: Take, Drop.; The laws on clones: a variable of clones, and what each call does to it.; How clones and strings read; closed facts.; The law of Replicate, Take on clones: the walk.
-/
import Derived.BigQuiet
import Derived.Test.YtgndgkjefgjamaaGreatZ01
import Derived.Test.YtgndgkjefgjamaaGreatZ02
import Derived.Test.YtgndgkjefgjamaaGreatZ03
import Derived.Test.YtgndgkjefgjamaaGreatZ04
import Derived.Test.YtgndgkjefgjamaaGreatZ05
import Derived.Test.YtgndgkjefgjamaaGreatZ06
import Derived.Test.YtgndgkjefgjamaaGreatZ07
import Derived.Test.YtgndgkjefgjamaaGreatZ08
import Derived.Test.YtgndgkjefgjamaaGreatZ09
import Derived.Test.YtgndgkjefgjamaaGreatZ10
import Derived.Test.YtgndgkjefgjamaaGreatZ11
import Derived.Test.YtgndgkjefgjamaaGreatZ12
import Derived.Test.YtgndgkjefgjamaaGreatZ13
import Derived.Test.YtgndgkjefgjamaaGreatZ14
import Derived.Test.YtgndgkjefgjamaaGreatZ15
import Derived.Test.YtgndgkjefgjamaaGreatZ16
import Derived.Test.YtgndgkjefgjamaaGreatZ17
import Derived.Test.YtgndgkjefgjamaaGreatZ18
import Derived.Test.YtgndgkjefgjamaaGreatZ21
import Derived.Test.YtgndgkjefgjamaaGreatZ22
import Derived.Test.YtgndgkjefgjamaaGreatZ24
set_option linter.unusedVariables false
set_option linter.unusedSimpArgs false
set_option linter.unusedSectionVars false
set_option linter.unnecessarySimpa false
namespace Go.Proofs.YtgndgkjefgjamaaGreat
open Go.RowKit Go.Shelf
attribute [local go_sem] Oper.semAt_some

set_option maxHeartbeats 4000000 in
set_option maxRecDepth 100000 in
theorem clTake_any (A A2 A3 : Option Addr) (c c2 c3 n m p : Nat) (im : Img) (l : List Snp) (cl : List Cln) (w : World) (hn : im.length = n) (hm : l.length = m) (hp : cl.length = p) (h1 : SlAt (encSl encSec) w (Bl w.heap.size) A im) (h2 : SlAt encSnp w (Bl w.heap.size) A2 l) (h3 : SlAt encCln w (Bl w.heap.size) A3 cl) (hL : ClLim (im, l) cl) (num tm : Int) (hi : I64 num ∧ I64 tm) :
    Calls Tryz.prog 34 #[.agg #[.slice A n c, .slice A2 m c2, .slice A3 p c3], .int .i64 num, .int .i64 tm] w (RetCl (cTak ((im, l), cl) num tm) (cTakE ((im, l), cl) num tm) w) := by
  subst hn hm hp
  obtain ⟨n0, hn0⟩ : ∃ n0, w.heap.size = n0 := ⟨_, rfl⟩
  obtain ⟨W0, hW0⟩ : ∃ W0, (((w.alloc (.cells #[.slice A im.length c, .slice A2 l.length c2, .slice A3 cl.length c3] 29)).alloc (.cells #[.int .i64 num] 3)).alloc (.cells #[.int .i64 tm] 3)).alloc (.cells #[.slice none 0 0, .slice none 0 0, .slice none 0 0] 29) = W0 := ⟨_, rfl⟩
  have hB0 : Below n0 w W0 := by rw [← hW0, ← hn0]; repeat (first | exact Below.refl _ _ | refine ext_alloc ?_)
  have hr0 : W0.heap[n0]? = some (.cells #[.slice A im.length c, .slice A2 l.length c2, .slice A3 cl.length c3] 29 (0, 0)) := by rw [← hW0, ← hn0]; exact (Below.heap_alloc _ _ _ (by simp <;> omega)).trans ((Below.heap_alloc _ _ _ (by simp <;> omega)).trans ((Below.heap_alloc _ _ _ (by simp)).trans (heap_alloc_new _ _)))
  have hr1 : W0.heap[n0 + 1 + 1 + 1]? = some (.cells #[.slice none 0 0, .slice none 0 0, .slice none 0 0] 29 (0, 0)) := by rw [← hW0, ← hn0]; exact (by have h := heap_alloc_new (((w.alloc (.cells #[.slice A im.length c, .slice A2 l.length c2, .slice A3 cl.length c3] 29)).alloc (.cells #[.int .i64 num] 3)).alloc (.cells #[.int .i64 tm] 3)) (.cells #[.slice none 0 0, .slice none 0 0, .slice none 0 0] 29); simp only [World.size_alloc] at h; exact h)
  obtain ⟨n2, hn2⟩ : ∃ n2, W0.heap.size = n2 := ⟨_, rfl⟩
  have hn02 : n0 + 1 + 1 + 1 < n2 := by rw [← hn2]; exact (Array.getElem?_eq_some_iff.1 hr1).1
  have up : ∀ {α : Type} {E : Enc α} {A : Option Addr} {l : List α}, SlAt E w (Bl w.heap.size) A l → ∀ W, Below n2 W0 W → SlAt E W (Bl W.heap.size) A l := fun h W hb => by
    rw [hn0] at h
    exact (h.blk (fun g hg => (hb.block g (by have : g < n0 := hg; omega)).trans (hB0.block g hg))).more (fun g hg => by have : g < n0 := hg; have := hb.size; show g < W.heap.size; omega)
  have H1 := Lib.hid (up h1)
  have H2 := Lib.hid (up h2)
  have H3 := Lib.hid (up h3)
  have HC : Hid (∀ W, Below n2 W0 W → W.cell? ⟨n0, 0, none⟩ = some (.slice A im.length c) ∧ W.cell? ⟨n0, 1, none⟩ = some (.slice A2 l.length c2) ∧ W.cell? ⟨n0, 2, none⟩ = some (.slice A3 cl.length c3)) := fun W hb => by
    obtain ⟨a, b, d, _⟩ := blk3 ((hb.block _ (by omega)).trans hr0)
    exact ⟨a, b, d⟩
  have HRR : Hid (∀ W, Below n2 W0 W → W.heap[n0 + 1 + 1 + 1]? = some (.cells #[.slice none 0 0, .slice none 0 0, .slice none 0 0] 29 (0, 0))) := fun W hb => (hb.block _ (by omega)).trans hr1
  have HROW0 : Hid (∀ W, Below n2 W0 W → W.heap[n0]? = some (.cells #[.slice A im.length c, .slice A2 l.length c2, .slice A3 cl.length c3] 29 (0, 0))) := fun W hb => (hb.block _ (by omega)).trans hr0
  have HBW : Hid (∀ W, Below n2 W0 W → Below w.heap.size w W) := fun W hb => by rw [hn0]; exact hB0.trans (hb.mono (by omega))
  have HN0 := Lib.hid hn0
  have HN2 := Lib.hid hn2
  have hN0 : n0 ≤ w.heap.size ∧ w.heap.size ≤ n0 := by omega
  have hl1 := hL.sn.ims
  have hl2 := hL.sn.its
  have hl3 := hL.its
  have HLM := Lib.hid hL
  simp only at hl1 hl2
  obtain ⟨s0, hs0⟩ : ∃ s0, clE ((im, l), cl) = s0 := ⟨_, rfl⟩
  have HCK := Lib.hid (fun W (hb : Below n2 W0 W) => clCheck_any A A2 A3 c c2 c3 im.length l.length cl.length im l cl s0 W rfl rfl rfl hs0 (H1.out W hb) (H2.out W hb) (H3.out W hb) hl1 (by omega) (by omega))
  have HOW := Lib.hid (fun W (hb : Below n2 W0 W) => own37_any A A2 A3 c c2 c3 im.length l.length cl.length im l cl W rfl rfl rfl (H1.out W hb) (H2.out W hb) (H3.out W hb) HLM.out)
  have HS0 := Lib.hid hs0
  have hB00 := Below.refl n2 W0
  obtain ⟨p0, p1, p2⟩ := HC.out W0 hB00
  clear h1 h2 h3 up hB0 hL hr0 hr1 hs0
  clear HCK HOW HS0
  have hcl : W0.cell? ⟨n0 + 1, 0, none⟩ = some (.int .i64 num) := cell_of_row W0 (n0 + 1) 0 _ _ _ (by rw [← hW0, ← hn0]; have h := heap_alloc_new (w.alloc (.cells #[.slice A im.length c, .slice A2 l.length c2, .slice A3 cl.length c3] 29)) (.cells #[.int .i64 num] 3); simp only [World.size_alloc] at h; exact (Below.heap_alloc _ _ _ (by simp <;> omega)).trans ((Below.heap_alloc _ _ _ (by simp)).trans h)); have hcl2 : W0.cell? ⟨n0 + 1 + 1, 0, none⟩ = some (.int .i64 tm) := cell_of_row W0 (n0 + 1 + 1) 0 _ _ _ (by rw [← hW0, ← hn0]; have h := heap_alloc_new ((w.alloc (.cells #[.slice A im.length c, .slice A2 l.length c2, .slice A3 cl.length c3] 29)).alloc (.cells #[.int .i64 num] 3)) (.cells #[.int .i64 tm] 3); simp only [World.size_alloc] at h; exact (Below.heap_alloc _ _ _ (by simp)).trans h)
  have HCH := Lib.hid (clChangeT_any ⟨n0 + 1, 0, none⟩ ⟨n0 + 1 + 1, 0, none⟩ A A2 A3 c c2 c3 _ _ _ im l cl (takeS (im, l) num tm) (takeE (im, l) num tm) W0 rfl rfl rfl (H1.out W0 hB00) (H2.out W0 hB00) (H3.out W0 hB00) HLM.out (fun W B D vc dc hb hvc hdc g1 g2 _ => take1_any B D vc dc _ _ im l W rfl rfl g1 g2 HLM.out.sn num tm (n0 + 1) (n0 + 1 + 1) hi (by have := hb.size; omega) ((hb.cell (p := ⟨n0 + 1, 0, none⟩) (by show n0 + 1 < _; omega)).trans hcl) (by have := hb.size; omega) ((hb.cell (p := ⟨n0 + 1 + 1, 0, none⟩) (by show n0 + 1 + 1 < _; omega)).trans hcl2)) (fun h => by rw [takeS, if_neg h]))
  have hb5 : Below n2 W0 W0 := Below.refl _ _
  clear H1 H2 H3 HLM
  go_enter Tryz.func34, Tryz.ntmps34
  go_wp2_with fail
  refine HCH.out.mono ?_
  rintro e w1 ⟨B, vc, D, dc, G, gc, rfl, hat, hb1⟩
  rw [HN2.out] at hb1
  have hz1 := hb1.size
  have hr2 := HRR.out w1 hb1
  have HAT := Lib.hid (hat.keep (S' := fun q => w.heap.size ≤ q ∧ q < w1.heap.size ∧ q ≠ n0 + 1 + 1 + 1) (fun _ _ => rfl) (fun q hq => ⟨by have := hq.1; have := HN2.out; omega, hq.2, by have := hq.1; have := HN2.out; omega⟩))
  clear p0 p1 p2 hat HCH hW0
  obtain ⟨v0, v1, v2, vf⟩ := blk3 hr2
  go_wp2_with fail
  have hend := cl_end (w := w) (x := (chS ((im, l), cl) (takeS (im, l) num tm) (takeE (im, l) num tm))) (A := B) (c := vc) (D := D) (d := dc) (G := G) (g := gc) hr2 (by omega) (HBW.out w1 hb1) HAT.out (chE ((im, l), cl) (takeE (im, l) num tm))
  obtain ⟨hz, hret⟩ := hend
  change bodyPost _ _ _ _ _ (sw3 w1 (n0 + 1 + 1 + 1) (.slice B ((chS ((im, l), cl) (takeS (im, l) num tm) (takeE (im, l) num tm))).1.1.length vc) (.slice D ((chS ((im, l), cl) (takeS (im, l) num tm) (takeE (im, l) num tm))).1.2.length dc) (.slice G ((chS ((im, l), cl) (takeS (im, l) num tm) (takeE (im, l) num tm))).2.length gc))
  generalize sw3 w1 (n0 + 1 + 1 + 1) (.slice B ((chS ((im, l), cl) (takeS (im, l) num tm) (takeE (im, l) num tm))).1.1.length vc) (.slice D ((chS ((im, l), cl) (takeS (im, l) num tm) (takeE (im, l) num tm))).1.2.length dc) (.slice G ((chS ((im, l), cl) (takeS (im, l) num tm) (takeE (im, l) num tm))).2.length gc) = W3 at hz hret ⊢
  obtain ⟨z0, z1, z2, _⟩ := blk3 hz
  refine bodyPost_ret (v := .tuple #[.agg #[.slice B ((chS ((im, l), cl) (takeS (im, l) num tm) (takeE (im, l) num tm))).1.1.length vc, .slice D ((chS ((im, l), cl) (takeS (im, l) num tm) (takeE (im, l) num tm))).1.2.length dc, .slice G ((chS ((im, l), cl) (takeS (im, l) num tm) (takeE (im, l) num tm))).2.length gc], .int .i64 (chE ((im, l), cl) (takeE (im, l) num tm))]) ?_ rfl ?_
  · simp [results, Tryz.results34, Tryz.f34, go_sem, z0, z1, z2, zCls, zSns]
  exact hret
end Go.Proofs.YtgndgkjefgjamaaGreat
namespace Go.Proofs.YtgndgkjefgjamaaGreat
open Go.RowKit Go.Shelf
attribute [local go_sem] Oper.semAt_some

set_option maxHeartbeats 4000000 in
set_option maxRecDepth 100000 in
theorem rcReplicate_any (A A2 A3 L : Option Addr) (c c2 c3 lc n m p q : Nat) (im : Img) (l : List Snp) (cl : List Cln) (ws : List Wr) (w : World) (hn : im.length = n) (hm : l.length = m) (hp : cl.length = p) (hq : ws.length = q) (hc3 : p ≤ c3 ∧ c3 ≤ maxLen) (h1 : SlAt (encSl encSec) w (Bl w.heap.size) A im) (h2 : SlAt encSnp w (Bl w.heap.size) A2 l) (h3 : SlAt encCln w (Bl w.heap.size) A3 cl) (hL : ClLim (im, l) cl) (h4 : SlAt encWr w (Bl w.heap.size) L ws) (hwl : q ≤ 1000) (hsv : ∀ x ∈ l, x.2.2.length ≤ 99000) :
    Calls Tryz.prog 33 #[.agg #[.slice A n c, .slice A2 m c2, .slice A3 p c3], .slice L q lc] w (RdCl (fun _ => True) (repS ((im, l), cl) ws) (repE ((im, l), cl) ws) w) := by
  subst hn hm hp
  have h3' := h3
  obtain ⟨n0, hn0⟩ : ∃ n0, w.heap.size = n0 := ⟨_, rfl⟩
  obtain ⟨W0, hW0⟩ : ∃ W0, (w.alloc (.cells #[.slice A im.length c, .slice A2 l.length c2, .slice A3 cl.length c3] 29)).alloc (.cells #[.slice none 0 0, .slice none 0 0, .slice none 0 0] 29) = W0 := ⟨_, rfl⟩
  have hB0 : Below n0 w W0 := by rw [← hW0, ← hn0]; repeat (first | exact Below.refl _ _ | refine ext_alloc ?_)
  have hr0 : W0.heap[n0]? = some (.cells #[.slice A im.length c, .slice A2 l.length c2, .slice A3 cl.length c3] 29 (0, 0)) := by rw [← hW0, ← hn0]; exact (Below.heap_alloc _ _ _ (by simp)).trans (heap_alloc_new _ _)
  have hr1 : W0.heap[n0 + 1]? = some (.cells #[.slice none 0 0, .slice none 0 0, .slice none 0 0] 29 (0, 0)) := by rw [← hW0, ← hn0]; exact heap_new2 _ _ _
  obtain ⟨n2, hn2⟩ : ∃ n2, W0.heap.size = n2 := ⟨_, rfl⟩
  have hn02 : n0 + 1 < n2 := by rw [← hn2]; exact (Array.getElem?_eq_some_iff.1 hr1).1
  have up : ∀ {α : Type} {E : Enc α} {A : Option Addr} {l : List α}, SlAt E w (Bl w.heap.size) A l → ∀ W, Below n2 W0 W → SlAt E W (Bl W.heap.size) A l := fun h W hb => by
    rw [hn0] at h
    exact (h.blk (fun g hg => (hb.block g (by have : g < n0 := hg; omega)).trans (hB0.block g hg))).more (fun g hg => by have : g < n0 := hg; have := hb.size; show g < W.heap.size; omega)
  have H1 := Lib.hid (up h1)
  have H2 := Lib.hid (up h2)
  have H3 := Lib.hid (up h3)
  have HC : Hid (∀ W, Below n2 W0 W → W.cell? ⟨n0, 0, none⟩ = some (.slice A im.length c) ∧ W.cell? ⟨n0, 1, none⟩ = some (.slice A2 l.length c2) ∧ W.cell? ⟨n0, 2, none⟩ = some (.slice A3 cl.length c3)) := fun W hb => by
    obtain ⟨a, b, d, _⟩ := blk3 ((hb.block _ (by omega)).trans hr0)
    exact ⟨a, b, d⟩
  have HRR : Hid (∀ W, Below n2 W0 W → W.heap[n0 + 1]? = some (.cells #[.slice none 0 0, .slice none 0 0, .slice none 0 0] 29 (0, 0))) := fun W hb => (hb.block _ (by omega)).trans hr1
  have HROW0 : Hid (∀ W, Below n2 W0 W → W.heap[n0]? = some (.cells #[.slice A im.length c, .slice A2 l.length c2, .slice A3 cl.length c3] 29 (0, 0))) := fun W hb => (hb.block _ (by omega)).trans hr0
  have HBW : Hid (∀ W, Below n2 W0 W → Below w.heap.size w W) := fun W hb => by rw [hn0]; exact hB0.trans (hb.mono (by omega))
  have HN0 := Lib.hid hn0
  have HN2 := Lib.hid hn2
  have hN0 : n0 ≤ w.heap.size ∧ w.heap.size ≤ n0 := by omega
  have hl1 := hL.sn.ims
  have hl2 := hL.sn.its
  have hl3 := hL.its
  have HLM := Lib.hid hL
  simp only at hl1 hl2
  obtain ⟨s0, hs0⟩ : ∃ s0, clE ((im, l), cl) = s0 := ⟨_, rfl⟩
  have HCK := Lib.hid (fun W (hb : Below n2 W0 W) => clCheck_any A A2 A3 c c2 c3 im.length l.length cl.length im l cl s0 W rfl rfl rfl hs0 (H1.out W hb) (H2.out W hb) (H3.out W hb) hl1 (by omega) (by omega))
  have HOW := Lib.hid (fun W (hb : Below n2 W0 W) => own37_any A A2 A3 c c2 c3 im.length l.length cl.length im l cl W rfl rfl rfl (H1.out W hb) (H2.out W hb) (H3.out W hb) HLM.out)
  have HS0 := Lib.hid hs0
  have hB00 := Below.refl n2 W0
  obtain ⟨p0, p1, p2⟩ := HC.out W0 hB00
  clear h1 h2 h3 up hB0 hL hr0 hr1 hs0
  clear HCK HOW
  have HA3 : Hid (∀ W, Below n2 W0 W → SlAt encCln W (fun q => q ≠ n0 + 1 ∧ q < W.heap.size) A3 cl) := fun W hb => (h3'.below (HBW.out W hb)).more (fun g hg => by have : g < w.heap.size := hg; have := (HBW.out W hb).size; exact ⟨by omega, by omega⟩)
  have HCE : Hid (repE ((im, l), cl) ws = if s0 ≠ 0 then s0 else sApplyE (im, l) ws) := by rw [Hid, repE, HS0.out]
  have HCK0 := Lib.hid (rcCheck_any A A2 A3 c c2 c3 im.length l.length cl.length im l cl s0 W0 hc3.1 rfl rfl rfl HS0.out (H1.out W0 hB00) (H2.out W0 hB00) (H3.out W0 hB00) hl1 (by omega) (by omega))
  go_enter Tryz.func33, Tryz.ntmps33
  go_wp2_with fail
  refine HCK0.out.mono ?_
  rintro e w1 ⟨rfl, hb1⟩
  rw [HN2.out] at hb1
  clear p0 p1 p2 HCK0 hn2 hn0 hW0
  by_cases hx0 : s0 = 0
  case neg =>
    have hx0' : (s0 != 0) = true := by simp [hx0]
    have HE : Hid (repE ((im, l), cl) ws = s0) := by rw [Hid, HCE.out, if_pos hx0]
    have HT : Hid (repS ((im, l), cl) ws = zCls) := by rw [Hid, repS, if_neg (by rw [HE.out]; exact hx0)]
    clear hx0
    have hr1 := HRR.out w1 hb1
    obtain ⟨v0, v1, v2, vf⟩ := blk3 hr1
    go_wp2_with fail
    have hend := rd_end (w := w) (x := zCls) (A := none) (c := 0) (D := none) (d := 0) (G := none) (g := 0) hr1 (by omega) (HBW.out w1 hb1) (ClAt.zero (S := fun q => True ∧ q < w1.heap.size ∧ q ≠ n0 + 1)) s0
    obtain ⟨hz, hret⟩ := hend
    change bodyPost _ _ _ _ _ (sw3 w1 (n0 + 1) (.slice none (zCls).1.1.length 0) (.slice none (zCls).1.2.length 0) (.slice none (zCls).2.length 0))
    generalize sw3 w1 (n0 + 1) (.slice none (zCls).1.1.length 0) (.slice none (zCls).1.2.length 0) (.slice none (zCls).2.length 0) = W3 at hz hret ⊢
    obtain ⟨z0, z1, z2, _⟩ := blk3 hz
    refine bodyPost_ret (v := .tuple #[.agg #[.slice none (zCls).1.1.length 0, .slice none (zCls).1.2.length 0, .slice none (zCls).2.length 0], .int .i64 s0]) ?_ rfl ?_
    · simp [results, Tryz.results33, Tryz.f33, go_sem, z0, z1, z2, zCls, zSns]
    rw [HT.out, HE.out]; exact hret
  have hx0' : (s0 != 0) = false := by simp [hx0]
  have HE : Hid (repE ((im, l), cl) ws = sApplyE (im, l) ws) := by rw [Hid, HCE.out, if_neg (by simp [hx0])]
  subst hx0
  obtain ⟨t, ht⟩ : ∃ t, sApply (im, l) ws = t := ⟨_, rfl⟩
  obtain ⟨en, hen⟩ : ∃ en, sApplyE (im, l) ws = en := ⟨_, rfl⟩
  have HT : Hid ((if en = 0 then (t, cl) else zCls) = repS ((im, l), cl) ws) := by rw [Hid, repS, HE.out, hen, ht]
  have HAP := Lib.hid (refSnApply_any A A2 L c c2 lc im.length l.length q im l ws w1 rfl rfl hq (H1.out w1 hb1) (H2.out w1 hb1) (h4.fwd (HBW.out w1 hb1)) HLM.out.sn hwl hsv)
  rw [ht, hen] at HAP
  obtain ⟨p0, p1, p2⟩ := HC.out w1 hb1
  go_upto_region 4 with (fail)
  go_wp2_with fail
  refine HAP.out.mono ?_
  intro e w2 he
  obtain ⟨B, vc, D, dc, rfl, ⟨g1, g2, g3⟩, ⟨g4, g5, g6⟩, hb2⟩ := he.rd
  have hz1 := hb1.size
  have hbb2 : Below n2 W0 w2 := hb1.trans (hb2.mono (by have := HN2.out; omega))
  obtain ⟨ob, hob⟩ : ∃ ob, w2.heap.size = ob := ⟨_, rfl⟩
  obtain ⟨w3, hw3⟩ : ∃ w3, w2.alloc (.cells #[.slice B t.1.length vc, .slice D t.2.length dc] 26) = w3 := ⟨_, rfl⟩
  have HW3 := Lib.hid hw3
  have hb3 : Below w2.heap.size w2 w3 := by rw [← hw3]; exact ext_alloc (Below.refl _ _)
  have hr3 : w3.heap[ob]? = some (.cells #[.slice B t.1.length vc, .slice D t.2.length dc] 26 (0, 0)) := by rw [← hw3, ← hob]; exact heap_alloc_new _ _
  have hbb3 : Below n2 W0 w3 := hbb2.trans (hb3.mono (by have := hbb2.size; have := HN2.out; omega))
  have HCH := Lib.hid (rcChanged_any (fun q => q ≠ n0 + 1) A A2 A3 B D c c2 c3 im.length l.length cl.length vc dc t cl en w3 rfl ⟨g1, g2⟩ ⟨g4, g5⟩ hc3 ((g3.blk (fun g hg => hb3.block g hg.2)).more (fun g hg => ⟨by have := hg.1; have := HN2.out; have := hb1.size; show g ≠ n0 + 1; omega, by have := hg.2; have := hb3.size; omega⟩)) ((g6.blk (fun g hg => hb3.block g hg.2)).more (fun g hg => ⟨by have := hg.1; have := HN2.out; have := hb1.size; show g ≠ n0 + 1; omega, by have := hg.2; have := hb3.size; omega⟩)) (HA3.out w3 hbb3))
  obtain ⟨x, hx⟩ : ∃ x : Cls, (if en = 0 then (t, cl) else zCls) = x := ⟨_, rfl⟩
  rw [hx] at HCH HT
  clear p0 p1 p2 he g3 g6 HAP hw3 hx
  go_upto_region 5 with (fail)
  rw [HW3.out]
  clear HW3
  obtain ⟨p0, p1, p2⟩ := HC.out w3 hbb3
  obtain ⟨q0, q1, _⟩ := blk2 hr3
  go_wp2_with fail
  refine HCH.out.mono ?_
  rintro e w4 ⟨A', c', D', d', G', g', rfl, hat, hb4⟩
  have hbb4 : Below n2 W0 w4 := hbb3.trans (hb4.mono (by have := hbb3.size; have := HN2.out; omega))
  have hr4 := HRR.out w4 hbb4
  have HCL : Hid (ClAt x A' c' D' d' G' g' (fun q => True ∧ q < w4.heap.size ∧ q ≠ n0 + 1) w4) := hat.keep (fun _ _ => rfl) (fun q hq => ⟨trivial, hq.2, hq.1⟩)
  clear p0 p1 p2 q0 q1 HCH
  obtain ⟨v0, v1, v2, vf⟩ := blk3 hr4
  go_wp2_with fail
  have hend := rd_end (w := w) (x := x) (A := A') (c := c') (D := D') (d := d') (G := G') (g := g') hr4 (by omega) (HBW.out w4 hbb4) HCL.out en
  obtain ⟨hz, hret⟩ := hend
  change bodyPost _ _ _ _ _ (sw3 w4 (n0 + 1) (.slice A' (x).1.1.length c') (.slice D' (x).1.2.length d') (.slice G' (x).2.length g'))
  generalize sw3 w4 (n0 + 1) (.slice A' (x).1.1.length c') (.slice D' (x).1.2.length d') (.slice G' (x).2.length g') = W3 at hz hret ⊢
  obtain ⟨z0, z1, z2, _⟩ := blk3 hz
  refine bodyPost_ret (v := .tuple #[.agg #[.slice A' (x).1.1.length c', .slice D' (x).1.2.length d', .slice G' (x).2.length g'], .int .i64 en]) ?_ rfl ?_
  · simp [results, Tryz.results33, Tryz.f33, go_sem, z0, z1, z2, zCls, zSns]
  rw [HE.out, hen, ← HT.out]; exact hret
end Go.Proofs.YtgndgkjefgjamaaGreat
namespace Go.Proofs.YtgndgkjefgjamaaGreat
open Go.RowKit Go.Shelf
attribute [local go_sem] Oper.semAt_some

set_option maxHeartbeats 4000000 in
set_option maxRecDepth 100000 in
theorem rcTake_any (S0 : Nat → Prop) (A A2 A3 : Option Addr) (c c2 c3 n m p : Nat) (im : Img) (l : List Snp) (cl : List Cln) (num tm : Int) (w : World) (hn : im.length = n) (hm : l.length = m) (hp : cl.length = p) (hc3 : p ≤ c3 ∧ c3 ≤ maxLen) (h1 : SlAt (encSl encSec) w (Bl w.heap.size) A im) (h2 : SlAt encSnp w (Bl w.heap.size) A2 l) (h3 : SlAt encCln w (fun q => S0 q ∧ q < w.heap.size) A3 cl) (hL : ClLim (im, l) cl) (hi : I64 num ∧ I64 tm) :
    Calls Tryz.prog 35 #[.agg #[.slice A n c, .slice A2 m c2, .slice A3 p c3], .int .i64 num, .int .i64 tm] w (RdCl (fun q => S0 q ∨ w.heap.size ≤ q) (cTak ((im, l), cl) num tm) (cTakE ((im, l), cl) num tm) w) := by
  subst hn hm hp
  have h3' := h3
  replace h3 : SlAt encCln w (Bl w.heap.size) A3 cl := h3'.more (fun g hg => hg.2)
  obtain ⟨n0, hn0⟩ : ∃ n0, w.heap.size = n0 := ⟨_, rfl⟩
  obtain ⟨W0, hW0⟩ : ∃ W0, (w.alloc (.cells #[.slice A im.length c, .slice A2 l.length c2, .slice A3 cl.length c3] 29)).alloc (.cells #[.slice none 0 0, .slice none 0 0, .slice none 0 0] 29) = W0 := ⟨_, rfl⟩
  have hB0 : Below n0 w W0 := by rw [← hW0, ← hn0]; repeat (first | exact Below.refl _ _ | refine ext_alloc ?_)
  have hr0 : W0.heap[n0]? = some (.cells #[.slice A im.length c, .slice A2 l.length c2, .slice A3 cl.length c3] 29 (0, 0)) := by rw [← hW0, ← hn0]; exact (Below.heap_alloc _ _ _ (by simp)).trans (heap_alloc_new _ _)
  have hr1 : W0.heap[n0 + 1]? = some (.cells #[.slice none 0 0, .slice none 0 0, .slice none 0 0] 29 (0, 0)) := by rw [← hW0, ← hn0]; exact heap_new2 _ _ _
  obtain ⟨n2, hn2⟩ : ∃ n2, W0.heap.size = n2 := ⟨_, rfl⟩
  have hn02 : n0 + 1 < n2 := by rw [← hn2]; exact (Array.getElem?_eq_some_iff.1 hr1).1
  have up : ∀ {α : Type} {E : Enc α} {A : Option Addr} {l : List α}, SlAt E w (Bl w.heap.size) A l → ∀ W, Below n2 W0 W → SlAt E W (Bl W.heap.size) A l := fun h W hb => by
    rw [hn0] at h
    exact (h.blk (fun g hg => (hb.block g (by have : g < n0 := hg; omega)).trans (hB0.block g hg))).more (fun g hg => by have : g < n0 := hg; have := hb.size; show g < W.heap.size; omega)
  have H1 := Lib.hid (up h1)
  have H2 := Lib.hid (up h2)
  have H3 := Lib.hid (up h3)
  have HC : Hid (∀ W, Below n2 W0 W → W.cell? ⟨n0, 0, none⟩ = some (.slice A im.length c) ∧ W.cell? ⟨n0, 1, none⟩ = some (.slice A2 l.length c2) ∧ W.cell? ⟨n0, 2, none⟩ = some (.slice A3 cl.length c3)) := fun W hb => by
    obtain ⟨a, b, d, _⟩ := blk3 ((hb.block _ (by omega)).trans hr0)
    exact ⟨a, b, d⟩
  have HRR : Hid (∀ W, Below n2 W0 W → W.heap[n0 + 1]? = some (.cells #[.slice none 0 0, .slice none 0 0, .slice none 0 0] 29 (0, 0))) := fun W hb => (hb.block _ (by omega)).trans hr1
  have HROW0 : Hid (∀ W, Below n2 W0 W → W.heap[n0]? = some (.cells #[.slice A im.length c, .slice A2 l.length c2, .slice A3 cl.length c3] 29 (0, 0))) := fun W hb => (hb.block _ (by omega)).trans hr0
  have HBW : Hid (∀ W, Below n2 W0 W → Below w.heap.size w W) := fun W hb => by rw [hn0]; exact hB0.trans (hb.mono (by omega))
  have HN0 := Lib.hid hn0
  have HN2 := Lib.hid hn2
  have hN0 : n0 ≤ w.heap.size ∧ w.heap.size ≤ n0 := by omega
  have hl1 := hL.sn.ims
  have hl2 := hL.sn.its
  have hl3 := hL.its
  have HLM := Lib.hid hL
  simp only at hl1 hl2
  obtain ⟨s0, hs0⟩ : ∃ s0, clE ((im, l), cl) = s0 := ⟨_, rfl⟩
  have HCK := Lib.hid (fun W (hb : Below n2 W0 W) => clCheck_any A A2 A3 c c2 c3 im.length l.length cl.length im l cl s0 W rfl rfl rfl hs0 (H1.out W hb) (H2.out W hb) (H3.out W hb) hl1 (by omega) (by omega))
  have HOW := Lib.hid (fun W (hb : Below n2 W0 W) => own37_any A A2 A3 c c2 c3 im.length l.length cl.length im l cl W rfl rfl rfl (H1.out W hb) (H2.out W hb) (H3.out W hb) HLM.out)
  have HS0 := Lib.hid hs0
  have hB00 := Below.refl n2 W0
  obtain ⟨p0, p1, p2⟩ := HC.out W0 hB00
  clear h1 h2 h3 up hB0 hL hr0 hr1 hs0
  clear HCK HOW
  have HA3 : Hid (∀ W, Below n2 W0 W → SlAt encCln W (fun q => ((S0 q ∨ w.heap.size ≤ q) ∧ q ≠ n0 + 1) ∧ q < W.heap.size) A3 cl) := fun W hb => (h3'.blk (fun g hg => (HBW.out W hb).block g hg.2)).more (fun g hg => by have := hg.2; have := (HBW.out W hb).size; exact ⟨⟨Or.inl hg.1, by omega⟩, by omega⟩)
  have HCE : Hid (cTakE ((im, l), cl) num tm = if s0 ≠ 0 then s0 else takeE (im, l) num tm) := by rw [Hid, cTakE, HS0.out]
  have HCK0 := Lib.hid (rcCheck_any A A2 A3 c c2 c3 im.length l.length cl.length im l cl s0 W0 hc3.1 rfl rfl rfl HS0.out (H1.out W0 hB00) (H2.out W0 hB00) (H3.out W0 hB00) hl1 (by omega) (by omega))
  go_enter Tryz.func35, Tryz.ntmps35
  go_wp2_with fail
  refine HCK0.out.mono ?_
  rintro e w1 ⟨rfl, hb1⟩
  rw [HN2.out] at hb1
  clear p0 p1 p2 HCK0 hn2 hn0 hW0
  by_cases hx0 : s0 = 0
  case neg =>
    have hx0' : (s0 != 0) = true := by simp [hx0]
    have HE : Hid (cTakE ((im, l), cl) num tm = s0) := by rw [Hid, HCE.out, if_pos hx0]
    have HT : Hid (cTak ((im, l), cl) num tm = zCls) := by rw [Hid, cTak, if_neg (by rw [HE.out]; exact hx0)]
    clear hx0
    have hr1 := HRR.out w1 hb1
    obtain ⟨v0, v1, v2, vf⟩ := blk3 hr1
    go_wp2_with fail
    have hend := rd_end (w := w) (x := zCls) (A := none) (c := 0) (D := none) (d := 0) (G := none) (g := 0) hr1 (by omega) (HBW.out w1 hb1) (ClAt.zero (S := fun q => (S0 q ∨ w.heap.size ≤ q) ∧ q < w1.heap.size ∧ q ≠ n0 + 1)) s0
    obtain ⟨hz, hret⟩ := hend
    change bodyPost _ _ _ _ _ (sw3 w1 (n0 + 1) (.slice none (zCls).1.1.length 0) (.slice none (zCls).1.2.length 0) (.slice none (zCls).2.length 0))
    generalize sw3 w1 (n0 + 1) (.slice none (zCls).1.1.length 0) (.slice none (zCls).1.2.length 0) (.slice none (zCls).2.length 0) = W3 at hz hret ⊢
    obtain ⟨z0, z1, z2, _⟩ := blk3 hz
    refine bodyPost_ret (v := .tuple #[.agg #[.slice none (zCls).1.1.length 0, .slice none (zCls).1.2.length 0, .slice none (zCls).2.length 0], .int .i64 s0]) ?_ rfl ?_
    · simp [results, Tryz.results35, Tryz.f35, go_sem, z0, z1, z2, zCls, zSns]
    rw [HT.out, HE.out]; exact hret
  have hx0' : (s0 != 0) = false := by simp [hx0]
  have HE : Hid (cTakE ((im, l), cl) num tm = takeE (im, l) num tm) := by rw [Hid, HCE.out, if_neg (by simp [hx0])]
  subst hx0
  obtain ⟨t, ht⟩ : ∃ t, takeS (im, l) num tm = t := ⟨_, rfl⟩
  obtain ⟨en, hen⟩ : ∃ en, takeE (im, l) num tm = en := ⟨_, rfl⟩
  have HT : Hid ((if en = 0 then (t, cl) else zCls) = cTak ((im, l), cl) num tm) := by rw [Hid, cTak, HE.out, hen, ht]
  have HAP := Lib.hid (refTake_any A A2 c c2 im.length l.length im l num tm w1 rfl rfl (H1.out w1 hb1) (H2.out w1 hb1) HLM.out.sn hi)
  rw [ht, hen] at HAP
  obtain ⟨p0, p1, p2⟩ := HC.out w1 hb1
  go_upto_region 4 with (fail)
  go_wp2_with fail
  refine HAP.out.mono ?_
  intro e w2 he
  obtain ⟨B, vc, D, dc, rfl, ⟨g1, g2, g3⟩, ⟨g4, g5, g6⟩, hb2⟩ := he.rd
  have hz1 := hb1.size
  have hbb2 : Below n2 W0 w2 := hb1.trans (hb2.mono (by have := HN2.out; omega))
  obtain ⟨ob, hob⟩ : ∃ ob, w2.heap.size = ob := ⟨_, rfl⟩
  obtain ⟨w3, hw3⟩ : ∃ w3, w2.alloc (.cells #[.slice B t.1.length vc, .slice D t.2.length dc] 26) = w3 := ⟨_, rfl⟩
  have HW3 := Lib.hid hw3
  have hb3 : Below w2.heap.size w2 w3 := by rw [← hw3]; exact ext_alloc (Below.refl _ _)
  have hr3 : w3.heap[ob]? = some (.cells #[.slice B t.1.length vc, .slice D t.2.length dc] 26 (0, 0)) := by rw [← hw3, ← hob]; exact heap_alloc_new _ _
  have hbb3 : Below n2 W0 w3 := hbb2.trans (hb3.mono (by have := hbb2.size; have := HN2.out; omega))
  have HCH := Lib.hid (rcChanged_any (fun q => (S0 q ∨ w.heap.size ≤ q) ∧ q ≠ n0 + 1) A A2 A3 B D c c2 c3 im.length l.length cl.length vc dc t cl en w3 rfl ⟨g1, g2⟩ ⟨g4, g5⟩ hc3 ((g3.blk (fun g hg => hb3.block g hg.2)).more (fun g hg => ⟨⟨Or.inr (by have := hg.1; have := HN2.out; have := hb1.size; omega), by have := hg.1; have := HN2.out; have := hb1.size; omega⟩, by have := hg.2; have := hb3.size; omega⟩)) ((g6.blk (fun g hg => hb3.block g hg.2)).more (fun g hg => ⟨⟨Or.inr (by have := hg.1; have := HN2.out; have := hb1.size; omega), by have := hg.1; have := HN2.out; have := hb1.size; omega⟩, by have := hg.2; have := hb3.size; omega⟩)) (HA3.out w3 hbb3))
  obtain ⟨x, hx⟩ : ∃ x : Cls, (if en = 0 then (t, cl) else zCls) = x := ⟨_, rfl⟩
  rw [hx] at HCH HT
  clear p0 p1 p2 he g3 g6 HAP hw3 hx
  go_upto_region 5 with (fail)
  rw [HW3.out]
  clear HW3
  obtain ⟨p0, p1, p2⟩ := HC.out w3 hbb3
  obtain ⟨q0, q1, _⟩ := blk2 hr3
  go_wp2_with fail
  refine HCH.out.mono ?_
  rintro e w4 ⟨A', c', D', d', G', g', rfl, hat, hb4⟩
  have hbb4 : Below n2 W0 w4 := hbb3.trans (hb4.mono (by have := hbb3.size; have := HN2.out; omega))
  have hr4 := HRR.out w4 hbb4
  have HCL : Hid (ClAt x A' c' D' d' G' g' (fun q => (S0 q ∨ w.heap.size ≤ q) ∧ q < w4.heap.size ∧ q ≠ n0 + 1) w4) := hat.keep (fun _ _ => rfl) (fun q hq => ⟨hq.1.1, hq.2, hq.1.2⟩)
  clear p0 p1 p2 q0 q1 HCH
  obtain ⟨v0, v1, v2, vf⟩ := blk3 hr4
  go_wp2_with fail
  have hend := rd_end (w := w) (x := x) (A := A') (c := c') (D := D') (d := d') (G := G') (g := g') hr4 (by omega) (HBW.out w4 hbb4) HCL.out en
  obtain ⟨hz, hret⟩ := hend
  change bodyPost _ _ _ _ _ (sw3 w4 (n0 + 1) (.slice A' (x).1.1.length c') (.slice D' (x).1.2.length d') (.slice G' (x).2.length g'))
  generalize sw3 w4 (n0 + 1) (.slice A' (x).1.1.length c') (.slice D' (x).1.2.length d') (.slice G' (x).2.length g') = W3 at hz hret ⊢
  obtain ⟨z0, z1, z2, _⟩ := blk3 hz
  refine bodyPost_ret (v := .tuple #[.agg #[.slice A' (x).1.1.length c', .slice D' (x).1.2.length d', .slice G' (x).2.length g'], .int .i64 en]) ?_ rfl ?_
  · simp [results, Tryz.results35, Tryz.f35, go_sem, z0, z1, z2, zCls, zSns]
  rw [HE.out, hen, ← HT.out]; exact hret
end Go.Proofs.YtgndgkjefgjamaaGreat
namespace Go.Proofs.YtgndgkjefgjamaaGreat
open Go.RowKit Go.Shelf
attribute [local go_sem] Oper.semAt_some

section
variable {t t' : Nat} {x x' : Cls} {A D G A' D' G' : Option Addr} {c d g c' d' g' : Nat} {W W' : World} {n' : Int} {S : Nat → Prop}
theorem riReplicate (h : ClI t x A c D d G g W) (hf : fewC x = true) {L : Option Addr} {lc q : Nat} {ws : List Wr} (hq : ws.length = q) (ha : repS x ws = x' ∧ repE x ws = n') (h4 : SlAt encWr W (Bl W.heap.size) L ws) (hwl : q ≤ 1000) :
    Calls Tryz.prog 33 #[.agg #[.slice A x.1.1.length c, .slice D x.1.2.length d, .slice G x.2.length g], .slice L q lc] W (RdCl (fun _ => True) x' n' W) := by
  have h3 := h.at_.cl
  obtain ⟨⟨im, l⟩, cl⟩ := x
  obtain ⟨rfl, rfl⟩ := ha
  have hl := fewC_lim hf
  exact rcReplicate_any A D G L c d g lc _ _ _ q im l cl ws W rfl rfl rfl hq ⟨h3.1, h3.2.1⟩ h.im h.sn h.cl hl.1.1 h4 hwl (fun y hy => by have := hl.2.2.1 y hy; omega)
theorem ciTake (h : ClI t x A c D d G g W) (hf : fewC x = true) {num tm : Int} (hi : I64 num ∧ I64 tm) (ha : cTak x num tm = x' ∧ cTakE x num tm = n') :
    Calls Tryz.prog 34 #[.agg #[.slice A x.1.1.length c, .slice D x.1.2.length d, .slice G x.2.length g], .int .i64 num, .int .i64 tm] W (RetCl x' n' W) := by
  obtain ⟨⟨im, l⟩, cl⟩ := x
  obtain ⟨rfl, rfl⟩ := ha
  exact clTake_any A D G c d g _ _ _ im l cl W rfl rfl rfl h.im h.sn h.cl (fewC_lim hf).1.1 num tm hi
theorem riTake (h : ClI t x A c D d G g W) {S0 : Nat → Prop} (h0 : SlAt encCln W (fun q => S0 q ∧ q < W.heap.size) G x.2) (hf : fewC x = true) {num tm : Int} (hi : I64 num ∧ I64 tm) (ha : cTak x num tm = x' ∧ cTakE x num tm = n') :
    Calls Tryz.prog 35 #[.agg #[.slice A x.1.1.length c, .slice D x.1.2.length d, .slice G x.2.length g], .int .i64 num, .int .i64 tm] W (RdCl (fun q => S0 q ∨ W.heap.size ≤ q) x' n' W) := by
  have h3 := h.at_.cl
  obtain ⟨⟨im, l⟩, cl⟩ := x
  obtain ⟨rfl, rfl⟩ := ha
  exact rcTake_any S0 A D G c d g _ _ _ im l cl num tm W rfl rfl rfl ⟨h3.1, h3.2.1⟩ h.im h.sn h0 (fewC_lim hf).1.1 hi
end
end Go.Proofs.YtgndgkjefgjamaaGreat
namespace Go.Proofs.YtgndgkjefgjamaaGreat
open Go.RowKit Go.ChangeShapes Go.WideShapes Go.ChangeAt

section
variable {H : Type} {enc : TypeId × Value → H} {W : World} {base b0 : Nat} {spare : Nat → Bool} {held : Bool} {r : Reach} {v : Value} {d : DataW H} {p : List MemPlace}
end
theorem op_num37 : Opens Tryz.prog 66 encExt := opens_struct Tryz.underlying66 (opensF_cons rfl op_int (opensF_one rfl op_int (by kernel_rfl)))
end Go.Proofs.YtgndgkjefgjamaaGreat
namespace Go.Proofs.YtgndgkjefgjamaaGreat
open Go.RowKit Go.Shelf
attribute [local go_sem] Oper.semAt_some

set_option maxHeartbeats 8000000 in
set_option maxRecDepth 100000 in
theorem replicates37_any (x : Cls) (A D G L : Option Addr) (c d g lc qn : Nat) (ws : List Wr) (num tm : Int) (w : World) (h : ClAt x A c D d G g (Bl w.heap.size) w) (hqn : ws.length = qn) (h4 : SlAt encWr w (Bl w.heap.size) L ws) (hqm : qn ≤ 9223372036854775807) (hI : I64 num ∧ I64 tm) :
    Calls Tryz.prog 6 #[.agg #[.slice A x.1.1.length c, .slice D x.1.2.length d, .slice G x.2.length g], .slice L qn lc, .agg #[.int .i64 num, .int .i64 tm]] w (LawRet w) := by
  obtain ⟨t, ht⟩ : ∃ t, w.heap.size = t := ⟨_, rfl⟩
  obtain ⟨W3, hW0⟩ : ∃ W0, (w.alloc (.cells #[.slice A x.1.1.length c, .slice D x.1.2.length d, .slice G x.2.length g] 29)).alloc (.cells #[.int .i64 num, .int .i64 tm] 66) = W0 := ⟨_, rfl⟩
  have hB3 : Below w.heap.size w W3 := by rw [← hW0]; repeat (first | exact Below.refl _ _ | refine ext_alloc ?_)
  have hrow0 : W3.heap[t]? = some (.cells #[.slice A x.1.1.length c, .slice D x.1.2.length d, .slice G x.2.length g] 29 (0, 0)) := by rw [← hW0, ← ht]; first | exact heap_alloc_new _ _ | exact (Below.heap_alloc _ _ _ (by simp)).trans (heap_alloc_new _ _)
  have HA : Hid (ClI t x A c D d G g W3) := ⟨hrow0, h.keep (fun q hq => hB3.block q hq) (fun q hq => by have : q < w.heap.size := hq; have := hB3.size; exact ⟨by omega, by omega⟩)⟩
  have HXW : Hid (∀ W, Below w.heap.size w W → W.heap[t]? = some (.cells #[.slice A x.1.1.length c, .slice D x.1.2.length d, .slice G x.2.length g] 29 (0, 0)) → ClI t x A c D d G g W) := fun W hb hr => ⟨hr, h.keep (fun q hq => hb.block q hq) (fun q hq => by have : q < w.heap.size := hq; have := hb.size; exact ⟨by omega, by omega⟩)⟩
  have HG0 : Hid (∀ W, Below w.heap.size w W → SlAt encCln W (fun q => q < w.heap.size ∧ q < W.heap.size) G x.2) := fun W hb => (h.cl.2.2.blk (fun q hq => hb.block q hq)).more (fun q hq => ⟨hq, by have : q < w.heap.size := hq; have := hb.size; omega⟩)
  obtain ⟨q, hq⟩ : ∃ q, fewC x = q := ⟨_, rfl⟩
  have HFW := Lib.hid (riFew HA.out hq)
  have htw : w.heap.size ≤ t ∧ t ≤ w.heap.size := by omega
  have HQ := Lib.hid hq
  clear h hrow0 hq
  have hrw : W3.heap[t + 1]? = some (.cells #[.int .i64 num, .int .i64 tm] 66 (0, 0)) := by rw [← hW0, ← ht]; exact heap_new2 _ _ _
  have HWR := Lib.hid hrw
  have htl := (Array.getElem?_eq_some_iff.1 hrw).1
  have H4 : Hid (∀ W, Below w.heap.size w W → SlAt encWr W (Bl W.heap.size) L ws) := fun W hb => h4.fwd hb
  clear h4 hrw
  obtain ⟨k0, k1, k2, kf⟩ := blk3 HA.out.row
  go_enter Tryz.func6, Tryz.ntmps6
  go_wp2_with fail
  clear hW0 ht
  refine HFW.out.mono ?_
  rintro e w1 ⟨rfl, hb1⟩
  replace HA := Lib.hid (HA.out.below hb1)
  have hrw1 := (hb1.block (t + 1) htl).trans HWR.out
  have htl1 : t + 1 < w1.heap.size := by have := hb1.size; omega
  clear HWR htl
  have hB1 := ext_trans hB3 hb1
  clear k0 k1 k2 kf HFW hB3
  have hB3 := hB1
  clear hB1
  cases q with
  | false =>
    go_wp2_with fail
    refine (awake37_any _).mono ?_
    rintro e wz ⟨rfl, hbz⟩
    go_wp2
    go_ret
    exact ⟨rfl, ext_trans hB3 hbz⟩
  | true =>
  obtain ⟨q2, hq2⟩ : ∃ q, fewL ws = q := ⟨_, rfl⟩
  have HQ2 := Lib.hid hq2
  have HQN := Lib.hid hqn
  have HF2 : Hid (Calls Tryz.prog 31 #[.slice L qn lc] w1 fun e w' => e = .returned (.bool q2) ∧ w' = w1) := by
    have h := few_any L lc _ ws w1 (H4.out _ hB3) (by omega)
    rw [hq2, hqn] at h
    exact h
  clear hq2 hqn
  go_wp2_with fail
  refine HF2.out.mono ?_
  rintro e w2 ⟨rfl, rfl⟩
  clear HF2
  cases q2 with
  | false =>
    go_wp2_with fail
    refine (awake37_any _).mono ?_
    rintro e wz ⟨rfl, hbz⟩
    go_wp2
    go_ret
    exact ⟨rfl, ext_trans hB3 hbz⟩
  | true =>
  have hq40 : qn ≤ 40 := by
    have h := HQ2.out
    unfold fewL at h
    rw [Bool.and_eq_true, decide_eq_true_eq, HQN.out] at h
    exact h.1
  obtain ⟨x1, hx1⟩ : ∃ y, repS x ws = y := ⟨_, rfl⟩
  obtain ⟨n1, hn1⟩ : ∃ y, repE x ws = y := ⟨_, rfl⟩
  obtain ⟨x2, hx2⟩ : ∃ y, cTak x num tm = y := ⟨_, rfl⟩
  obtain ⟨n2, hn2⟩ : ∃ y, cTakE x num tm = y := ⟨_, rfl⟩
  have E1 := Lib.hid (And.intro hx1 hn1); have E2 := Lib.hid (And.intro hx2 hn2)
  clear hx1 hn1 hx2 hn2
  obtain ⟨W3, rfl⟩ : ∃ W : World, W = w2 := ⟨_, rfl⟩
  obtain ⟨k0, k1, k2, kf⟩ := blk3 HA.out.row
  go_wp2_with fail
  refine (ciReplicate HA.out HQ.out HQN.out E1.out (H4.out _ hB3) (by omega)).mono ?_
  rintro e w5 ⟨A1, c1, D1, d1, G1, g1, rfl, hat, hb5⟩
  clear k0 k1 k2 kf
  obtain ⟨t1, ht1⟩ : ∃ u, w5.heap.size = u := ⟨_, rfl⟩
  obtain ⟨W6, hW6⟩ : ∃ W6, w5.alloc (.cells #[.slice A1 (x1).1.1.length c1, .slice D1 (x1).1.2.length d1, .slice G1 (x1).2.length g1] 29) = W6 := ⟨_, rfl⟩
  have HV1 : Hid (ClI t1 x1 A1 c1 D1 d1 G1 g1 W6) := by rw [Hid, ← hW6, ← ht1]; exact ClI.mkNew hat (fun q hq => hq.2)
  have hbX : Below W3.heap.size W3 W6 := by rw [← hW6]; exact ext_alloc hb5
  have hB6 := ext_trans hB3 hbX
  have hz1 : W3.heap.size ≤ t1 := by have := hb5.size; omega
  clear hat hb5 hB3 hqm
  go_upto_region 4 with (fail)
  try rw [hW6]
  try rw [ht1]
  clear hW6 ht1
  have hB3 := hB6
  clear hB6
  have hwt1 : t + 1 < t1 := by omega
  replace HA := Lib.hid (HA.out.below hbX)
  have hrw0 := (hbX.block (t + 1) htl1).trans hrw1
  have htl0 : t + 1 < W6.heap.size := by have := hbX.size; omega
  clear hbX hrw1 htl1
  obtain ⟨W3, rfl⟩ : ∃ W : World, W = W6 := ⟨_, rfl⟩
  obtain ⟨k0, k1, k2, kf⟩ := blk3 HA.out.row
  go_wp2_with fail
  refine (riReplicate HA.out HQ.out HQN.out E1.out (H4.out _ hB3) (by omega)).mono ?_
  rintro e w5 ⟨A2, c2, D2, d2, G2, g2, rfl, hat, hb5⟩
  clear k0 k1 k2 kf
  obtain ⟨t2, ht2⟩ : ∃ u, w5.heap.size = u := ⟨_, rfl⟩
  obtain ⟨W6, hW6⟩ : ∃ W6, w5.alloc (.cells #[.slice A2 (x1).1.1.length c2, .slice D2 (x1).1.2.length d2, .slice G2 (x1).2.length g2] 29) = W6 := ⟨_, rfl⟩
  have HV2 : Hid (ClI t2 x1 A2 c2 D2 d2 G2 g2 W6) := by rw [Hid, ← hW6, ← ht2]; exact ClI.mkNew hat (fun q hq => hq.2)
  have hbX : Below W3.heap.size W3 W6 := by rw [← hW6]; exact ext_alloc hb5
  have hB6 := ext_trans hB3 hbX
  have hz2 : W3.heap.size ≤ t2 := by have := hb5.size; omega
  clear hat hb5 hB3 hq40
  go_upto_region 5 with (fail)
  try rw [hW6]
  try rw [ht2]
  clear hW6 ht2
  have hB3 := hB6
  clear hB6
  have ht12 : t1 < t2 := by have := HV1.out.lt; omega
  replace HA := Lib.hid (HA.out.below hbX)
  replace HV1 := Lib.hid (HV1.out.below hbX)
  have hrw2 := (hbX.block (t + 1) htl0).trans hrw0
  have htl2 : t + 1 < W6.heap.size := by have := hbX.size; omega
  clear hbX hrw0 htl0
  obtain ⟨W3, rfl⟩ : ∃ W : World, W = W6 := ⟨_, rfl⟩
  obtain ⟨k0, k1, k2, kf⟩ := blk3 HV1.out.row
  obtain ⟨l0, l1, l2, lf⟩ := blk3 HV2.out.row
  go_wp2_with fail
  refine (riSame HV1.out HV2.out).mono ?_
  rintro e w6 ⟨rfl, hb6⟩
  clear k0 k1 k2 kf l0 l1 l2 lf
  replace HA := Lib.hid (HA.out.below hb6)
  have hrw3 := (hb6.block (t + 1) htl2).trans hrw2
  have htl3 : t + 1 < w6.heap.size := by have := hb6.size; omega
  clear hrw2 htl2
  replace HV1 := Lib.hid (HV1.out.below hb6)
  replace HV2 := Lib.hid (HV2.out.below hb6)
  have hB6 := ext_trans hB3 hb6
  clear hb6 hB3
  have hB3 := hB6
  clear hB6
  obtain ⟨W3, rfl⟩ : ∃ W : World, W = w6 := ⟨_, rfl⟩
  obtain ⟨y0, y1, _⟩ := blk2 hrw3
  obtain ⟨k0, k1, k2, kf⟩ := blk3 HA.out.row
  go_wp2_with fail
  refine (ciTake HA.out HQ.out hI E2.out).mono ?_
  rintro e w5 ⟨A5, c5, D5, d5, G5, g5, rfl, hat, hb5⟩
  clear k0 k1 k2 kf
  have HRW := Lib.hid ((hb5.block (t + 1) htl3).trans hrw3)
  clear y0 y1 hrw3 htl3
  have hl2 := HV2.out.lt
  have hl1 := HV1.out.lt
  have hsx : ∀ q, Nw W3.heap.size w5.heap.size q → q ≠ t1 ∧ q ≠ t2 ∧ q < w5.heap.size := fun q hq => ⟨by have := hq.1; omega, by have := hq.1; omega, hq.2⟩
  have HR0 := Lib.hid (HA.out.below hb5).row
  have HR2 := Lib.hid (HV2.out.below hb5).row
  have hl52 : t2 < w5.heap.size := by have := hb5.size; omega
  -- the variable T is stored anew behind a call
  have hrow5 := (HV1.out.below hb5).row
  have HV5 : Hid (ClJ t1 t2 x2 A5 c5 D5 d5 G5 g5 (sw3 w5 t1 (.slice A5 (x2).1.1.length c5) (.slice D5 (x2).1.2.length d5) (.slice G5 (x2).2.length g5))) := ClJ.store2 hat hrow5 hsx
  have hk5 : ∀ b, b ≠ t1 → (sw3 w5 t1 (.slice A5 (x2).1.1.length c5) (.slice D5 (x2).1.2.length d5) (.slice G5 (x2).2.length g5)).heap[b]? = w5.heap[b]? := fun b hb => sw3_other hb _ _ _
  have hz5 : (sw3 w5 t1 (.slice A5 (x2).1.1.length c5) (.slice D5 (x2).1.2.length d5) (.slice G5 (x2).2.length g5)).heap.size = w5.heap.size := sw3_sz
  have hB6 : Below w.heap.size w (sw3 w5 t1 (.slice A5 (x2).1.1.length c5) (.slice D5 (x2).1.2.length d5) (.slice G5 (x2).2.length g5)) := sw3_below (ext_trans hB3 hb5) (by omega) _ _ _
  obtain ⟨v0, v1, v2, vf⟩ := blk3 hrow5
  have HK5 := Lib.hid hk5
  have HZ5 := Lib.hid hz5
  clear hat hrow5 hsx hB3 hk5 hz5 hb5 hl1 hl2 HV1 HV2 HA
  go_upto_region 8 with (fail)
  change Code.wp _ _ _ _ (sw3 w5 t1 (.slice A5 (x2).1.1.length c5) (.slice D5 (x2).1.2.length d5) (.slice G5 (x2).2.length g5))
  clear v0 v1 v2 vf
  generalize sw3 w5 t1 (.slice A5 (x2).1.1.length c5) (.slice D5 (x2).1.2.length d5) (.slice G5 (x2).2.length g5) = W6 at HV5 HK5 HZ5 hB6 ⊢
  have hB3 := hB6
  clear hB6
  have hl62 : t2 < W6.heap.size := by have := HZ5.out; omega
  have HA := Lib.hid (HXW.out W6 hB3 ((HK5.out t (by omega)).trans HR0.out))
  have hrw4 := (HK5.out (t + 1) (by omega)).trans HRW.out
  clear HRW
  have HR6 := Lib.hid ((HK5.out t2 (by omega)).trans HR2.out)
  have HV1 := HV5
  clear HR0 HR2 HK5 HZ5 HV5 hl52
  obtain ⟨W3, rfl⟩ : ∃ W : World, W = W6 := ⟨_, rfl⟩
  obtain ⟨y0, y1, _⟩ := blk2 hrw4
  obtain ⟨k0, k1, k2, kf⟩ := blk3 HA.out.row
  go_wp2_with fail
  refine (riTake (S0 := fun q => q < w.heap.size) HA.out (HG0.out _ hB3) HQ.out hI E2.out).mono ?_
  rintro e w5 ⟨A5, c5, D5, d5, G5, g5, rfl, hat, hb5⟩
  clear k0 k1 k2 kf
  clear y0 y1 hrw4
  have hsx : ∀ q, ((q < w.heap.size ∨ W3.heap.size ≤ q) ∧ q < w5.heap.size) → q ≠ t2 ∧ q ≠ t1 ∧ q < w5.heap.size := fun q hq => by
    have h1 := HV1.out.cli.lt
    refine ⟨?_, ?_, hq.2⟩
    · rcases hq.1 with h | h <;> omega
    · rcases hq.1 with h | h <;> omega
  have HR0 := Lib.hid (HA.out.below hb5).row
  have HV1b := Lib.hid (HV1.out.below hb5)
  -- the variable T is stored anew behind a call
  have hrow5 := (hb5.block t2 hl62).trans HR6.out
  have HV5 : Hid (ClJ t2 t1 x2 A5 c5 D5 d5 G5 g5 (sw3 w5 t2 (.slice A5 (x2).1.1.length c5) (.slice D5 (x2).1.2.length d5) (.slice G5 (x2).2.length g5))) := ClJ.store2 hat hrow5 hsx
  have hk5 : ∀ b, b ≠ t2 → (sw3 w5 t2 (.slice A5 (x2).1.1.length c5) (.slice D5 (x2).1.2.length d5) (.slice G5 (x2).2.length g5)).heap[b]? = w5.heap[b]? := fun b hb => sw3_other hb _ _ _
  have hz5 : (sw3 w5 t2 (.slice A5 (x2).1.1.length c5) (.slice D5 (x2).1.2.length d5) (.slice G5 (x2).2.length g5)).heap.size = w5.heap.size := sw3_sz
  have hB6 : Below w.heap.size w (sw3 w5 t2 (.slice A5 (x2).1.1.length c5) (.slice D5 (x2).1.2.length d5) (.slice G5 (x2).2.length g5)) := sw3_below (ext_trans hB3 hb5) (by omega) _ _ _
  obtain ⟨v0, v1, v2, vf⟩ := blk3 hrow5
  have HK5 := Lib.hid hk5
  have HZ5 := Lib.hid hz5
  clear hat hrow5 hsx hB3 hk5 hz5 hb5 HV1 HA HR6 hl62
  go_upto_region 9 with (fail)
  change Code.wp _ _ _ _ (sw3 w5 t2 (.slice A5 (x2).1.1.length c5) (.slice D5 (x2).1.2.length d5) (.slice G5 (x2).2.length g5))
  clear v0 v1 v2 vf
  generalize sw3 w5 t2 (.slice A5 (x2).1.1.length c5) (.slice D5 (x2).1.2.length d5) (.slice G5 (x2).2.length g5) = W6 at HV5 HK5 HZ5 hB6 ⊢
  have hB3 := hB6
  clear hB6
  have HA := Lib.hid (HXW.out W6 hB3 ((HK5.out t (by omega)).trans HR0.out))
  have HV1 := Lib.hid (HV1b.out.other (by omega) HK5.out HZ5.out).cli
  have HV2 := Lib.hid HV5.out.cli
  clear HR0 HV1b HK5 HZ5 HV5
  obtain ⟨W3, rfl⟩ : ∃ W : World, W = W6 := ⟨_, rfl⟩
  go_wp2_with fail
  refine (awake37_any _).mono ?_
  rintro e wz ⟨rfl, hbz⟩
  replace HV1 := Lib.hid (HV1.out.below hbz)
  replace HV2 := Lib.hid (HV2.out.below hbz)
  obtain ⟨k0, k1, k2, kf⟩ := blk3 HV1.out.row
  obtain ⟨l0, l1, l2, lf⟩ := blk3 HV2.out.row
  go_wp2_with fail
  refine (riSame HV1.out HV2.out).mono ?_
  rintro e w6 ⟨rfl, hb6⟩
  clear k0 k1 k2 kf l0 l1 l2 lf
  go_wp2_with fail
  go_ret
  exact ⟨rfl, ext_trans hB3 (ext_trans hbz hb6)⟩
end Go.Proofs.YtgndgkjefgjamaaGreat
