/-
  Reference 37: New, changed.; Reference 37: Create.; The laws on clones: a variable of clones, and what each call does to it.; The law of Create, New, Check on clones: the walk.
-/
import Derived.BigQuiet
import Derived.Test.YtgndgkjefgjamaaGreatZ01
import Derived.Test.YtgndgkjefgjamaaGreatZ02
import Derived.Test.YtgndgkjefgjamaaGreatZ03
import Derived.Test.YtgndgkjefgjamaaGreatZ04
import Derived.Test.YtgndgkjefgjamaaGreatZ05
import Derived.Test.YtgndgkjefgjamaaGreatZ06
import Derived.Test.YtgndgkjefgjamaaGreatZ07
import Derived.Test.YtgndgkjefgjamaaGreatZ08
import Derived.Test.YtgndgkjefgjamaaGreatZ09
import Derived.Test.YtgndgkjefgjamaaGreatZ10
import Derived.Test.YtgndgkjefgjamaaGreatZ11
import Derived.Test.YtgndgkjefgjamaaGreatZ12
import Derived.Test.YtgndgkjefgjamaaGreatZ13
import Derived.Test.YtgndgkjefgjamaaGreatZ14
import Derived.Test.YtgndgkjefgjamaaGreatZ15
import Derived.Test.YtgndgkjefgjamaaGreatZ16
import Derived.Test.YtgndgkjefgjamaaGreatZ17
import Derived.Test.YtgndgkjefgjamaaGreatZ20
set_option linter.unusedVariables false
set_option linter.unusedSimpArgs false
set_option linter.unusedSectionVars false
set_option linter.unnecessarySimpa false
namespace Go.Proofs.YtgndgkjefgjamaaGreat
open Go.RowKit Go.Shelf
attribute [local go_sem] Oper.semAt_some

set_option maxHeartbeats 2000000 in
set_option maxRecDepth 100000 in
theorem rcNew_any (A A2 : Option Addr) (c c2 n m : Nat) (im : Img) (l : List Snp) (w : World) (hn : im.length = n) (hm : l.length = m) (hc : n ≤ c ∧ c ≤ maxLen) (hc2 : m ≤ c2 ∧ c2 ≤ maxLen) (h1 : SlAt (encSl encSec) w (Bl w.heap.size) A im) (h2 : SlAt encSnp w (Bl w.heap.size) A2 l) (hL : SnLim im l) :
    Calls Tryz.prog 15 #[.agg #[.slice A n c, .slice A2 m c2]] w (RdCl (fun q => q < w.heap.size) (clNew (im, l)) (snE (im, l)) w) := by
  subst hn hm
  obtain ⟨n0, hn0⟩ : ∃ n0, w.heap.size = n0 := ⟨_, rfl⟩
  obtain ⟨W0, hW0⟩ : ∃ W0, (w.alloc (.cells #[.slice A im.length c, .slice A2 l.length c2] 26)).alloc (.cells #[.slice none 0 0, .slice none 0 0, .slice none 0 0] 29) = W0 := ⟨_, rfl⟩
  have hB0 : Below n0 w W0 := by rw [← hW0, ← hn0]; exact ext_alloc (ext_alloc (Below.refl _ _))
  have hr0 : W0.heap[n0]? = some (.cells #[.slice A im.length c, .slice A2 l.length c2] 26 (0, 0)) := by
    rw [← hW0, ← hn0]; exact (Below.heap_alloc _ _ _ (by simp)).trans (heap_alloc_new _ _)
  have hr1 : W0.heap[n0 + 1]? = some (.cells #[.slice none 0 0, .slice none 0 0, .slice none 0 0] 29 (0, 0)) := by
    rw [← hW0, ← hn0]; exact heap_new2 _ _ _
  obtain ⟨n2, hn2⟩ : ∃ n2, W0.heap.size = n2 := ⟨_, rfl⟩
  have hn02 : n0 + 1 < n2 := by rw [← hn2]; exact (Array.getElem?_eq_some_iff.1 hr1).1
  have up : ∀ {α : Type} {E : Enc α} {A : Option Addr} {l : List α}, SlAt E w (Bl w.heap.size) A l → ∀ W, Below n2 W0 W → SlAt E W (fun g => g < n0) A l := fun h W hb => by
    rw [hn0] at h
    exact h.blk (fun g hg => (hb.block g (by have : g < n0 := hg; omega)).trans (hB0.block g hg))
  have H1 := Lib.hid (up h1)
  have H2 := Lib.hid (up h2)
  obtain ⟨s0, hs0⟩ : ∃ s0, snE (im, l) = s0 := ⟨_, rfl⟩
  have hl1 := hL.ims
  have hl2 := hL.its
  have hzz : n0 ≤ W0.heap.size := by omega
  have HSC := Lib.hid (refSnCheck_any A A2 c c2 im.length l.length im l s0 W0 rfl rfl hs0 ((H1.out W0 (Below.refl _ _)).more (fun g hg => Nat.lt_of_lt_of_le hg hzz)) ((H2.out W0 (Below.refl _ _)).more (fun g hg => Nat.lt_of_lt_of_le hg hzz)) hl1 (by omega))
  have HS0 := Lib.hid hs0
  have HN0 := Lib.hid hn0
  have HN2 := Lib.hid hn2
  have HB0 : Hid (Below w.heap.size w W0) := by rw [hn0]; exact hB0
  have hN0 : n0 ≤ w.heap.size ∧ w.heap.size ≤ n0 := by omega
  rw [hs0]
  obtain ⟨p0, p1, _⟩ := blk2 hr0
  clear h1 h2 up hB0 hL hs0
  go_enter Tryz.func15, Tryz.ntmps15
  go_wp2_with fail
  refine HSC.out.mono ?_
  rintro e w1 ⟨rfl, hb1⟩
  rw [HN2.out] at hb1
  have hz1 := hb1.size
  have hr11 := (hb1.block (n0 + 1) (by omega)).trans hr1
  have hr01 := (hb1.block n0 (by omega)).trans hr0
  have hbw1 : Below w.heap.size w w1 := HB0.out.trans (hb1.mono (by omega))
  clear p0 p1 HSC hn2 hn0 hW0
  obtain ⟨v0, v1, v2, vf⟩ := blk3 hr11
  by_cases hx0 : s0 = 0
  case neg =>
    have hx0' : (s0 != 0) = true := by simp [hx0]
    have HT : Hid (clNew (im, l) = zCls) := by rw [Hid, clNew, HS0.out, if_neg hx0]
    clear hx0
    go_wp2_with fail
    have hend := rd_end (w := w) (x := zCls) (A := none) (c := 0) (D := none) (d := 0) (G := none) (g := 0) hr11 (by omega) hbw1 (ClAt.zero (S := fun q => q < w.heap.size ∧ q < w1.heap.size ∧ q ≠ n0 + 1)) s0
    obtain ⟨hz, hret⟩ := hend
    change bodyPost _ _ _ _ _ (sw3 w1 (n0 + 1) (.slice none (zCls).1.1.length 0) (.slice none (zCls).1.2.length 0) (.slice none (zCls).2.length 0))
    generalize sw3 w1 (n0 + 1) (.slice none (zCls).1.1.length 0) (.slice none (zCls).1.2.length 0) (.slice none (zCls).2.length 0) = W3 at hz hret ⊢
    obtain ⟨z0, z1, z2, _⟩ := blk3 hz
    refine bodyPost_ret (v := .tuple #[.agg #[.slice none (zCls).1.1.length 0, .slice none (zCls).1.2.length 0, .slice none (zCls).2.length 0], .int .i64 s0]) ?_ rfl ?_
    · simp [results, Tryz.results15, Tryz.f15, go_sem, z0, z1, z2, zCls, zSns]
    rw [HT.out]; exact hret
  have hx0' : (s0 != 0) = false := by simp [hx0]
  have HT : Hid (clNew (im, l) = ((im, l), [])) := by rw [Hid, clNew, HS0.out, if_pos hx0]
  subst hx0
  have HCL : Hid (ClAt (((im, l), []) : Cls) A c A2 c2 none 0 (fun q => q < w.heap.size ∧ q < w1.heap.size ∧ q ≠ n0 + 1) w1) :=
    ⟨⟨hc.1, hc.2, (H1.out w1 hb1).more (fun g hg => ⟨by have : g < n0 := hg; omega, by have : g < n0 := hg; have := HN2.out; omega, by have : g < n0 := hg; omega⟩)⟩,
      ⟨hc2.1, hc2.2, (H2.out w1 hb1).more (fun g hg => ⟨by have : g < n0 := hg; omega, by have : g < n0 := hg; have := HN2.out; omega, by have : g < n0 := hg; omega⟩)⟩,
      ⟨by simp, by simp, SlAt.nil_⟩⟩
  obtain ⟨p0, p1, _⟩ := blk2 hr01
  go_wp2_with fail
  have hend := rd_end (w := w) (x := (((im, l), []) : Cls)) (A := A) (c := c) (D := A2) (d := c2) (G := none) (g := 0) hr11 (by omega) hbw1 HCL.out 0
  obtain ⟨hz, hret⟩ := hend
  change bodyPost _ _ _ _ _ (sw3 w1 (n0 + 1) (.slice A ((((im, l), []) : Cls)).1.1.length c) (.slice A2 ((((im, l), []) : Cls)).1.2.length c2) (.slice none ((((im, l), []) : Cls)).2.length 0))
  generalize sw3 w1 (n0 + 1) (.slice A ((((im, l), []) : Cls)).1.1.length c) (.slice A2 ((((im, l), []) : Cls)).1.2.length c2) (.slice none ((((im, l), []) : Cls)).2.length 0) = W3 at hz hret ⊢
  obtain ⟨z0, z1, z2, _⟩ := blk3 hz
  refine bodyPost_ret (v := .tuple #[.agg #[.slice A ((((im, l), []) : Cls)).1.1.length c, .slice A2 ((((im, l), []) : Cls)).1.2.length c2, .slice none ((((im, l), []) : Cls)).2.length 0], .int .i64 0]) ?_ rfl ?_
  · simp [results, Tryz.results15, Tryz.f15, go_sem, z0, z1, z2, zCls, zSns]
  rw [HT.out]; exact hret
end Go.Proofs.YtgndgkjefgjamaaGreat
namespace Go.Proofs.YtgndgkjefgjamaaGreat
open Go.RowKit Go.Shelf
attribute [local go_sem] Oper.semAt_some

set_option maxHeartbeats 4000000 in
set_option maxRecDepth 100000 in
theorem rcCreate_any (A A2 A3 : Option Addr) (c c2 c3 n m p : Nat) (im : Img) (l : List Snp) (cl : List Cln) (nm : ByteArray) (num : Int) (w : World) (hn : im.length = n) (hm : l.length = m) (hp : cl.length = p) (hc : n ≤ c ∧ c ≤ maxLen) (hc2 : m ≤ c2 ∧ c2 ≤ maxLen) (hc3 : p ≤ c3 ∧ c3 ≤ maxLen) (h1 : SlAt (encSl encSec) w (Bl w.heap.size) A im) (h2 : SlAt encSnp w (Bl w.heap.size) A2 l) (h3 : SlAt encCln w (Bl w.heap.size) A3 cl) (hL : ClLim (im, l) cl) (hnm : nm.size ≤ maxLen) (hI : I64 num) :
    Calls Tryz.prog 13 #[.agg #[.slice A n c, .slice A2 m c2, .slice A3 p c3], .string nm, .int .i64 num] w (RdCl (fun _ => True) (creS ((im, l), cl) nm num) (creE ((im, l), cl) nm num) w) := by
  subst hn hm hp
  have h1' := h1
  have h2' := h2
  have h3' := h3
  have HK1 : Hid (∀ W, Below w.heap.size w W → SlAt (encSl encSec) W (Bl w.heap.size) A im) := fun W hb => h1'.below hb
  have HK2 : Hid (∀ W, Below w.heap.size w W → SlAt encSnp W (Bl w.heap.size) A2 l) := fun W hb => h2'.below hb
  have HK3 : Hid (∀ W, Below w.heap.size w W → SlAt encCln W (Bl w.heap.size) A3 cl) := fun W hb => h3'.below hb
  clear h1' h2' h3'
  obtain ⟨n0, hn0⟩ : ∃ n0, w.heap.size = n0 := ⟨_, rfl⟩
  obtain ⟨W0, hW0⟩ : ∃ W0, (w.alloc (.cells #[.slice A im.length c, .slice A2 l.length c2, .slice A3 cl.length c3] 29)).alloc (.cells #[.slice none 0 0, .slice none 0 0, .slice none 0 0] 29) = W0 := ⟨_, rfl⟩
  have hB0 : Below n0 w W0 := by rw [← hW0, ← hn0]; repeat (first | exact Below.refl _ _ | refine ext_alloc ?_)
  have hr0 : W0.heap[n0]? = some (.cells #[.slice A im.length c, .slice A2 l.length c2, .slice A3 cl.length c3] 29 (0, 0)) := by rw [← hW0, ← hn0]; exact (Below.heap_alloc _ _ _ (by simp)).trans (heap_alloc_new _ _)
  have hr1 : W0.heap[n0 + 1]? = some (.cells #[.slice none 0 0, .slice none 0 0, .slice none 0 0] 29 (0, 0)) := by rw [← hW0, ← hn0]; exact heap_new2 _ _ _
  obtain ⟨n2, hn2⟩ : ∃ n2, W0.heap.size = n2 := ⟨_, rfl⟩
  have hn02 : n0 + 1 < n2 := by rw [← hn2]; exact (Array.getElem?_eq_some_iff.1 hr1).1
  have up : ∀ {α : Type} {E : Enc α} {A : Option Addr} {l : List α}, SlAt E w (Bl w.heap.size) A l → ∀ W, Below n2 W0 W → SlAt E W (Bl W.heap.size) A l := fun h W hb => by
    rw [hn0] at h
    exact (h.blk (fun g hg => (hb.block g (by have : g < n0 := hg; omega)).trans (hB0.block g hg))).more (fun g hg => by have : g < n0 := hg; have := hb.size; show g < W.heap.size; omega)
  have H1 := Lib.hid (up h1)
  have H2 := Lib.hid (up h2)
  have H3 := Lib.hid (up h3)
  have HC : Hid (∀ W, Below n2 W0 W → W.cell? ⟨n0, 0, none⟩ = some (.slice A im.length c) ∧ W.cell? ⟨n0, 1, none⟩ = some (.slice A2 l.length c2) ∧ W.cell? ⟨n0, 2, none⟩ = some (.slice A3 cl.length c3)) := fun W hb => by
    obtain ⟨a, b, d, _⟩ := blk3 ((hb.block _ (by omega)).trans hr0)
    exact ⟨a, b, d⟩
  have HRR : Hid (∀ W, Below n2 W0 W → W.heap[n0 + 1]? = some (.cells #[.slice none 0 0, .slice none 0 0, .slice none 0 0] 29 (0, 0))) := fun W hb => (hb.block _ (by omega)).trans hr1
  have HROW0 : Hid (∀ W, Below n2 W0 W → W.heap[n0]? = some (.cells #[.slice A im.length c, .slice A2 l.length c2, .slice A3 cl.length c3] 29 (0, 0))) := fun W hb => (hb.block _ (by omega)).trans hr0
  have HBW : Hid (∀ W, Below n2 W0 W → Below w.heap.size w W) := fun W hb => by rw [hn0]; exact hB0.trans (hb.mono (by omega))
  have HN0 := Lib.hid hn0
  have HN2 := Lib.hid hn2
  have hN0 : n0 ≤ w.heap.size ∧ w.heap.size ≤ n0 := by omega
  have hl1 := hL.sn.ims
  have hl2 := hL.sn.its
  have hl3 := hL.its
  have HLM := Lib.hid hL
  simp only at hl1 hl2
  obtain ⟨s0, hs0⟩ : ∃ s0, clE ((im, l), cl) = s0 := ⟨_, rfl⟩
  have HCK := Lib.hid (fun W (hb : Below n2 W0 W) => clCheck_any A A2 A3 c c2 c3 im.length l.length cl.length im l cl s0 W rfl rfl rfl hs0 (H1.out W hb) (H2.out W hb) (H3.out W hb) hl1 (by omega) (by omega))
  have HOW := Lib.hid (fun W (hb : Below n2 W0 W) => own37_any A A2 A3 c c2 c3 im.length l.length cl.length im l cl W rfl rfl rfl (H1.out W hb) (H2.out W hb) (H3.out W hb) HLM.out)
  have HS0 := Lib.hid hs0
  have hB00 := Below.refl n2 W0
  obtain ⟨p0, p1, p2⟩ := HC.out W0 hB00
  clear h1 h2 h3 up hB0 hL hr0 hr1 hs0
  have HCE : Hid (creE ((im, l), cl) nm num = if s0 ≠ 0 then s0 else if nameB nm = false then 23 else if cl.any (isN nm) = true then 8 else if tkn l num = false then 7 else if 16 ≤ cl.length then 6 else 0) := by rw [Hid, creE, HS0.out]
  have HER : Hid (∀ q : Int, creE ((im, l), cl) nm num = q → q ≠ 0 → creS ((im, l), cl) nm num = zCls) := fun q h hq => by rw [creS, if_neg (by rw [h]; exact hq)]
  obtain ⟨q1, hq1⟩ : ∃ q, nameB nm = q := ⟨_, rfl⟩
  obtain ⟨iv, hiv⟩ : ∃ i, idxAt (isN nm) cl = i := ⟨_, rfl⟩
  obtain ⟨q3, hq3⟩ : ∃ q, tkn l num = q := ⟨_, rfl⟩
  have hia := idxAt_any (P := isN nm) (l := cl)
  rw [hiv] at hia
  have HIN := Lib.hid (fun W => rcName_any nm W q1 hq1 hnm)
  have HIX := Lib.hid (fun W (hb : Below n2 W0 W) => rcFind_any A3 c3 cl.length cl nm W rfl (H3.out W hb) (by omega) iv hiv)
  have HTK := Lib.hid (fun W (hb : Below n2 W0 W) => rcTaken_any A A2 c c2 im.length l.length l num W rfl (H2.out W hb) (by omega) q3 hq3)
  rw [hq1, hq3, ← hia] at HCE
  have HCK0 := Lib.hid (rcCheck_any A A2 A3 c c2 c3 im.length l.length cl.length im l cl s0 W0 hc3.1 rfl rfl rfl HS0.out (H1.out W0 hB00) (H2.out W0 hB00) (H3.out W0 hB00) hl1 (by omega) (by omega))
  clear HCK HOW
  clear hq1 hiv hq3 hia
  go_enter Tryz.func13, Tryz.ntmps13
  go_wp2_with fail
  refine HCK0.out.mono ?_
  rintro e w1 ⟨rfl, hb1⟩
  rw [HN2.out] at hb1
  clear p0 p1 p2 HCK0 hn2 hn0 hW0
  have hr1 := HRR.out w1 hb1
  by_cases hx0 : s0 = 0
  case neg =>
    have hx0' : (s0 != 0) = true := by simp [hx0]
    have HE : Hid (creE ((im, l), cl) nm num = s0) := by rw [Hid, HCE.out, if_pos hx0]
    have HT := Lib.hid (HER.out s0 HE.out hx0)
    clear hx0
    obtain ⟨v0, v1, v2, vf⟩ := blk3 hr1
    go_wp2_with fail
    have hend := rd_end (w := w) (x := zCls) (A := none) (c := 0) (D := none) (d := 0) (G := none) (g := 0) hr1 (by omega) (HBW.out w1 hb1) (ClAt.zero (S := fun q => True ∧ q < w1.heap.size ∧ q ≠ n0 + 1)) s0
    obtain ⟨hz, hret⟩ := hend
    change bodyPost _ _ _ _ _ (sw3 w1 (n0 + 1) (.slice none (zCls).1.1.length 0) (.slice none (zCls).1.2.length 0) (.slice none (zCls).2.length 0))
    generalize sw3 w1 (n0 + 1) (.slice none (zCls).1.1.length 0) (.slice none (zCls).1.2.length 0) (.slice none (zCls).2.length 0) = W3 at hz hret ⊢
    obtain ⟨z0, z1, z2, _⟩ := blk3 hz
    refine bodyPost_ret (v := .tuple #[.agg #[.slice none (zCls).1.1.length 0, .slice none (zCls).1.2.length 0, .slice none (zCls).2.length 0], .int .i64 s0]) ?_ rfl ?_
    · simp [results, Tryz.results13, Tryz.f13, go_sem, z0, z1, z2, zCls, zSns]
    rw [HT.out, HE.out]; exact hret
  have hx0' : (s0 != 0) = false := by simp [hx0]
  rw [if_neg (by simp [hx0])] at HCE
  subst hx0
  cases q1 with
  | false =>
    have HE : Hid (creE ((im, l), cl) nm num = 23) := by rw [Hid, HCE.out, if_pos rfl]
    have HT := Lib.hid (HER.out 23 HE.out (by decide))
    go_wp2_with fail
    refine (HIN.out w1).mono ?_
    rintro e w2 ⟨rfl, hb2⟩
    have hbb2 : Below n2 W0 w2 := hb1.trans (hb2.mono (by have := hb1.size; have := HN2.out; omega))
    have hr2 := HRR.out w2 hbb2
    obtain ⟨v0, v1, v2, vf⟩ := blk3 hr2
    go_wp2_with fail
    have hend := rd_end (w := w) (x := zCls) (A := none) (c := 0) (D := none) (d := 0) (G := none) (g := 0) hr2 (by omega) (HBW.out w2 hbb2) (ClAt.zero (S := fun q => True ∧ q < w2.heap.size ∧ q ≠ n0 + 1)) 23
    obtain ⟨hz, hret⟩ := hend
    change bodyPost _ _ _ _ _ (sw3 w2 (n0 + 1) (.slice none (zCls).1.1.length 0) (.slice none (zCls).1.2.length 0) (.slice none (zCls).2.length 0))
    generalize sw3 w2 (n0 + 1) (.slice none (zCls).1.1.length 0) (.slice none (zCls).1.2.length 0) (.slice none (zCls).2.length 0) = W3 at hz hret ⊢
    obtain ⟨z0, z1, z2, _⟩ := blk3 hz
    refine bodyPost_ret (v := .tuple #[.agg #[.slice none (zCls).1.1.length 0, .slice none (zCls).1.2.length 0, .slice none (zCls).2.length 0], .int .i64 23]) ?_ rfl ?_
    · simp [results, Tryz.results13, Tryz.f13, go_sem, z0, z1, z2, zCls, zSns]
    rw [HT.out, HE.out]; exact hret
  | true =>
  rw [if_neg (by decide)] at HCE
  go_wp2_with fail
  refine (HIN.out w1).mono ?_
  rintro e w2 ⟨rfl, hb2⟩
  have hbb2 : Below n2 W0 w2 := hb1.trans (hb2.mono (by have := hb1.size; have := HN2.out; omega))
  obtain ⟨p0, p1, p2⟩ := HC.out w2 hbb2
  clear HIN
  go_wp2_with fail
  refine (HIX.out w2 hbb2).mono ?_
  rintro e w3 ⟨rfl, hb3⟩
  have hbb3 : Below n2 W0 w3 := hbb2.trans (hb3.mono (by have := hbb2.size; have := HN2.out; omega))
  clear p0 p1 p2 HIX
  by_cases hiv0 : 0 ≤ iv
  case pos =>
    have HE : Hid (creE ((im, l), cl) nm num = 8) := by rw [Hid, HCE.out, if_pos (decide_eq_true hiv0)]
    have HT := Lib.hid (HER.out 8 HE.out (by decide))
    have hr3 := HRR.out w3 hbb3
    obtain ⟨v0, v1, v2, vf⟩ := blk3 hr3
    go_wp2_with fail
    have hend := rd_end (w := w) (x := zCls) (A := none) (c := 0) (D := none) (d := 0) (G := none) (g := 0) hr3 (by omega) (HBW.out w3 hbb3) (ClAt.zero (S := fun q => True ∧ q < w3.heap.size ∧ q ≠ n0 + 1)) 8
    obtain ⟨hz, hret⟩ := hend
    change bodyPost _ _ _ _ _ (sw3 w3 (n0 + 1) (.slice none (zCls).1.1.length 0) (.slice none (zCls).1.2.length 0) (.slice none (zCls).2.length 0))
    generalize sw3 w3 (n0 + 1) (.slice none (zCls).1.1.length 0) (.slice none (zCls).1.2.length 0) (.slice none (zCls).2.length 0) = W3 at hz hret ⊢
    obtain ⟨z0, z1, z2, _⟩ := blk3 hz
    refine bodyPost_ret (v := .tuple #[.agg #[.slice none (zCls).1.1.length 0, .slice none (zCls).1.2.length 0, .slice none (zCls).2.length 0], .int .i64 8]) ?_ rfl ?_
    · simp [results, Tryz.results13, Tryz.f13, go_sem, z0, z1, z2, zCls, zSns]
    rw [HT.out, HE.out]; exact hret
  rw [if_neg (by simp; omega)] at HCE
  have hivn : decide (0 ≤ iv) = false := decide_eq_false hiv0
  obtain ⟨p0, p1, p2⟩ := HC.out w3 hbb3
  go_wp2_with fail
  refine (HTK.out w3 hbb3).mono ?_
  rintro e w4 ⟨rfl, hb4⟩
  have hbb4 : Below n2 W0 w4 := hbb3.trans (hb4.mono (by have := hbb3.size; have := HN2.out; omega))
  clear p0 p1 p2 HTK
  have hr4 := HRR.out w4 hbb4
  cases q3 with
  | false =>
    have HE : Hid (creE ((im, l), cl) nm num = 7) := by rw [Hid, HCE.out, if_pos rfl]
    have HT := Lib.hid (HER.out 7 HE.out (by decide))
    obtain ⟨v0, v1, v2, vf⟩ := blk3 hr4
    go_wp2_with fail
    have hend := rd_end (w := w) (x := zCls) (A := none) (c := 0) (D := none) (d := 0) (G := none) (g := 0) hr4 (by omega) (HBW.out w4 hbb4) (ClAt.zero (S := fun q => True ∧ q < w4.heap.size ∧ q ≠ n0 + 1)) 7
    obtain ⟨hz, hret⟩ := hend
    change bodyPost _ _ _ _ _ (sw3 w4 (n0 + 1) (.slice none (zCls).1.1.length 0) (.slice none (zCls).1.2.length 0) (.slice none (zCls).2.length 0))
    generalize sw3 w4 (n0 + 1) (.slice none (zCls).1.1.length 0) (.slice none (zCls).1.2.length 0) (.slice none (zCls).2.length 0) = W3 at hz hret ⊢
    obtain ⟨z0, z1, z2, _⟩ := blk3 hz
    refine bodyPost_ret (v := .tuple #[.agg #[.slice none (zCls).1.1.length 0, .slice none (zCls).1.2.length 0, .slice none (zCls).2.length 0], .int .i64 7]) ?_ rfl ?_
    · simp [results, Tryz.results13, Tryz.f13, go_sem, z0, z1, z2, zCls, zSns]
    rw [HT.out, HE.out]; exact hret
  | true =>
  rw [if_neg (by decide)] at HCE
  obtain ⟨p0, p1, p2⟩ := HC.out w4 hbb4
  by_cases h16 : 16 ≤ cl.length
  case pos =>
    have h16' : (16 : Int) ≤ cl.length := by omega
    have HE : Hid (creE ((im, l), cl) nm num = 6) := by rw [Hid, HCE.out, if_pos h16]
    have HT := Lib.hid (HER.out 6 HE.out (by decide))
    obtain ⟨v0, v1, v2, vf⟩ := blk3 hr4
    go_wp2_with fail
    have hend := rd_end (w := w) (x := zCls) (A := none) (c := 0) (D := none) (d := 0) (G := none) (g := 0) hr4 (by omega) (HBW.out w4 hbb4) (ClAt.zero (S := fun q => True ∧ q < w4.heap.size ∧ q ≠ n0 + 1)) 6
    obtain ⟨hz, hret⟩ := hend
    change bodyPost _ _ _ _ _ (sw3 w4 (n0 + 1) (.slice none (zCls).1.1.length 0) (.slice none (zCls).1.2.length 0) (.slice none (zCls).2.length 0))
    generalize sw3 w4 (n0 + 1) (.slice none (zCls).1.1.length 0) (.slice none (zCls).1.2.length 0) (.slice none (zCls).2.length 0) = W3 at hz hret ⊢
    obtain ⟨z0, z1, z2, _⟩ := blk3 hz
    refine bodyPost_ret (v := .tuple #[.agg #[.slice none (zCls).1.1.length 0, .slice none (zCls).1.2.length 0, .slice none (zCls).2.length 0], .int .i64 6]) ?_ rfl ?_
    · simp [results, Tryz.results13, Tryz.f13, go_sem, z0, z1, z2, zCls, zSns]
    rw [HT.out, HE.out]; exact hret
  have h16' : ¬ (16 : Int) ≤ cl.length := by omega
  have HE : Hid (creE ((im, l), cl) nm num = 0) := by rw [Hid, HCE.out, if_neg h16]
  have HT : Hid (creS ((im, l), cl) nm num = ((im, l), cl ++ [(nm, num, [])])) := by rw [Hid, creS, if_pos HE.out]
  have hn2w : n2 ≤ w4.heap.size := by have := hbb4.size; have := HN2.out; omega
  have hO := Lib.hid (show Own encCln (w4.alloc (.cells #[] 87)) n2 87 (fun q => q < n0) (.slice (some ⟨w4.heap.size, 0, none⟩) 0 0) [] from Own.make0 (cur := #[]) hn2w (by unfold maxLen; omega) rfl (fun h => by have : w4.heap.size < n0 := h; omega))
  have hba : Below n2 W0 (w4.alloc (.cells #[] 87)) := hbb4.alloc hn2w _
  have hsrc := Lib.hid (show SlAt encCln (w4.alloc (.cells #[] 87)) (fun q => q < n0) A3 cl from (HK3.out _ (HBW.out _ hba)).more (fun g hg => by have : g < w.heap.size := hg; show g < n0; omega))
  have HBA := Lib.hid hba
  have hnw : n0 < w4.heap.size := by omega
  clear hba
  go_wp2_with (at_builtin; refine Hid.out ?_)
  change wpList _ _ _ _ _ _
  refine wpList_appAll (E := encCln) tyClns rfl _ _ rfl rfl hO.out rfl rfl hsrc.out (fun g hg => by simp; have : g < n0 := hg; omega) (by simp; omega) (by unfold maxLen; simp; omega) (by simp; omega) ?_
  intro A5 c5 w5 hown5 hg5 hat5
  simp only [List.length_nil, Nat.zero_add, List.nil_append] at hown5
  have hb5 : Below n2 W0 w5 := HBA.out.grown hg5 (by simp; omega) (fun g hg => (hO.out.lt g hg).1)
  have HB5 := Lib.hid hb5
  have hz5 : n2 ≤ w5.heap.size := by have := hb5.size; have := HN2.out; omega
  have HO5 := Lib.hid (Own.alloc hown5 (fun b hb => by have : b < n0 := hb; omega) (.cells #[.string nm, .int .i64 num, .slice none 0 0] 87))
  have HRD : Hid (encCln.rd (w5.alloc (.cells #[.string nm, .int .i64 num, .slice none 0 0] 87)) (fun q => q < n0) [.string nm, .int .i64 num, .slice none 0 0] (nm, num, [])) :=
    cln_mk (x := (nm, num, [])) (D := none) (c := 0) hnm hI (by simp) (by simp) SlAt.nil_
  have HLV := Lib.hid hown5.lt
  clear hown5 hg5 hat5 hb5 hO hsrc p0 p1 p2
  simp only [List.length_nil, Nat.zero_add]
  go_wp2_with (at_builtin; refine Hid.out ?_)
  change wpList _ _ _ _ _ _
  refine wpList_app1 (E := encCln) tyClns rfl _ _ rfl rfl HO5.out (nm, num, []) [.string nm, .int .i64 num, .slice none 0 0] rfl HRD.out (heap_alloc_new _ _) (fun g hg => by simp; have : g < n0 := hg; omega) (by simp; omega) (by unfold maxLen; omega) (by omega) ?_
  intro A7 c7 w7 hown7 hg7 hat7
  have hb7 : Below n2 W0 w7 := (HB5.out.alloc hz5 (.cells #[.string nm, .int .i64 num, .slice none 0 0] 87)).grown hg7 (by simp; omega) (fun g hg => (HLV.out g hg).1)
  have HBB := Lib.hid hb7
  obtain ⟨xl, hxl⟩ : ∃ xl, cl ++ [(nm, num, [])] = xl := ⟨_, rfl⟩
  have hlen : cl.length + 1 = xl.length := by rw [← hxl]; simp
  rw [hxl, hlen] at hown7
  rw [hxl] at HT
  have HOX := Lib.hid hown7
  clear hown7 hg7 hat7 hb7 HO5 HRD HLV hxl
  rw [hlen]
  clear hlen
  have hrs := HROW0.out w7 HBB.out
  obtain ⟨q0, q1, q2, qf⟩ := blk3 hrs
  go_upto_region 13 with (fail)
  clear q0 q1 q2 qf
  change Code.wp _ _ _ _ (w7.setCell ⟨n0, 2, none⟩ (.slice A7 xl.length c7))
  have hr8 : (w7.setCell ⟨n0, 2, none⟩ (.slice A7 xl.length c7)).heap[n0]? = some (.cells #[.slice A im.length c, .slice A2 l.length c2, .slice A7 xl.length c7] 29 (0, 0)) := blk3_set hrs _
  have hk8 : ∀ x, x ≠ n0 → (w7.setCell ⟨n0, 2, none⟩ (.slice A7 xl.length c7)).heap[x]? = w7.heap[x]? := fun x hx => heap_setCell_other _ _ _ _ hx
  have hbw8 : Below w.heap.size w (w7.setCell ⟨n0, 2, none⟩ (.slice A7 xl.length c7)) := (HBW.out w7 HBB.out).setCell (p := ⟨n0, 2, none⟩) (by show w.heap.size ≤ n0; omega) _
  have hz8 : (w7.setCell ⟨n0, 2, none⟩ (.slice A7 xl.length c7)).heap.size = w7.heap.size := by simp [World.setCell]
  have hr18 := (hk8 (n0 + 1) (by omega)).trans (HRR.out w7 HBB.out)
  have hlt8 := HOX.out.lt
  have hox8 : Own encCln (w7.setCell ⟨n0, 2, none⟩ (.slice A7 xl.length c7)) n2 87 (fun q => q < n0) (.slice A7 xl.length c7) xl := HOX.out.blk (fun b hb => hk8 b (by
    rcases hb with hb | hb
    · have : b < n0 := hb; omega
    · have := (hlt8 b hb).1; omega))
  have hzz : n2 ≤ w7.heap.size := by have := HBB.out.size; have := HN2.out; omega
  obtain ⟨A8, c8, he8, y1, y2, y3⟩ := hox8.reads (S' := fun q => True ∧ q < w7.heap.size ∧ q ≠ n0 + 1) (fun b hb => ⟨trivial, by have : b < n0 := hb; omega, by have : b < n0 := hb; omega⟩) (fun g hg => ⟨trivial, (hlt8 g hg).2, by have := (hlt8 g hg).1; omega⟩)
  simp only [List.cons.injEq, Value.slice.injEq, and_true] at he8
  obtain ⟨rfl, _, rfl⟩ := he8
  generalize w7.setCell ⟨n0, 2, none⟩ (.slice A7 xl.length c7) = w8 at hr8 hr18 hbw8 hz8 y3 ⊢
  have HCL : Hid (ClAt (((im, l), xl) : Cls) A c A2 c2 A7 c7 (fun q => True ∧ q < w8.heap.size ∧ q ≠ n0 + 1) w8) :=
    ⟨⟨hc.1, hc.2, (HK1.out w8 hbw8).more (fun g hg => by have : g < w.heap.size := hg; exact ⟨trivial, by omega, by omega⟩)⟩,
      ⟨hc2.1, hc2.2, (HK2.out w8 hbw8).more (fun g hg => by have : g < w.heap.size := hg; exact ⟨trivial, by omega, by omega⟩)⟩,
      ⟨y1, y2, y3.more (fun g hg => ⟨trivial, by omega, hg.2.2⟩)⟩⟩
  clear hk8 hlt8 hox8 y3 hz8
  obtain ⟨q0, q1, q2, qf⟩ := blk3 hr8
  obtain ⟨v0, v1, v2, vf⟩ := blk3 hr18
  go_wp2_with fail
  have hend := rd_end (w := w) (x := (((im, l), xl) : Cls)) (A := A) (c := c) (D := A2) (d := c2) (G := A7) (g := c7) hr18 (by omega) hbw8 HCL.out 0
  obtain ⟨hz, hret⟩ := hend
  change bodyPost _ _ _ _ _ (sw3 w8 (n0 + 1) (.slice A ((((im, l), xl) : Cls)).1.1.length c) (.slice A2 ((((im, l), xl) : Cls)).1.2.length c2) (.slice A7 ((((im, l), xl) : Cls)).2.length c7))
  generalize sw3 w8 (n0 + 1) (.slice A ((((im, l), xl) : Cls)).1.1.length c) (.slice A2 ((((im, l), xl) : Cls)).1.2.length c2) (.slice A7 ((((im, l), xl) : Cls)).2.length c7) = W3 at hz hret ⊢
  obtain ⟨z0, z1, z2, _⟩ := blk3 hz
  refine bodyPost_ret (v := .tuple #[.agg #[.slice A ((((im, l), xl) : Cls)).1.1.length c, .slice A2 ((((im, l), xl) : Cls)).1.2.length c2, .slice A7 ((((im, l), xl) : Cls)).2.length c7], .int .i64 0]) ?_ rfl ?_
  · simp [results, Tryz.results13, Tryz.f13, go_sem, z0, z1, z2, zCls, zSns]
  rw [HT.out, HE.out]; exact hret
end Go.Proofs.YtgndgkjefgjamaaGreat
namespace Go.Proofs.YtgndgkjefgjamaaGreat
open Go.RowKit Go.Shelf
attribute [local go_sem] Oper.semAt_some

section
variable {t t' : Nat} {x x' : Cls} {A D G A' D' G' : Option Addr} {c d g c' d' g' : Nat} {W W' : World} {n' : Int} {S : Nat → Prop}
theorem riCheck (h : ClI t x A c D d G g W) (hf : fewC x = true) {r : Int} (hr : clE x = r) : Calls Tryz.prog 18 #[.agg #[.slice A x.1.1.length c, .slice D x.1.2.length d, .slice G x.2.length g]] W fun e w' => e = .returned (.int .i64 r) ∧ Below W.heap.size W w' := by
  have hl := h.le
  have h3 := h.at_.cl
  obtain ⟨⟨im, l⟩, cl⟩ := x
  have := (fewC_lim hf).1
  exact rcCheck_any A D G c d g _ _ _ im l cl r W h3.1 rfl rfl rfl hr h.im h.sn h.cl (by have := this.2.2; simp only; omega) hl.2.1 hl.2.2
theorem ciCheck (h : ClI t x A c D d G g W) (hf : fewC x = true) {r : Int} (hr : clE x = r) : Calls Tryz.prog 17 #[.agg #[.slice A x.1.1.length c, .slice D x.1.2.length d, .slice G x.2.length g]] W fun e w' => e = .returned (.int .i64 r) ∧ Below W.heap.size W w' := by
  have hl := h.le
  obtain ⟨⟨im, l⟩, cl⟩ := x
  have := (fewC_lim hf).1
  exact clCheck_any A D G c d g _ _ _ im l cl r W rfl rfl rfl hr h.im h.sn h.cl (by have := this.2.2; simp only; omega) hl.2.1 hl.2.2
theorem riCreate (h : ClI t x A c D d G g W) (hf : fewC x = true) {nm : ByteArray} {num : Int} (ha : creS x nm num = x' ∧ creE x nm num = n') (hn : nm.size ≤ maxLen) (hi : I64 num) :
    Calls Tryz.prog 13 #[.agg #[.slice A x.1.1.length c, .slice D x.1.2.length d, .slice G x.2.length g], .string nm, .int .i64 num] W (RdCl (fun _ => True) x' n' W) := by
  have h1 := h.at_.im; have h2 := h.at_.sn; have h3 := h.at_.cl
  obtain ⟨⟨im, l⟩, cl⟩ := x
  obtain ⟨rfl, rfl⟩ := ha
  exact rcCreate_any A D G c d g _ _ _ im l cl nm num W rfl rfl rfl ⟨h1.1, h1.2.1⟩ ⟨h2.1, h2.2.1⟩ ⟨h3.1, h3.2.1⟩ h.im h.sn h.cl (fewC_lim hf).1.1 hn hi
theorem riNew (h : ClI t x A c D d G g W) (hf : fewC x = true) (ha : clNew x.1 = x' ∧ snE x.1 = n') :
    Calls Tryz.prog 15 #[.agg #[.slice A x.1.1.length c, .slice D x.1.2.length d]] W (RdCl (fun q => q < W.heap.size) x' n' W) := by
  have h1 := h.at_.im; have h2 := h.at_.sn
  obtain ⟨⟨im, l⟩, cl⟩ := x
  obtain ⟨rfl, rfl⟩ := ha
  exact rcNew_any A D c d _ _ im l W rfl rfl ⟨h1.1, h1.2.1⟩ ⟨h2.1, h2.2.1⟩ h.im h.sn (fewC_lim hf).1.1.sn
theorem ciNew (h : ClI t x A c D d G g W) (hf : fewC x = true) (ha : clNew x.1 = x' ∧ snE x.1 = n') :
    Calls Tryz.prog 14 #[.agg #[.slice A x.1.1.length c, .slice D x.1.2.length d]] W (RetCl x' n' W) := by
  obtain ⟨⟨im, l⟩, cl⟩ := x
  obtain ⟨rfl, rfl⟩ := ha
  exact clNew_any A D c d _ _ im l W rfl rfl h.im h.sn (fewC_lim hf).1.1.sn
end
end Go.Proofs.YtgndgkjefgjamaaGreat
namespace Go.Proofs.YtgndgkjefgjamaaGreat
open Go.RowKit Go.Shelf
attribute [local go_sem] Oper.semAt_some

set_option maxHeartbeats 8000000 in
set_option maxRecDepth 100000 in
theorem creates37_any (x : Cls) (A D G : Option Addr) (c d g : Nat) (nm : ByteArray) (num : Int) (w : World) (h : ClAt x A c D d G g (Bl w.heap.size) w) (hnm : nm.size ≤ maxLen) (hI : I64 num) :
    Calls Tryz.prog 3 #[.agg #[.slice A x.1.1.length c, .slice D x.1.2.length d, .slice G x.2.length g], .string nm, .int .i64 num] w (LawRet w) := by
  obtain ⟨t, ht⟩ : ∃ t, w.heap.size = t := ⟨_, rfl⟩
  obtain ⟨W3, hW0⟩ : ∃ W0, w.alloc (.cells #[.slice A x.1.1.length c, .slice D x.1.2.length d, .slice G x.2.length g] 29) = W0 := ⟨_, rfl⟩
  have hB3 : Below w.heap.size w W3 := by rw [← hW0]; repeat (first | exact Below.refl _ _ | refine ext_alloc ?_)
  have hrow0 : W3.heap[t]? = some (.cells #[.slice A x.1.1.length c, .slice D x.1.2.length d, .slice G x.2.length g] 29 (0, 0)) := by rw [← hW0, ← ht]; first | exact heap_alloc_new _ _ | exact (Below.heap_alloc _ _ _ (by simp)).trans (heap_alloc_new _ _)
  have HA : Hid (ClI t x A c D d G g W3) := ⟨hrow0, h.keep (fun q hq => hB3.block q hq) (fun q hq => by have : q < w.heap.size := hq; have := hB3.size; exact ⟨by omega, by omega⟩)⟩
  have HXW : Hid (∀ W, Below w.heap.size w W → W.heap[t]? = some (.cells #[.slice A x.1.1.length c, .slice D x.1.2.length d, .slice G x.2.length g] 29 (0, 0)) → ClI t x A c D d G g W) := fun W hb hr => ⟨hr, h.keep (fun q hq => hb.block q hq) (fun q hq => by have : q < w.heap.size := hq; have := hb.size; exact ⟨by omega, by omega⟩)⟩
  have HG0 : Hid (∀ W, Below w.heap.size w W → SlAt encCln W (fun q => q < w.heap.size ∧ q < W.heap.size) G x.2) := fun W hb => (h.cl.2.2.blk (fun q hq => hb.block q hq)).more (fun q hq => ⟨hq, by have : q < w.heap.size := hq; have := hb.size; omega⟩)
  obtain ⟨q, hq⟩ : ∃ q, fewC x = q := ⟨_, rfl⟩
  have HFW := Lib.hid (riFew HA.out hq)
  have htw : w.heap.size ≤ t ∧ t ≤ w.heap.size := by omega
  have HQ := Lib.hid hq
  clear h hrow0 hq
  obtain ⟨k0, k1, k2, kf⟩ := blk3 HA.out.row
  go_enter Tryz.func3, Tryz.ntmps3
  go_wp2_with fail
  clear hW0 ht
  refine HFW.out.mono ?_
  rintro e w1 ⟨rfl, hb1⟩
  replace HA := Lib.hid (HA.out.below hb1)
  have hB1 := ext_trans hB3 hb1
  clear k0 k1 k2 kf HFW hB3
  have hB3 := hB1
  clear hB1
  cases q with
  | false =>
    go_wp2_with fail
    refine (awake37_any _).mono ?_
    rintro e wz ⟨rfl, hbz⟩
    go_wp2
    go_ret
    exact ⟨rfl, ext_trans hB3 hbz⟩
  | true =>
  by_cases hnl : nm.size ≤ 100
  case neg =>
    have hnl' : (100 : Int) < nm.size := by omega
    clear hnl
    go_wp2_with fail
    refine (awake37_any _).mono ?_
    rintro e wz ⟨rfl, hbz⟩
    go_wp2
    go_ret
    exact ⟨rfl, ext_trans hB3 hbz⟩
  have hnl' : ¬ (100 : Int) < nm.size := by omega
  obtain ⟨x1, hx1⟩ : ∃ y, creS x nm num = y := ⟨_, rfl⟩
  obtain ⟨n1, hn1⟩ : ∃ y, creE x nm num = y := ⟨_, rfl⟩
  obtain ⟨x2, hx2⟩ : ∃ y, clNew x.1 = y := ⟨_, rfl⟩
  obtain ⟨n2, hn2⟩ : ∃ y, snE x.1 = y := ⟨_, rfl⟩
  obtain ⟨n3, hn3⟩ : ∃ y, clE x = y := ⟨_, rfl⟩
  have E1 := Lib.hid (And.intro hx1 hn1); have E2 := Lib.hid (And.intro hx2 hn2); have E3 := Lib.hid hn3
  clear hx1 hn1 hx2 hn2 hn3 hnl
  obtain ⟨W3, rfl⟩ : ∃ W : World, W = w1 := ⟨_, rfl⟩
  obtain ⟨k0, k1, k2, kf⟩ := blk3 HA.out.row
  go_wp2_with fail
  refine (ciCreate HA.out HQ.out E1.out hnm hI).mono ?_
  rintro e w5 ⟨A1, c1, D1, d1, G1, g1, rfl, hat, hb5⟩
  clear k0 k1 k2 kf
  obtain ⟨t1, ht1⟩ : ∃ u, w5.heap.size = u := ⟨_, rfl⟩
  obtain ⟨W6, hW6⟩ : ∃ W6, w5.alloc (.cells #[.slice A1 (x1).1.1.length c1, .slice D1 (x1).1.2.length d1, .slice G1 (x1).2.length g1] 29) = W6 := ⟨_, rfl⟩
  have HV1 : Hid (ClI t1 x1 A1 c1 D1 d1 G1 g1 W6) := by rw [Hid, ← hW6, ← ht1]; exact ClI.mkNew hat (fun q hq => hq.2)
  have hbX : Below W3.heap.size W3 W6 := by rw [← hW6]; exact ext_alloc hb5
  have hB6 := ext_trans hB3 hbX
  have hz1 : W3.heap.size ≤ t1 := by have := hb5.size; omega
  clear hat hb5 hB3 hb1
  go_upto_region 4 with (fail)
  try rw [hW6]
  try rw [ht1]
  clear hW6 ht1
  have hB3 := hB6
  clear hB6
  replace HA := Lib.hid (HA.out.below hbX)
  clear hbX
  obtain ⟨W3, rfl⟩ : ∃ W : World, W = W6 := ⟨_, rfl⟩
  obtain ⟨k0, k1, k2, kf⟩ := blk3 HA.out.row
  go_wp2_with fail
  refine (riCreate HA.out HQ.out E1.out hnm hI).mono ?_
  rintro e w5 ⟨A2, c2, D2, d2, G2, g2, rfl, hat, hb5⟩
  clear k0 k1 k2 kf
  obtain ⟨t2, ht2⟩ : ∃ u, w5.heap.size = u := ⟨_, rfl⟩
  obtain ⟨W6, hW6⟩ : ∃ W6, w5.alloc (.cells #[.slice A2 (x1).1.1.length c2, .slice D2 (x1).1.2.length d2, .slice G2 (x1).2.length g2] 29) = W6 := ⟨_, rfl⟩
  have HV2 : Hid (ClI t2 x1 A2 c2 D2 d2 G2 g2 W6) := by rw [Hid, ← hW6, ← ht2]; exact ClI.mkNew hat (fun q hq => hq.2)
  have hbX : Below W3.heap.size W3 W6 := by rw [← hW6]; exact ext_alloc hb5
  have hB6 := ext_trans hB3 hbX
  have hz2 : W3.heap.size ≤ t2 := by have := hb5.size; omega
  clear hat hb5 hB3 hnl'
  go_upto_region 5 with (fail)
  try rw [hW6]
  try rw [ht2]
  clear hW6 ht2
  have hB3 := hB6
  clear hB6
  replace HA := Lib.hid (HA.out.below hbX)
  replace HV1 := Lib.hid (HV1.out.below hbX)
  clear hbX
  obtain ⟨W3, rfl⟩ : ∃ W : World, W = W6 := ⟨_, rfl⟩
  obtain ⟨k0, k1, k2, kf⟩ := blk3 HA.out.row
  go_wp2_with fail
  refine (ciNew HA.out HQ.out E2.out).mono ?_
  rintro e w5 ⟨A3, c3, D3, d3, G3, g3, rfl, hat, hb5⟩
  clear k0 k1 k2 kf
  obtain ⟨t3, ht3⟩ : ∃ u, w5.heap.size = u := ⟨_, rfl⟩
  obtain ⟨W6, hW6⟩ : ∃ W6, w5.alloc (.cells #[.slice A3 (x2).1.1.length c3, .slice D3 (x2).1.2.length d3, .slice G3 (x2).2.length g3] 29) = W6 := ⟨_, rfl⟩
  have HV3 : Hid (ClI t3 x2 A3 c3 D3 d3 G3 g3 W6) := by rw [Hid, ← hW6, ← ht3]; exact ClI.mkNew hat (fun q hq => hq.2)
  have hbX : Below W3.heap.size W3 W6 := by rw [← hW6]; exact ext_alloc hb5
  have hB6 := ext_trans hB3 hbX
  have hz3 : W3.heap.size ≤ t3 := by have := hb5.size; omega
  clear hat hb5 hB3 hnm
  go_upto_region 6 with (fail)
  try rw [hW6]
  try rw [ht3]
  clear hW6 ht3
  have hB3 := hB6
  clear hB6
  replace HA := Lib.hid (HA.out.below hbX)
  replace HV1 := Lib.hid (HV1.out.below hbX)
  replace HV2 := Lib.hid (HV2.out.below hbX)
  clear hbX
  obtain ⟨W3, rfl⟩ : ∃ W : World, W = W6 := ⟨_, rfl⟩
  obtain ⟨k0, k1, k2, kf⟩ := blk3 HA.out.row
  go_wp2_with fail
  refine (riNew HA.out HQ.out E2.out).mono ?_
  rintro e w5 ⟨A4, c4, D4, d4, G4, g4, rfl, hat, hb5⟩
  clear k0 k1 k2 kf
  obtain ⟨t4, ht4⟩ : ∃ u, w5.heap.size = u := ⟨_, rfl⟩
  obtain ⟨W6, hW6⟩ : ∃ W6, w5.alloc (.cells #[.slice A4 (x2).1.1.length c4, .slice D4 (x2).1.2.length d4, .slice G4 (x2).2.length g4] 29) = W6 := ⟨_, rfl⟩
  have HV4 : Hid (ClI t4 x2 A4 c4 D4 d4 G4 g4 W6) := by rw [Hid, ← hW6, ← ht4]; exact ClI.mkNew hat (fun q hq => hq.2)
  have hbX : Below W3.heap.size W3 W6 := by rw [← hW6]; exact ext_alloc hb5
  have hB6 := ext_trans hB3 hbX
  have hz4 : W3.heap.size ≤ t4 := by have := hb5.size; omega
  clear hat hb5 hB3 hI
  go_upto_region 7 with (fail)
  try rw [hW6]
  try rw [ht4]
  clear hW6 ht4
  have hB3 := hB6
  clear hB6
  replace HA := Lib.hid (HA.out.below hbX)
  replace HV1 := Lib.hid (HV1.out.below hbX)
  replace HV2 := Lib.hid (HV2.out.below hbX)
  replace HV3 := Lib.hid (HV3.out.below hbX)
  clear hbX
  obtain ⟨W3, rfl⟩ : ∃ W : World, W = W6 := ⟨_, rfl⟩
  have HC : Hid (∀ W, Below W3.heap.size W3 W → (W.cell? ⟨t, 0, none⟩ = some (.slice A x.1.1.length c) ∧ W.cell? ⟨t, 1, none⟩ = some (.slice D x.1.2.length d) ∧ W.cell? ⟨t, 2, none⟩ = some (.slice G x.2.length g)) ∧ (W.cell? ⟨t1, 0, none⟩ = some (.slice A1 x1.1.1.length c1) ∧ W.cell? ⟨t1, 1, none⟩ = some (.slice D1 x1.1.2.length d1) ∧ W.cell? ⟨t1, 2, none⟩ = some (.slice G1 x1.2.length g1)) ∧ (W.cell? ⟨t2, 0, none⟩ = some (.slice A2 x1.1.1.length c2) ∧ W.cell? ⟨t2, 1, none⟩ = some (.slice D2 x1.1.2.length d2) ∧ W.cell? ⟨t2, 2, none⟩ = some (.slice G2 x1.2.length g2)) ∧ (W.cell? ⟨t3, 0, none⟩ = some (.slice A3 x2.1.1.length c3) ∧ W.cell? ⟨t3, 1, none⟩ = some (.slice D3 x2.1.2.length d3) ∧ W.cell? ⟨t3, 2, none⟩ = some (.slice G3 x2.2.length g3)) ∧ (W.cell? ⟨t4, 0, none⟩ = some (.slice A4 x2.1.1.length c4) ∧ W.cell? ⟨t4, 1, none⟩ = some (.slice D4 x2.1.2.length d4) ∧ W.cell? ⟨t4, 2, none⟩ = some (.slice G4 x2.2.length g4))) := fun W hb => by
    obtain ⟨a0, a1, a2, _⟩ := blk3 (HA.out.below hb).row
    obtain ⟨b0, b1, b2, _⟩ := blk3 (HV1.out.below hb).row
    obtain ⟨e0, e1, e2, _⟩ := blk3 (HV2.out.below hb).row
    obtain ⟨f0, f1, f2, _⟩ := blk3 (HV3.out.below hb).row
    obtain ⟨i0, i1, i2, _⟩ := blk3 (HV4.out.below hb).row
    exact ⟨⟨a0, a1, a2⟩, ⟨b0, b1, b2⟩, ⟨e0, e1, e2⟩, ⟨f0, f1, f2⟩, ⟨i0, i1, i2⟩⟩
  have hc0 := HC.out W3.drew (Below.refl _ _).drew
  go_region_held3 (fun W => (W.cell? ⟨t, 0, none⟩ = some (.slice A x.1.1.length c) ∧ W.cell? ⟨t, 1, none⟩ = some (.slice D x.1.2.length d) ∧ W.cell? ⟨t, 2, none⟩ = some (.slice G x.2.length g)) ∧ (W.cell? ⟨t1, 0, none⟩ = some (.slice A1 x1.1.1.length c1) ∧ W.cell? ⟨t1, 1, none⟩ = some (.slice D1 x1.1.2.length d1) ∧ W.cell? ⟨t1, 2, none⟩ = some (.slice G1 x1.2.length g1)) ∧ (W.cell? ⟨t2, 0, none⟩ = some (.slice A2 x1.1.1.length c2) ∧ W.cell? ⟨t2, 1, none⟩ = some (.slice D2 x1.1.2.length d2) ∧ W.cell? ⟨t2, 2, none⟩ = some (.slice G2 x1.2.length g2)) ∧ (W.cell? ⟨t3, 0, none⟩ = some (.slice A3 x2.1.1.length c3) ∧ W.cell? ⟨t3, 1, none⟩ = some (.slice D3 x2.1.2.length d3) ∧ W.cell? ⟨t3, 2, none⟩ = some (.slice G3 x2.2.length g3)) ∧ (W.cell? ⟨t4, 0, none⟩ = some (.slice A4 x2.1.1.length c4) ∧ W.cell? ⟨t4, 1, none⟩ = some (.slice D4 x2.1.2.length d4) ∧ W.cell? ⟨t4, 2, none⟩ = some (.slice G4 x2.2.length g4))) (first | exact hc0 | exact HC.out _ hx9 | exact HC.out _ hx8 | exact HC.out _ hx7 | exact HC.out _ hx6 | exact HC.out _ hx5 | go_keep) (first | (go_at_call 18; refine (riCheck (HA.out.below hx8) HQ.out E3.out).mono ?_; rintro e w9 ⟨rfl, hb9⟩; have hx9 : Below W3.heap.size W3 w9 := ext_trans hx8 hb9) | (go_at_call 17; refine (ciCheck (HA.out.below hx7) HQ.out E3.out).mono ?_; rintro e w8 ⟨rfl, hb8⟩; have hx8 : Below W3.heap.size W3 w8 := ext_trans hx7 hb8) | (go_at_call 16; refine (riSame (HV3.out.below hx6) (HV4.out.below hx6)).mono ?_; rintro e w7 ⟨rfl, hb7⟩; have hx7 : Below W3.heap.size W3 w7 := ext_trans hx6 hb7) | (go_at_call 16; refine (riSame (HV1.out.below hx5) (HV2.out.below hx5)).mono ?_; rintro e w6 ⟨rfl, hb6⟩; have hx6 : Below W3.heap.size W3 w6 := ext_trans hx5 hb6) | (go_at_call 11; refine (awake37_any W3.drew).mono ?_; rintro e w5 ⟨rfl, hb5⟩; have hx5 : Below W3.heap.size W3 w5 := bUn hb5))
  go_wp2_with fail
  go_ret
  exact ⟨rfl, ext_trans hB3 hx9⟩
end Go.Proofs.YtgndgkjefgjamaaGreat
