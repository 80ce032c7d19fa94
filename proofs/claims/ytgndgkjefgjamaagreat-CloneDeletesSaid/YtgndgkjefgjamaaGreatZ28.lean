/-
  Extents found to be the same; the law's same.; Reference 37: Delete.; The reference's Revert of snapshots.; Reference 37: Drop.; Reference 37: Changed.; The laws on clones: a variable of clones, and what each call does to it.
-/
import Derived.BigQuiet
import Derived.Deep.DeepCutAuto
import Derived.Test.YtgndgkjefgjamaaGreatZ01
import Derived.Test.YtgndgkjefgjamaaGreatZ02
import Derived.Test.YtgndgkjefgjamaaGreatZ03
import Derived.Test.YtgndgkjefgjamaaGreatZ04
import Derived.Test.YtgndgkjefgjamaaGreatZ05
import Derived.Test.YtgndgkjefgjamaaGreatZ06
import Derived.Test.YtgndgkjefgjamaaGreatZ07
import Derived.Test.YtgndgkjefgjamaaGreatZ08
import Derived.Test.YtgndgkjefgjamaaGreatZ09
import Derived.Test.YtgndgkjefgjamaaGreatZ10
import Derived.Test.YtgndgkjefgjamaaGreatZ11
import Derived.Test.YtgndgkjefgjamaaGreatZ12
import Derived.Test.YtgndgkjefgjamaaGreatZ13
import Derived.Test.YtgndgkjefgjamaaGreatZ14
import Derived.Test.YtgndgkjefgjamaaGreatZ15
import Derived.Test.YtgndgkjefgjamaaGreatZ16
import Derived.Test.YtgndgkjefgjamaaGreatZ17
import Derived.Test.YtgndgkjefgjamaaGreatZ18
import Derived.Test.YtgndgkjefgjamaaGreatZ20
import Derived.Test.YtgndgkjefgjamaaGreatZ22
import Derived.Test.YtgndgkjefgjamaaGreatZ23
set_option linter.unusedVariables false
set_option linter.unusedSimpArgs false
set_option linter.unusedSectionVars false
set_option linter.unnecessarySimpa false
namespace Go.Proofs.YtgndgkjefgjamaaGreat
open Go.RowKit Go.Shelf
attribute [local go_sem] Oper.semAt_some

set_option maxHeartbeats 2000000 in
theorem same37_true (A A' : Option Addr) (c c' n : Nat) (S S' : Nat → Prop) (l : List (List Ext)) (w : World) (hn : l.length = n) (h1 : SlAt (encSl encExt) w S A l) (h2 : SlAt (encSl encExt) w S' A' l) (hs : n ≤ 9223372036854775807) :
    Calls Tryz.prog 30 #[.slice A n c, .slice A' n c'] w fun e w' => e = .returned (.bool true) ∧ Drew w w' := by
  subst hn
  go_enter Tryz.func30, Tryz.ntmps30
  go_wp2
  go_loopw [5] (fun i wr => ∃ k : Nat, k ≤ l.length ∧ i = .int .i64 k ∧ Drew w wr) (fun i _ => l.length - (intOf i).toNat)
  case atStart => exact ⟨0, by omega, rfl, Drew.refl _⟩
  case round =>
    obtain ⟨wo, rfl⟩ : ∃ wo : World, wo = wr := ⟨_, rfl⟩
    obtain ⟨k, hk, rfl, hd⟩ := hrel
    replace h1 := h1.drew hd
    replace h2 := h2.drew hd
    by_cases hlt : k < l.length
    · obtain ⟨b, off, D, dc, rfl, hb, g0, hD, hd1, hd2⟩ := h1.sl hlt
      obtain ⟨b', off', D', dc', rfl, hb', g0', hD', hd1', hd2'⟩ := h2.sl hlt
      have hnn : (0 : Int) ≤ k := by omega
      have hki : (k : Int) < l.length := by omega
      have hmx : (l[k]'hlt).length ≤ 9223372036854775807 := by unfold maxLen at hd2; omega
      obtain ⟨x, hx⟩ : ∃ x, l[k]'hlt = x := ⟨_, rfl⟩
      rw [hx] at g0 g0' hD hD' hmx
      have hdr : Drew wo wo.drew := (Drew.refl wo).step 1
      have HSM := Lib.hid (sameExt02_true D D' dc dc' x.length S S' x wo.drew rfl (hD.drew hdr) (hD'.drew hdr) hmx)
      have hc0 : wo.drew.cell? ⟨b, off + k, none⟩ = some (.slice D x.length dc) ∧ wo.drew.cell? ⟨b', off' + k, none⟩ = some (.slice D' x.length dc') := ⟨g0, g0'⟩
      clear hD hD' hd1 hd2 hd1' hd2' hb hb' hx h1 h2
      go_wp2_with fail
      go_region_held3 (fun W => W.cell? ⟨b, off + k, none⟩ = some (.slice D x.length dc) ∧ W.cell? ⟨b', off' + k, none⟩ = some (.slice D' x.length dc')) (first | exact hc0 | exact ⟨(hd9.cell _).trans g0, (hd9.cell _).trans g0'⟩ | go_keep) (first | (go_at_call 46; refine HSM.out.mono ?_; rintro e w9 ⟨rfl, hd8⟩; have hd9 : Drew wo w9 := hdr.trans hd8))
      go_wp2_with fail
      go_roundw
      case rel => exact ⟨k + 1, hlt, by go_num, hd.trans hd9⟩
      case measure => simp [intOf]; omega
    · have hkk : k = l.length := by omega
      subst hkk
      go_wp2_with fail
      go_ret
      exact ⟨rfl, hd⟩
end Go.Proofs.YtgndgkjefgjamaaGreat
namespace Go.Proofs.YtgndgkjefgjamaaGreat
open Go.RowKit Go.Shelf
attribute [local go_sem] Oper.semAt_some

set_option maxHeartbeats 4000000 in
set_option maxRecDepth 100000 in
theorem rcDelete_any (A A2 A3 : Option Addr) (c c2 c3 n m p : Nat) (im : Img) (l : List Snp) (cl : List Cln) (nm : ByteArray) (w : World) (hn : im.length = n) (hm : l.length = m) (hp : cl.length = p) (hc : n ≤ c ∧ c ≤ maxLen) (hc2 : m ≤ c2 ∧ c2 ≤ maxLen) (hc3 : p ≤ c3 ∧ c3 ≤ maxLen) (h1 : SlAt (encSl encSec) w (Bl w.heap.size) A im) (h2 : SlAt encSnp w (Bl w.heap.size) A2 l) (h3 : SlAt encCln w (Bl w.heap.size) A3 cl) (hL : ClLim (im, l) cl) :
    Calls Tryz.prog 25 #[.agg #[.slice A n c, .slice A2 m c2, .slice A3 p c3], .string nm] w (RdCl (fun _ => True) (cDel ((im, l), cl) nm) (cfE ((im, l), cl) nm) w) := by
  subst hn hm hp
  have HER : Hid (∀ q : Int, cfE ((im, l), cl) nm = q → q ≠ 0 → cDel ((im, l), cl) nm = zCls ∧ cfE ((im, l), cl) nm = q) := fun q h1 h2 => ⟨by rw [cDel, if_neg (by rw [h1]; exact h2)], h1⟩
  have h1' := h1
  have h2' := h2
  have h3' := h3
  have HK1 : Hid (∀ W, Below w.heap.size w W → SlAt (encSl encSec) W (Bl w.heap.size) A im) := fun W hb => h1'.below hb
  have HK2 : Hid (∀ W, Below w.heap.size w W → SlAt encSnp W (Bl w.heap.size) A2 l) := fun W hb => h2'.below hb
  have HK3 : Hid (∀ W, Below w.heap.size w W → SlAt encCln W (Bl w.heap.size) A3 cl) := fun W hb => h3'.below hb
  clear h1' h2' h3'
  obtain ⟨n0, hn0⟩ : ∃ n0, w.heap.size = n0 := ⟨_, rfl⟩
  obtain ⟨W0, hW0⟩ : ∃ W0, (w.alloc (.cells #[.slice A im.length c, .slice A2 l.length c2, .slice A3 cl.length c3] 29)).alloc (.cells #[.slice none 0 0, .slice none 0 0, .slice none 0 0] 29) = W0 := ⟨_, rfl⟩
  have hB0 : Below n0 w W0 := by rw [← hW0, ← hn0]; repeat (first | exact Below.refl _ _ | refine ext_alloc ?_)
  have hr0 : W0.heap[n0]? = some (.cells #[.slice A im.length c, .slice A2 l.length c2, .slice A3 cl.length c3] 29 (0, 0)) := by rw [← hW0, ← hn0]; exact (Below.heap_alloc _ _ _ (by simp)).trans (heap_alloc_new _ _)
  have hr1 : W0.heap[n0 + 1]? = some (.cells #[.slice none 0 0, .slice none 0 0, .slice none 0 0] 29 (0, 0)) := by rw [← hW0, ← hn0]; exact heap_new2 _ _ _
  obtain ⟨n2, hn2⟩ : ∃ n2, W0.heap.size = n2 := ⟨_, rfl⟩
  have hn02 : n0 + 1 < n2 := by rw [← hn2]; exact (Array.getElem?_eq_some_iff.1 hr1).1
  have up : ∀ {α : Type} {E : Enc α} {A : Option Addr} {l : List α}, SlAt E w (Bl w.heap.size) A l → ∀ W, Below n2 W0 W → SlAt E W (Bl W.heap.size) A l := fun h W hb => by
    rw [hn0] at h
    exact (h.blk (fun g hg => (hb.block g (by have : g < n0 := hg; omega)).trans (hB0.block g hg))).more (fun g hg => by have : g < n0 := hg; have := hb.size; show g < W.heap.size; omega)
  have H1 := Lib.hid (up h1)
  have H2 := Lib.hid (up h2)
  have H3 := Lib.hid (up h3)
  have HC : Hid (∀ W, Below n2 W0 W → W.cell? ⟨n0, 0, none⟩ = some (.slice A im.length c) ∧ W.cell? ⟨n0, 1, none⟩ = some (.slice A2 l.length c2) ∧ W.cell? ⟨n0, 2, none⟩ = some (.slice A3 cl.length c3)) := fun W hb => by
    obtain ⟨a, b, d, _⟩ := blk3 ((hb.block _ (by omega)).trans hr0)
    exact ⟨a, b, d⟩
  have HRR : Hid (∀ W, Below n2 W0 W → W.heap[n0 + 1]? = some (.cells #[.slice none 0 0, .slice none 0 0, .slice none 0 0] 29 (0, 0))) := fun W hb => (hb.block _ (by omega)).trans hr1
  have HROW0 : Hid (∀ W, Below n2 W0 W → W.heap[n0]? = some (.cells #[.slice A im.length c, .slice A2 l.length c2, .slice A3 cl.length c3] 29 (0, 0))) := fun W hb => (hb.block _ (by omega)).trans hr0
  have HBW : Hid (∀ W, Below n2 W0 W → Below w.heap.size w W) := fun W hb => by rw [hn0]; exact hB0.trans (hb.mono (by omega))
  have HN0 := Lib.hid hn0
  have HN2 := Lib.hid hn2
  have hN0 : n0 ≤ w.heap.size ∧ w.heap.size ≤ n0 := by omega
  have hl1 := hL.sn.ims
  have hl2 := hL.sn.its
  have hl3 := hL.its
  have HLM := Lib.hid hL
  simp only at hl1 hl2
  obtain ⟨s0, hs0⟩ : ∃ s0, clE ((im, l), cl) = s0 := ⟨_, rfl⟩
  have HCK := Lib.hid (fun W (hb : Below n2 W0 W) => clCheck_any A A2 A3 c c2 c3 im.length l.length cl.length im l cl s0 W rfl rfl rfl hs0 (H1.out W hb) (H2.out W hb) (H3.out W hb) hl1 (by omega) (by omega))
  have HOW := Lib.hid (fun W (hb : Below n2 W0 W) => own37_any A A2 A3 c c2 c3 im.length l.length cl.length im l cl W rfl rfl rfl (H1.out W hb) (H2.out W hb) (H3.out W hb) HLM.out)
  have HS0 := Lib.hid hs0
  have hB00 := Below.refl n2 W0
  obtain ⟨p0, p1, p2⟩ := HC.out W0 hB00
  clear h1 h2 h3 up hB0 hL hr0 hr1 hs0
  clear HCK HOW
  have HCK0 := Lib.hid (rcCheck_any A A2 A3 c c2 c3 im.length l.length cl.length im l cl s0 W0 hc3.1 rfl rfl rfl HS0.out (H1.out W0 hB00) (H2.out W0 hB00) (H3.out W0 hB00) hl1 (by omega) (by omega))
  go_enter Tryz.func25, Tryz.ntmps25
  go_wp2_with fail
  refine HCK0.out.mono ?_
  rintro e w1 ⟨rfl, hb1⟩
  rw [HN2.out] at hb1
  clear p0 p1 p2 HCK0 hn2 hn0 hW0
  by_cases hx0 : s0 = 0
  case neg =>
    have hx0' : (s0 != 0) = true := by simp [hx0]
    have HF := Lib.hid (HER.out s0 (by rw [cfE, HS0.out, if_pos hx0]) hx0)
    clear hx0
    have hr1 := HRR.out w1 hb1
    obtain ⟨v0, v1, v2, vf⟩ := blk3 hr1
    go_wp2_with fail
    have hend := rd_end (w := w) (x := zCls) (A := none) (c := 0) (D := none) (d := 0) (G := none) (g := 0) hr1 (by omega) (HBW.out w1 hb1) (ClAt.zero (S := fun q => True ∧ q < w1.heap.size ∧ q ≠ n0 + 1)) s0
    obtain ⟨hz, hret⟩ := hend
    change bodyPost _ _ _ _ _ (sw3 w1 (n0 + 1) (.slice none (zCls).1.1.length 0) (.slice none (zCls).1.2.length 0) (.slice none (zCls).2.length 0))
    generalize sw3 w1 (n0 + 1) (.slice none (zCls).1.1.length 0) (.slice none (zCls).1.2.length 0) (.slice none (zCls).2.length 0) = W3 at hz hret ⊢
    obtain ⟨z0, z1, z2, _⟩ := blk3 hz
    refine bodyPost_ret (v := .tuple #[.agg #[.slice none (zCls).1.1.length 0, .slice none (zCls).1.2.length 0, .slice none (zCls).2.length 0], .int .i64 s0]) ?_ rfl ?_
    · simp [results, Tryz.results25, Tryz.f25, go_sem, z0, z1, z2, zCls, zSns]
    rw [HF.out.1, HF.out.2]; exact hret
  have hx0' : (s0 != 0) = false := by simp [hx0]
  obtain ⟨iv, hiv⟩ : ∃ iv, idxAt (isN nm) cl = iv := ⟨_, rfl⟩
  have HFD := Lib.hid (rcFind_any A3 c3 cl.length cl nm w1 rfl (H3.out w1 hb1) (by omega) iv hiv)
  have hcf := cf_cases (nm := nm) (show clE ((im, l), cl) = 0 by rw [HS0.out, hx0])
  have HCKE : Hid (clE ((im, l), cl) = 0) := by rw [Hid, HS0.out, hx0]
  simp only at hcf
  rw [hiv] at hcf
  subst hx0
  clear hiv
  obtain ⟨p0, p1, p2⟩ := HC.out w1 hb1
  go_wp2_with fail
  refine HFD.out.mono ?_
  rintro e w2 ⟨rfl, hb2⟩
  have hz1 := hb1.size
  have hbb2 : Below n2 W0 w2 := hb1.trans (hb2.mono (by have := HN2.out; omega))
  clear HFD p0 p1 p2 hb2
  rcases hcf with ⟨hiv, hce⟩ | ⟨k, hkl, hiv, hce, hcn, hca, hcm⟩
  · have HF := Lib.hid (HER.out 7 hce (by decide))
    clear hce
    subst hiv
    have hr1 := HRR.out w2 hbb2
    obtain ⟨v0, v1, v2, vf⟩ := blk3 hr1
    go_wp2_with fail
    have hend := rd_end (w := w) (x := zCls) (A := none) (c := 0) (D := none) (d := 0) (G := none) (g := 0) hr1 (by omega) (HBW.out w2 hbb2) (ClAt.zero (S := fun q => True ∧ q < w2.heap.size ∧ q ≠ n0 + 1)) 7
    obtain ⟨hz, hret⟩ := hend
    change bodyPost _ _ _ _ _ (sw3 w2 (n0 + 1) (.slice none (zCls).1.1.length 0) (.slice none (zCls).1.2.length 0) (.slice none (zCls).2.length 0))
    generalize sw3 w2 (n0 + 1) (.slice none (zCls).1.1.length 0) (.slice none (zCls).1.2.length 0) (.slice none (zCls).2.length 0) = W3 at hz hret ⊢
    obtain ⟨z0, z1, z2, _⟩ := blk3 hz
    refine bodyPost_ret (v := .tuple #[.agg #[.slice none (zCls).1.1.length 0, .slice none (zCls).1.2.length 0, .slice none (zCls).2.length 0], .int .i64 7]) ?_ rfl ?_
    · simp [results, Tryz.results25, Tryz.f25, go_sem, z0, z1, z2, zCls, zSns]
    rw [HF.out.1, HF.out.2]; exact hret
  subst hiv
  have hk0 : (0 : Int) ≤ k := by omega
  have hkn : ¬ (k : Int) < 0 := by omega
  have hkc : (k : Int) < cl.length := by omega
  have HCE := Lib.hid hce
  have HCN := Lib.hid hcn
  have HCA := Lib.hid hca
  have HCM := Lib.hid hcm
  clear hce hcn hca hcm
  have hb1 := hbb2
  clear hbb2
  obtain ⟨xv, hxv⟩ : ∃ x, cl[k]'hkl = x := ⟨_, rfl⟩
  have HXM : Hid (xv ∈ cl) := by rw [Hid, ← hxv]; exact List.getElem_mem hkl
  have HXA : Hid (cAt ((im, l), cl) nm = xv) := by rw [Hid, HCA.out]; exact hxv
  obtain ⟨b3, off3, Dx, dx, he3, hb3, g0, g1, g2, gD, gd1, gd2, gi1, gi2⟩ := (H3.out w2 hb1).cln hkl
  subst he3
  rw [hxv] at g0 g1 g2 gD gd1 gi1 gi2
  obtain ⟨xn, xnum, xs⟩ := xv
  simp only at g0 g1 g2 gD gd1 gi1 gi2
  have hb3' : b3 < w2.heap.size := hb3
  have HXC : Hid (∀ W, Below w2.heap.size w2 W → W.cell? ⟨b3, off3 + k * 3, none⟩ = some (.string xn) ∧ W.cell? ⟨b3, off3 + k * 3 + 1, none⟩ = some (.int .i64 xnum) ∧ W.cell? ⟨b3, off3 + k * 3 + 2, none⟩ = some (.slice Dx xs.length dx)) := fun W hb => ⟨(hb.cell (p := ⟨b3, off3 + k * 3, none⟩) hb3').trans g0, (hb.cell (p := ⟨b3, off3 + k * 3 + 1, none⟩) hb3').trans g1, (hb.cell (p := ⟨b3, off3 + k * 3 + 2, none⟩) hb3').trans g2⟩
  have HXS : Hid (∀ W, Below w2.heap.size w2 W → SlAt encWr W (Bl W.heap.size) Dx xs) := fun W hb => gD.fwd hb
  have HOC : Hid (∀ W, Below w2.heap.size w2 W → W.cell? ⟨n0, 0, none⟩ = some (.slice A im.length c) ∧ W.cell? ⟨n0, 1, none⟩ = some (.slice A2 l.length c2) ∧ W.cell? ⟨n0, 2, none⟩ = some (.slice (some ⟨b3, off3, none⟩) cl.length c3)) := fun W hb => HC.out W (hb1.trans (hb.mono (by have := hb1.size; have := HN2.out; omega)))
  have HBX : Hid (∀ W, Below w2.heap.size w2 W → Below n2 W0 W) := fun W hb => hb1.trans (hb.mono (by have := hb1.size; have := HN2.out; omega))
  clear g0 g1 g2 gD hb3
  have HT : Hid (cDel ((im, l), cl) nm = ((im, l), cl.eraseIdx k)) := by rw [Hid, cDel, if_pos HCE.out, HCN.out]
  have hkc3 : (k : Int) ≤ c3 := by omega
  have hkc4 : (k : Int) + 1 ≤ c3 := by omega
  have hkc5 : (k : Int) + 1 ≤ cl.length := by omega
  have hk1 : (0 : Int) ≤ (k : Int) + 1 := by omega
  have hSw : Below n2 W0 w2.drew := hb1.drew
  have hn2w : n2 ≤ w2.heap.size := by have := hb1.size; have := HN2.out; omega
  have hSO : Below n2 W0 (w2.drew.alloc (.cells #[] 87)) := hSw.alloc hn2w _
  have hO : Own encCln (w2.drew.alloc (.cells #[] 87)) n2 87 (fun q => q < n0) (.slice (some ⟨w2.heap.size, 0, none⟩) 0 0) [] := Own.make0 (w := w2.drew) (cur := #[]) hn2w (by unfold maxLen; omega) rfl (fun h => by have : w2.heap.size < n0 := h; omega)
  have hsrc := (HK3.out _ (HBW.out _ hSO)).more (S' := fun q => q < n0) (fun g hg => by have : g < w.heap.size := hg; show g < n0; omega)
  have hzO : n2 ≤ (w2.drew.alloc (.cells #[] 87)).heap.size := by simp; omega
  have hsrcT := Lib.hid (hsrc.take (n := k))
  have hlT := Lib.hid (show k = (cl.take k).length by rw [List.length_take]; omega)
  have hwr : IntKind.i64.wrap ((k : Int) + 1) = (k : Int) + 1 := IntWalk.i64_in _ (by omega)
  go_upto_region 7 with (fail)
  refine wp_region_U (fun W' => Below n2 W0 W') 13 (by kernel_rfl) ?_
  refine wpAnyU_takeD (i := 1) (v := ?_) rfl rfl (by kernel_rfl) (by kernel_rfl) (by kernel_rfl) (by kernel_rfl) (fun _ _ _ h => h) (by rfl) ?_ hSw ?_
  rotate_left 1
  · intro W9 hW9
    try dsimp only at hW9
    obtain _ := trivial
    go_simp
    try with_reducible rfl
  try simp only [List.setIfInBounds_toArray, List.set_cons_zero, List.set_cons_succ]
  refine wpAnyU_takeD (i := 2) (v := ?_) rfl rfl (by kernel_rfl) (by kernel_rfl) (by kernel_rfl) (by kernel_rfl) (fun _ _ _ h => h) (by rfl) ?_ hSw ?_
  rotate_left 1
  · intro W9 hW9
    try dsimp only at hW9
    obtain ⟨q0, q1, q2⟩ := HC.out W9 hW9
    go_simp
    try with_reducible rfl
  try simp only [List.setIfInBounds_toArray, List.set_cons_zero, List.set_cons_succ]
  refine wpAnyU_takeD (i := 3) (v := ?_) rfl rfl (by kernel_rfl) (by kernel_rfl) (by kernel_rfl) (by kernel_rfl) (fun _ _ _ h => h) (by rfl) ?_ hSw ?_
  rotate_left 1
  · intro W9 hW9
    try dsimp only at hW9
    obtain _ := trivial
    go_simp
    try with_reducible rfl
  try simp only [List.setIfInBounds_toArray, List.set_cons_zero, List.set_cons_succ]
  refine wpAnyU_takeD (i := 4) (v := ?_) rfl rfl (by kernel_rfl) (by kernel_rfl) (by kernel_rfl) (by kernel_rfl) (fun _ _ _ h => h) (by rfl) ?_ hSw ?_
  rotate_left 1
  · intro W9 hW9
    try dsimp only at hW9
    obtain _ := trivial
    go_simp
    try with_reducible rfl
  try simp only [List.setIfInBounds_toArray, List.set_cons_zero, List.set_cons_succ]
  refine wpAnyU_takeD (i := 6) (v := ?_) rfl rfl (by kernel_rfl) (by kernel_rfl) (by kernel_rfl) (by kernel_rfl) (fun _ _ _ h => h) (by rfl) ?_ hSw ?_
  rotate_left 1
  · intro W9 hW9
    try dsimp only at hW9
    obtain _ := trivial
    go_simp
    try with_reducible rfl
  try simp only [List.setIfInBounds_toArray, List.set_cons_zero, List.set_cons_succ]
  refine wpAnyU_takeD (i := 7) (v := ?_) rfl rfl (by kernel_rfl) (by kernel_rfl) (by kernel_rfl) (by kernel_rfl) (fun _ _ _ h => h) (by rfl) ?_ hSw ?_
  rotate_left 1
  · intro W9 hW9
    try dsimp only at hW9
    obtain ⟨q0, q1, q2⟩ := HC.out W9 hW9
    go_simp
    try with_reducible rfl
  try simp only [List.setIfInBounds_toArray, List.set_cons_zero, List.set_cons_succ]
  refine wpAnyU_takeD (i := 8) (v := ?_) rfl rfl (by kernel_rfl) (by kernel_rfl) (by kernel_rfl) (by kernel_rfl) (fun _ _ _ h => h) (by rfl) ?_ hSw ?_
  rotate_left 1
  · intro W9 hW9
    try dsimp only at hW9
    obtain _ := trivial
    go_simp
    try with_reducible rfl
  try simp only [List.setIfInBounds_toArray, List.set_cons_zero, List.set_cons_succ]
  refine wpAnyU_takeD (i := 9) (v := ?_) rfl rfl (by kernel_rfl) (by kernel_rfl) (by kernel_rfl) (by kernel_rfl) (fun _ _ _ h => h) (by rfl) ?_ hSw ?_
  rotate_left 1
  · intro W9 hW9
    try dsimp only at hW9
    obtain _ := trivial
    go_simp
    try with_reducible rfl
  try simp only [List.setIfInBounds_toArray, List.set_cons_zero, List.set_cons_succ]
  refine wpAnyU_takeD (i := 10) (v := ?_) rfl rfl (by kernel_rfl) (by kernel_rfl) (by kernel_rfl) (by kernel_rfl) (fun _ _ _ h => h) (by rfl) ?_ hSw ?_
  rotate_left 1
  · intro W9 hW9
    try dsimp only at hW9
    obtain _ := trivial
    go_simp
    try with_reducible rfl
  try simp only [List.setIfInBounds_toArray, List.set_cons_zero, List.set_cons_succ]
  obtain ⟨Ad, hAd⟩ : ∃ Ad : Option Addr, (if c3 = k + 1 then some (⟨b3, off3, none⟩ : Addr) else some ⟨b3, off3 + (k + 1) * 3, none⟩) = Ad := ⟨_, rfl⟩
  rw [hAd]
  have HAD := Lib.hid hAd
  clear hAd
  refine wpAnyU_op (i := 0) (by kernel_rfl) rfl rfl (fun K hK => ?_)
  go_simp
  refine hK.out _ _ (fun _ => hSO) ?_
  clear hK K
  try simp only [Act.put, List.setIfInBounds_toArray, List.set_cons_zero, List.set_cons_succ]
  change wpAnyU _ _ _ _ _ _ _ _ _ (w2.drew.alloc (.cells #[] 87))
  have hsrc2 : Hid (SlAt encCln (w2.drew.alloc (.cells #[] 87)) (fun q => q < n0) Ad (cl.drop (k + 1))) := by
    rw [← HAD.out]
    split
    · have e : cl.drop (k + 1) = [] := List.drop_eq_nil_of_le (by omega)
      rw [e]; exact SlAt.nil_
    · exact hsrc.drop (k := k + 1)
  have HO := Lib.hid hO
  clear hsrc hO
  generalize w2.drew.alloc (.cells #[] 87) = W5 at HO hsrc2 hsrcT hzO hSO ⊢
  refine wpAnyU_one (i := 5) (by kernel_rfl) rfl (fun K hK => ?_)
  refine step_appAll (E := encCln) tyClns rfl _ _ rfl rfl HO.out (news := cl.take k) rfl hlT.out hsrcT.out (fun b hb => by have : b < n0 := hb; omega) hzO (by unfold maxLen; simp; omega) (by simp; omega) ?_
  intro A6 c6 w6 hown6 hg6 hat6
  simp only [List.length_nil, Nat.zero_add, List.nil_append] at hown6
  have hS6 : Below n2 W0 w6 := hSO.grown hg6 hzO (fun b hb => (HO.out.lt b hb).1)
  have hz6 : n2 ≤ w6.heap.size := by have := hg6.size; omega
  have hsrc6 : Hid (SlAt encCln w6 (fun q => q < n0) Ad (cl.drop (k + 1))) := hsrc2.out.blk (fun b hb => hg6.block b (by have : b < n0 := hb; omega) (fun e => by have := (HO.out.lt b e.symm).1; have : b < n0 := hb; omega))
  refine hK.out _ _ (fun _ => hS6) ?_
  clear hK K
  try simp only [Act.put, List.setIfInBounds_toArray, List.set_cons_zero, List.set_cons_succ]
  have HO6 := Lib.hid hown6
  clear hown6 hg6 hat6 hsrc2 hsrcT HO
  simp only [List.length_nil, Nat.zero_add]
  have hlD := Lib.hid (show cl.length - (k + 1) = (cl.drop (k + 1)).length by rw [List.length_drop])
  have hlT2 : Hid ((cl.take k).length = k) := hlT.out.symm
  refine wpAnyU_one (i := 11) (by kernel_rfl) rfl (fun K hK => ?_)
  refine step_appAll (E := encCln) tyClns rfl _ _ rfl rfl HO6.out (news := cl.drop (k + 1)) rfl hlD.out hsrc6.out (fun b hb => by have : b < n0 := hb; omega) hz6 (by rw [hlT2.out]; unfold maxLen; omega) (by rw [hlT2.out]; omega) ?_
  intro A7 c7 w7 hown7 hg7 hat7
  have hS7 : Below n2 W0 w7 := hS6.grown hg7 hz6 (fun b hb => (HO6.out.lt b hb).1)
  refine hK.out _ _ (fun _ => hS7) ?_
  clear hK K
  obtain ⟨xl, hxl⟩ : ∃ xl, cl.take k ++ cl.drop (k + 1) = xl := ⟨_, rfl⟩
  have hlen : (cl.take k).length + (cl.length - (k + 1)) = xl.length := by rw [← hxl, List.length_append, hlD.out]
  have HT2 : Hid (cDel ((im, l), cl) nm = ((im, l), xl)) := by rw [Hid, HT.out, List.eraseIdx_eq_take_drop_succ, hxl]
  rw [hxl, hlen] at hown7
  rw [hlen]
  try simp only [Act.put, List.setIfInBounds_toArray, List.set_cons_zero, List.set_cons_succ]
  have HBB := Lib.hid hS7
  have HOX := Lib.hid hown7
  clear hown7 hg7 hat7 HO6 hsrc6 hlD hlT2 hlT hlen hxl HT
  refine wpAnyU_op (i := 12) (by kernel_rfl) rfl rfl (fun K hK => ?_)
  go_simp
  refine hK.out _ _ (fun _ => hS7) ?_
  clear hK K
  try simp only [Act.put, List.setIfInBounds_toArray, List.set_cons_zero, List.set_cons_succ]
  have hrs := HROW0.out w7 HBB.out
  obtain ⟨q0, q1, q2, qf⟩ := blk3 hrs
  refine wpAnyU_op (i := 13) (by kernel_rfl) rfl rfl (fun K hK => ?_)
  go_simp
  refine hK.out _ _ (fun h => absurd rfl h) ?_
  clear hK K
  refine wpAnyU_done (by kernel_rfl) ?_ _
  clear q0 q1 q2 qf
  go_upto_region 8 with (fail)
  change Code.wp _ _ _ _ (w7.setCell ⟨n0, 2, none⟩ (.slice A7 xl.length c7))
  have hr8 : (w7.setCell ⟨n0, 2, none⟩ (.slice A7 xl.length c7)).heap[n0]? = some (.cells #[.slice A im.length c, .slice A2 l.length c2, .slice A7 xl.length c7] 29 (0, 0)) := blk3_set hrs _
  have hk8 : ∀ x, x ≠ n0 → (w7.setCell ⟨n0, 2, none⟩ (.slice A7 xl.length c7)).heap[x]? = w7.heap[x]? := fun x hx => heap_setCell_other _ _ _ _ hx
  have hbw8 : Below w.heap.size w (w7.setCell ⟨n0, 2, none⟩ (.slice A7 xl.length c7)) := (HBW.out w7 HBB.out).setCell (p := ⟨n0, 2, none⟩) (by show w.heap.size ≤ n0; omega) _
  have hz8 : (w7.setCell ⟨n0, 2, none⟩ (.slice A7 xl.length c7)).heap.size = w7.heap.size := by simp [World.setCell]
  have hr18 := (hk8 (n0 + 1) (by omega)).trans (HRR.out w7 HBB.out)
  have hlt8 := HOX.out.lt
  have hox8 : Own encCln (w7.setCell ⟨n0, 2, none⟩ (.slice A7 xl.length c7)) n2 87 (fun q => q < n0) (.slice A7 xl.length c7) xl := HOX.out.blk (fun b hb => hk8 b (by
    rcases hb with hb | hb
    · have : b < n0 := hb; omega
    · have := (hlt8 b hb).1; omega))
  have hzz : n2 ≤ w7.heap.size := by have := HBB.out.size; have := HN2.out; omega
  obtain ⟨A8, c8, he8, y1, y2, y3⟩ := hox8.reads (S' := fun q => True ∧ q < w7.heap.size ∧ q ≠ n0 + 1) (fun b hb => ⟨trivial, by have : b < n0 := hb; omega, by have : b < n0 := hb; omega⟩) (fun g hg => ⟨trivial, (hlt8 g hg).2, by have := (hlt8 g hg).1; omega⟩)
  simp only [List.cons.injEq, Value.slice.injEq, and_true] at he8
  obtain ⟨rfl, _, rfl⟩ := he8
  generalize w7.setCell ⟨n0, 2, none⟩ (.slice A7 xl.length c7) = w8 at hr8 hr18 hbw8 hz8 y3 ⊢
  have HCL : Hid (ClAt (((im, l), xl) : Cls) A c A2 c2 A7 c7 (fun q => True ∧ q < w8.heap.size ∧ q ≠ n0 + 1) w8) :=
    ⟨⟨hc.1, hc.2, (HK1.out w8 hbw8).more (fun g hg => by have : g < w.heap.size := hg; exact ⟨trivial, by omega, by omega⟩)⟩,
      ⟨hc2.1, hc2.2, (HK2.out w8 hbw8).more (fun g hg => by have : g < w.heap.size := hg; exact ⟨trivial, by omega, by omega⟩)⟩,
      ⟨y1, y2, y3.more (fun g hg => ⟨trivial, by omega, hg.2.2⟩)⟩⟩
  clear hk8 hlt8 hox8 y3 hz8
  obtain ⟨q0, q1, q2, qf⟩ := blk3 hr8
  obtain ⟨v0, v1, v2, vf⟩ := blk3 hr18
  go_wp2_with fail
  have hend := rd_end (w := w) (x := (((im, l), xl) : Cls)) (A := A) (c := c) (D := A2) (d := c2) (G := A7) (g := c7) hr18 (by omega) hbw8 HCL.out 0
  obtain ⟨hz, hret⟩ := hend
  change bodyPost _ _ _ _ _ (sw3 w8 (n0 + 1) (.slice A ((((im, l), xl) : Cls)).1.1.length c) (.slice A2 ((((im, l), xl) : Cls)).1.2.length c2) (.slice A7 ((((im, l), xl) : Cls)).2.length c7))
  generalize sw3 w8 (n0 + 1) (.slice A ((((im, l), xl) : Cls)).1.1.length c) (.slice A2 ((((im, l), xl) : Cls)).1.2.length c2) (.slice A7 ((((im, l), xl) : Cls)).2.length c7) = W3 at hz hret ⊢
  obtain ⟨z0, z1, z2, _⟩ := blk3 hz
  refine bodyPost_ret (v := .tuple #[.agg #[.slice A ((((im, l), xl) : Cls)).1.1.length c, .slice A2 ((((im, l), xl) : Cls)).1.2.length c2, .slice A7 ((((im, l), xl) : Cls)).2.length c7], .int .i64 0]) ?_ rfl ?_
  · simp [results, Tryz.results25, Tryz.f25, go_sem, z0, z1, z2, zCls, zSns]
  rw [HT2.out, HCE.out]; exact hret
end Go.Proofs.YtgndgkjefgjamaaGreat
namespace Go.Proofs.YtgndgkjefgjamaaGreat
open Go.RowKit Go.Shelf
attribute [local go_sem] Oper.semAt_some

end Go.Proofs.YtgndgkjefgjamaaGreat

namespace Go.Proofs.YtgndgkjefgjamaaGreat
open Go.RowKit Go.Shelf
attribute [local go_sem] Oper.semAt_some

/-- the items, the one ahead of a with what a has saved -/
def dSt (l : List Snp) (a : Nat) : List Snp := match a with
  | 0 => l
  | i + 1 => l.set i ((l.getD i (0, 0, [])).1, (l.getD i (0, 0, [])).2.1, foldL ((l.getD (i + 1) (0, 0, [])).2.2 ++ (l.getD i (0, 0, [])).2.2))
theorem dSt_len {l : List Snp} {a : Nat} : (dSt l a).length = l.length := by cases a <;> simp [dSt]
theorem getD_of {l : List Snp} {i : Nat} (h : i < l.length) : l.getD i (0, 0, []) = l[i] := by
  rw [List.getD_eq_getElem?_getD, List.getElem?_eq_getElem h]; rfl
theorem delL_dSt {l : List Snp} {a : Nat} (h : a < l.length) : delL l a = (dSt l a).eraseIdx a := by
  cases a with
  | zero => cases l <;> rfl
  | succ i =>
    rw [delL_succ h]
    show _ = (l.set i ((l.getD i (0, 0, [])).1, (l.getD i (0, 0, [])).2.1, foldL ((l.getD (i + 1) (0, 0, [])).2.2 ++ (l.getD i (0, 0, [])).2.2))).eraseIdx (i + 1)
    rw [getD_of h, getD_of (by omega : i < l.length)]
theorem dSt_step {l : List Snp} {k : Nat} (h : k + 1 < l.length) : dSt l (k + 1) = l.set k (l[k].1, l[k].2.1, foldL (l[k + 1].2.2 ++ l[k].2.2)) := by
  show l.set k ((l.getD k (0, 0, [])).1, (l.getD k (0, 0, [])).2.1, foldL ((l.getD (k + 1) (0, 0, [])).2.2 ++ (l.getD k (0, 0, [])).2.2)) = _
  rw [getD_of h, getD_of (by omega : k < l.length)]
theorem dSt_step' {l : List Snp} {k a : Nat} (hk1 : k + 1 = a) (h : a < l.length) (hlt : k < l.length) : dSt l a = l.set k (l[k].1, l[k].2.1, foldL (l[a].2.2 ++ l[k].2.2)) := by
  subst hk1
  exact dSt_step h
theorem dSt_at {l : List Snp} {a k : Nat} (h : k + 1 ≠ a) : (dSt l a)[k]? = l[k]? := by
  cases a with
  | zero => rfl
  | succ i => unfold dSt; exact List.getElem?_set_ne (by omega)
theorem del_same {l : List Snp} {a : Nat} (h : a < l.length) : (l.take (a + 1)).eraseIdx a = (l.take a).eraseIdx a := by
  have h1 : (l.take a).length = a := by simp; omega
  rw [List.take_succ_eq_append_getElem h, List.eraseIdx_append_of_length_le (by omega), h1, Nat.sub_self, show (l.take a).eraseIdx a = l.take a from List.eraseIdx_of_length_le (by omega)]; simp
theorem del_next {l : List Snp} {a k : Nat} (h : k < l.length) (hne : k ≠ a) : (l.take (k + 1)).eraseIdx a = (l.take k).eraseIdx a ++ [l[k]] := by
  have h1 : (l.take k).length = k := by simp; omega
  rw [List.take_succ_eq_append_getElem h]
  by_cases hk : a < k
  · rw [List.eraseIdx_append_of_lt_length (by omega)]
  · rw [List.eraseIdx_append_of_length_le (by omega), h1, List.eraseIdx_of_length_le (by simp; omega), List.eraseIdx_of_length_le (by omega)]
set_option maxHeartbeats 4000000 in
set_option maxRecDepth 100000 in
theorem refSnDelete_any (A A2 : Option Addr) (c c2 n m : Nat) (im : Img) (l : List Snp) (num : Int) (w : World) (hn : im.length = n) (hm : l.length = m) (h1 : SlAt (encSl encSec) w (Bl w.heap.size) A im) (h2 : SlAt encSnp w (Bl w.heap.size) A2 l) (hL : SnLim im l) (hsv : ∀ x ∈ l, x.2.2.length ≤ 50000) :
    Calls Tryz.prog 78 #[.agg #[.slice A n c, .slice A2 m c2], .int .i64 num] w (SnRetE (sDelete (im, l) num) (findE (im, l) num) w) := by
  subst hn hm
  have H1 : Hid (∀ w', Below w.heap.size w w' → SlAt (encSl encSec) w' (Bl w.heap.size) A im) := fun w' hb => h1.below hb
  have H2 : Hid (∀ w', Below w.heap.size w w' → SlAt encSnp w' (Bl w.heap.size) A2 l) := fun w' hb => h2.below hb
  have HLM := Lib.hid hL
  have HSV := Lib.hid hsv
  have hl1 := hL.ims
  have hl2 := hL.its
  clear h1 h2 hL hsv
  obtain ⟨n0, hn0⟩ : ∃ n0, w.heap.size = n0 := ⟨_, rfl⟩
  obtain ⟨W0, hW0⟩ : ∃ W0, (w.alloc (.cells #[.slice A im.length c, .slice A2 l.length c2] 26)).alloc (.cells #[.slice none 0 0, .slice none 0 0] 26) = W0 := ⟨_, rfl⟩
  have hB0 : Below n0 w W0 := by rw [← hW0, ← hn0]; exact ext_alloc (ext_alloc (Below.refl _ _))
  have hs0 : n0 + 1 < W0.heap.size := by rw [← hW0, ← hn0]; simp
  have hr0 : W0.heap[n0]? = some (.cells #[.slice A im.length c, .slice A2 l.length c2] 26 (0, 0)) := by rw [← hW0, ← hn0]; exact (Below.heap_alloc _ _ _ (by simp)).trans (heap_alloc_new _ _)
  have hrz0 : W0.heap[n0 + 1]? = some (.cells #[.slice none 0 0, .slice none 0 0] 26 (0, 0)) := by rw [← hW0, ← hn0]; exact heap_new2 _ _ _
  have hBL : Hid (∀ (W : World) g, Below n0 w W → Bl w.heap.size g → Bl W.heap.size g) := fun W g hb hg => by have := hb.size; have h5 : g < w.heap.size := hg; show g < W.heap.size; omega
  have HCC : Hid (∀ W, Below W0.heap.size W0 W → W.cell? ⟨n0, 0, none⟩ = some (.slice A im.length c) ∧ W.cell? ⟨n0, 1, none⟩ = some (.slice A2 l.length c2)) := fun W hb => by
    obtain ⟨a, b, _⟩ := blk2 ((hb.block n0 (by omega)).trans hr0)
    exact ⟨a, b⟩
  have HRZ : Hid (∀ W, Below W0.heap.size W0 W → W.heap[n0 + 1]? = some (.cells #[.slice none 0 0, .slice none 0 0] 26 (0, 0))) := fun W hb => (hb.block (n0 + 1) hs0).trans hrz0
  obtain ⟨r, hr⟩ : ∃ r, Hid (findE (im, l) num = r) := ⟨_, rfl⟩
  obtain ⟨a, ha⟩ : ∃ a, Hid (findN (im, l) num = a) := ⟨_, rfl⟩
  have HCK := Lib.hid (refFind_any A A2 c c2 im.length l.length im l num W0 rfl rfl ((H1.out W0 (by rw [hn0]; exact hB0)).more (fun g hg => hBL.out W0 g hB0 hg)) ((H2.out W0 (by rw [hn0]; exact hB0)).more (fun g hg => hBL.out W0 g hB0 hg)) hl1 (by omega))
  rw [hr.out, ha.out] at HCK
  obtain ⟨c0, c1⟩ := HCC.out W0 (Below.refl _ _)
  clear hr0 hrz0
  go_enter Tryz.func78, Tryz.ntmps78
  go_wp2_with fail
  refine HCK.out.mono ?_
  rintro e w1 ⟨rfl, hb1⟩
  have hbw1 : Below n0 w w1 := hB0.trans (hb1.mono (by omega))
  have hz1 := hb1.size
  have hrz1 := HRZ.out w1 hb1
  clear HCK hW0 c0 c1
  by_cases hx0 : r = 0
  case neg =>
    have hx0' : (r != 0) = true := by simp [hx0]
    have hne : r ≠ 0 := hx0
    clear hx0
    have hE : Hid (findE (im, l) num = r) := hr.out
    have hS : Hid (sDelete (im, l) num = zSns) := by rw [Hid, sDelete, if_neg (by rw [hE.out]; exact hne)]
    obtain ⟨q0, q1, qf⟩ := blk2 hrz1
    clear hne
    go_wp2_with fail
    have hz := blk2_set hrz1 (.slice none 0 0) (.slice none 0 0)
    have hbe := ((hbw1.setCell (p := ⟨n0 + 1, 0, none⟩) (by show n0 ≤ n0 + 1; omega) (.slice none 0 0)).setCell (p := ⟨n0 + 1, 1, none⟩) (by show n0 ≤ n0 + 1; omega) (.slice none 0 0))
    have hse := (SnRet.zero (w := (w1.setCell ⟨n0 + 1, 0, none⟩ (.slice none 0 0)).setCell ⟨n0 + 1, 1, none⟩ (.slice none 0 0)) (lo := n0) (by simp [World.setCell]; omega))
    change bodyPost _ _ _ _ _ ((w1.setCell ⟨(n0 + 1), 0, none⟩ (.slice none 0 0)).setCell ⟨(n0 + 1), 1, none⟩ (.slice none 0 0))
    generalize (w1.setCell ⟨(n0 + 1), 0, none⟩ (.slice none 0 0)).setCell ⟨(n0 + 1), 1, none⟩ (.slice none 0 0) = W3 at hz hbe hse ⊢
    obtain ⟨z0, z1, _⟩ := blk2 hz
    refine bodyPost_ret (v := .tuple #[.agg #[(.slice none 0 0), (.slice none 0 0)], .int .i64 r]) ?_ rfl ?_
    · simp [results, Tryz.results78, Tryz.f78, go_sem, z0, z1]
    rw [hE.out, hS.out]
    exact ⟨none, 0, none, 0, n0, rfl, by rw [hn0]; exact hse, by rw [hn0]; exact hbe⟩
  have hx0' : (r != 0) = false := by simp [hx0]
  have hE : Hid (findE (im, l) num = 0) := by rw [Hid, hr.out, hx0]
  obtain ⟨e1, hkl⟩ := findE_ok hE.out
  rw [ha.out] at hkl
  have hS : Hid (sDelete (im, l) num = (im, delL l a)) := by rw [Hid, sDelete, if_pos hE.out, ha.out]
  have hcp := refCopy36_any A A2 c c2 im.length l.length im l w1 rfl rfl ((H1.out w1 (by rw [hn0]; exact hbw1)).more (fun g hg => hBL.out w1 g hbw1 hg)) ((H2.out w1 (by rw [hn0]; exact hbw1)).more (fun g hg => hBL.out w1 g hbw1 hg)) HLM.out (snE_full e1)
  have HFIT := Lib.hid (snE_ok e1).2
  have HSZ := Lib.hid (snE_ok e1).1
  have HCP := Lib.hid hcp
  obtain ⟨c0, c1⟩ := HCC.out w1 hb1
  clear hx0 hr hcp e1
  go_wp2_with fail
  refine HCP.out.mono ?_
  rintro e w2 ⟨B, vc, D, dc, mid, rfl, hsn, hb2⟩
  have hb02 : Below W0.heap.size W0 w2 := ext_trans hb1 hb2
  clear HCP c0 c1 hrz1
  go_upto_region 5 with (fail)
  obtain ⟨xb, hxb⟩ : ∃ xb, w2.heap.size = xb := ⟨_, rfl⟩
  obtain ⟨w3, hw3⟩ : ∃ w3, w2.alloc (.cells #[.slice B im.length vc, .slice D l.length dc] 26) = w3 := ⟨_, rfl⟩
  rw [hw3, hxb]
  have hb3 : Below w2.heap.size w2 w3 := by rw [← hw3]; exact ext_alloc (Below.refl _ _)
  have hr3 : w3.heap[xb]? = some (.cells #[.slice B im.length vc, .slice D l.length dc] 26 (0, 0)) := by rw [← hw3, ← hxb]; exact heap_alloc_new _ _
  have hs3 : xb < w3.heap.size := (Array.getElem?_eq_some_iff.1 hr3).1
  have hw3s : Hid (w3.heap.size = xb + 1) := by rw [Hid, ← hw3, ← hxb]; simp
  have hz2 := hb2.size
  obtain ⟨k1, k2, k3, k4, k5, k6⟩ := hsn
  have hmz : mid ≤ xb := by omega
  have hmid : w1.heap.size ≤ mid := k3
  have hvc : Hid (im.length ≤ vc ∧ vc ≤ maxLen) := ⟨k1, k2⟩
  have HIM : Hid (SlAt (encSl encSec) w2 (Nw w1.heap.size mid) B im) := k5
  obtain ⟨o0, o1, of⟩ := blk2 hr3
  go_upto_region 6 with (fail)
  obtain ⟨ob, hob⟩ : ∃ ob, w3.heap.size = ob := ⟨_, rfl⟩
  obtain ⟨w4, hw4⟩ : ∃ w4, w3.alloc (.cells #[.slice B im.length vc, .slice none 0 0] 26) = w4 := ⟨_, rfl⟩
  rw [hw4, hob]
  have hb4 : Below w3.heap.size w3 w4 := by rw [← hw4]; exact ext_alloc (Below.refl _ _)
  have hr4o : w4.heap[ob]? = some (.cells #[.slice B im.length vc, .slice none 0 0] 26 (0, 0)) := by rw [← hw4, ← hob]; exact heap_alloc_new _ _
  have hr4x := (hb4.block xb hs3).trans hr3
  have hs4 : ob < w4.heap.size := (Array.getElem?_eq_some_iff.1 hr4o).1
  have hox : xb < ob := by have := hw3s.out; omega
  have hO4 : Hid (OwnX (fun b => b = xb ∨ b = ob ∨ (Value.slice none 0 0).ownBlock = some b) encSnp w4 mid 158 (.slice D l.length dc) l) := ((k6.var (X' := fun b => b = xb ∨ b = ob ∨ (Value.slice none 0 0).ownBlock = some b) (fun g hg => Or.inr (by rcases hg with h | h | h; omega; omega; cases h))).below hb3).below hb4
  have hb24 : Below mid w2 w4 := (hb3.mono (by omega)).trans (hb4.mono (by omega))
  obtain ⟨g, cs, he, hg1, hg2, hn, hcell, hfz, hrd⟩ := hO4.out.1.elem (i := a) hkl
  subst he
  obtain ⟨l', hl'⟩ : ∃ l', Hid (dSt l a = l') := ⟨_, rfl⟩
  have hll : Hid (l'.length = l.length) := by rw [Hid, ← hl'.out]; exact dSt_len
  have hdel : Hid (delL l a = l'.eraseIdx a) := by rw [Hid, ← hl'.out]; exact delL_dSt hkl
  have HR4O := Lib.hid hr4o
  have HR4X := Lib.hid hr4x
  clear k1 k2 k3 k4 k5 k6 hw3 hw4 hb3 hb4 hr3 hr4o hr4x o0 o1 of hcell hfz hrd hn
  go_wp2_with fail
  go_loopw [10] (fun i wr => ∃ (k : Nat) (A5 : Option Addr) (c5 : Nat) (xl ol : List Snp), k ≤ l.length ∧ i = .int .i64 k ∧ Below mid w2 wr ∧ ob < wr.heap.size ∧ Hid (xl = if k < a then l else l') ∧ Hid (ol = (l'.take k).eraseIdx a) ∧ Hid (wr.heap[xb]? = some (.cells #[.slice B im.length vc, .slice (some ⟨g, 0, none⟩) l.length dc] 26 (0, 0))) ∧ Hid (wr.heap[ob]? = some (.cells #[.slice B im.length vc, .slice A5 ol.length c5] 26 (0, 0))) ∧ Hid (OwnX (fun b => b = xb ∨ b = ob ∨ (Value.slice A5 ol.length c5).ownBlock = some b) encSnp wr mid 158 (.slice (some ⟨g, 0, none⟩) l.length dc) xl) ∧ Hid (OwnX (fun b => b = xb ∨ b = ob ∨ b = g) encSnp wr mid 158 (.slice A5 ol.length c5) ol)) (fun i _ => l.length - (intOf i).toNat)
  case atStart =>
    refine ⟨0, none, 0, if 0 < a then l else l', [], by omega, rfl, hb24, hs4, rfl, by simp [Hid], HR4X.out, HR4O.out, ?_, OwnX.nil_⟩
    split
    · exact hO4.out
    · have e : l = l' := by rw [← hl'.out, show a = 0 by omega]; rfl
      rw [← e]; exact hO4.out
  case round =>
    obtain ⟨wo, rfl⟩ : ∃ wo : World, wo = wr := ⟨_, rfl⟩
    obtain ⟨k, A5, c5, xl, ol, hk, rfl, hB, hsz, hxl, hol, hrx, hro, HX0, HO0⟩ := hrel
    obtain ⟨_, x1, _⟩ := blk2 hrx.out
    by_cases hlt : k < l.length
    · have hki : (k : Int) < l.length := by omega
      have hnn : (0 : Int) ≤ k := by omega
      have hol2 : Hid (ol.length ≤ k) := by rw [hol.out, Hid]; have h1 := List.length_eraseIdx_le (l'.take k) a; have h2 := List.length_take_le k l'; omega
      by_cases hka : k = a
      · subst hka
        have hsame := del_same (l := l') (a := k) (by rw [hll.out]; exact hlt)
        have hkk : (k : Int) = k := rfl
        go_wp2_with fail
        go_roundw
        case rel => exact ⟨k + 1, A5, c5, xl, ol, hlt, by go_num, hB, hsz, by rw [Hid, hxl.out, if_neg (by omega), if_neg (by omega)], by rw [Hid, hsame]; exact hol.out, hrx.out, hro.out, HX0.out, HO0.out⟩
        case measure => simp [intOf]; omega
      · by_cases hk1 : k + 1 = a
        · have hkn : ¬ (k : Int) = a := by omega
          have hkm : (a : Int) - 1 = k := by omega
          go_upto_region 11 with (fail)
          have hal : (a : Int) < l.length := by omega
          have han : (0 : Int) ≤ a := by omega
          have hXl : Hid (xl = l) := by rw [Hid, hxl.out, if_pos (by omega)]
          rw [hXl.out] at HX0
          have hgz : g < wo.heap.size := (HX0.out.lt g rfl).2
          obtain ⟨ga, csa, hea, _, _, _, hcella, _, hrda⟩ := HX0.out.1.elem (i := a) hkl
          obtain ⟨gk, csk, hek, _, _, _, hcellk, hfzk, hrdk⟩ := HX0.out.1.elem (i := k) hlt
          simp only [Option.some.injEq, Addr.mk.injEq, and_true] at hea hek
          subst hea hek
          have hst := dSt_step' (l := l) hk1 hkl hlt
          have hsa := HSV.out l[a] (List.getElem_mem hkl)
          have hsk := HSV.out l[k] (List.getElem_mem hlt)
          have hfa := HFIT.out l[a] (List.getElem_mem hkl)
          rw [hl'.out] at hst
          have HSTO := Lib.hid (fun (W : World) (X : Nat → Prop) (d : List Wr) (D : Option Addr) (dcc : Nat) (h : OwnX X encSnp W mid 158 (.slice (some ⟨g, 0, none⟩) l.length dc) l) => OwnX.storeSv h hlt (d := d) (D := D) (dc := dcc))
          obtain ⟨xa, hxa⟩ : ∃ x, l[a] = x := ⟨_, rfl⟩
          obtain ⟨xk, hxk⟩ : ∃ x, l[k] = x := ⟨_, rfl⟩
          rw [hxa] at hrda hst hsa hfa
          rw [hxk] at hrdk hst hsk HSTO
          obtain ⟨na, ta, sa⟩ := xa
          obtain ⟨nk, tk, sk⟩ := xk
          obtain ⟨Da, da, rfl, _, _, a1, a2, a3⟩ := snp_cs hrda
          obtain ⟨Dk, dk, rfl, b1, b2, b3, b4, b5⟩ := snp_cs hrdk
          simp only at a1 a2 a3 b1 b2 b3 b4 b5 hst hsa hsk hfa HSTO
          have da2 := hcella 2 _ rfl
          have dk2 := hcellk 2 _ rfl
          simp only [show encSnp.size = 3 from rfl] at da2 dk2
          have hfk := hfzk (k * 3 + 2)
          have hda : Hid (∀ x ∈ sa, 0 < x.2.2.length ∧ x.2.2.length ≤ 1000000) := fun x hx => by
            have h1 := fits_ok HSZ.out (hfa x hx)
            exact ⟨h1.2.2.1, by have := h1.2.2.2; omega⟩
          obtain ⟨rr, hrr⟩ : ∃ rr, Hid (foldL (sa ++ sk) = rr) := ⟨_, rfl⟩
          rw [hrr.out] at hst
          have HLK : Hid (l.set k (nk, tk, rr) = l') := hst.symm
          have hbd : Below wo.heap.size wo wo.drew := (Below.refl _ _).drew
          have HOV := Lib.hid (refOver_any Da Dk da dk sa.length sk.length sa sk wo.drew rfl rfl ((a3.more (fun b hb => (show b < wo.heap.size from hb.1.2))).fwd hbd) ((b5.more (fun b hb => (show b < wo.heap.size from hb.1.2))).fwd hbd) (by omega) hda.out)
          rw [hrr.out] at HOV
          have hobz : ob < wo.heap.size := hsz
          have hxbz : xb < wo.heap.size := by omega
          have hneA : (⟨g, k * 3 + 2, none⟩ : Addr) ≠ ⟨g, a * 3 + 2, none⟩ := fun e => by injection e with _ e2 _; omega
          have hxg : xb ≠ g := fun e => HX0.out.2 g rfl (Or.inl e.symm)
          have hog : ob ≠ g := fun e => HX0.out.2 g rfl (Or.inr (Or.inl e.symm))
          have HSX : Hid (∀ W, Below wo.heap.size wo W → W.cell? ⟨xb, 1, none⟩ = some (.slice (some ⟨g, 0, none⟩) l.length dc) ∧ W.cell? ⟨g, a * 3 + 2, none⟩ = some (.slice Da sa.length da)) := fun W hb => ⟨(World.cell?_of_block (a := ⟨xb, 1, none⟩) (hb.block xb hxbz)).trans x1, (World.cell?_of_block (a := ⟨g, a * 3 + 2, none⟩) (hb.block g hgz)).trans da2⟩
          have HSG : Hid (∀ W, Below wo.heap.size wo W → W.cell? ⟨g, k * 3 + 2, none⟩ = some (.slice Dk sk.length dk) ∧ W.frozen? ⟨g, k * 3 + 2, none⟩ = false) := fun W hb => ⟨(World.cell?_of_block (a := ⟨g, k * 3 + 2, none⟩) (hb.block g hgz)).trans dk2, (World.frozen?_of_block (a := ⟨g, k * 3 + 2, none⟩) (hb.block g hgz)).trans hfk⟩
          obtain ⟨s0, s1⟩ := HSX.out wo.drew hbd
          obtain ⟨z0, f0⟩ := HSG.out wo.drew hbd
          clear hcella hcellk hfzk hrda hrdk a1 a2 a3 b1 b2 b3 b4 b5 hst hsa hsk hfa hxa hxk da2 dk2 hfk x1
          go_cut [10] (fun e wx => e = .int .i64 k ∧ OwnX (fun b => b = xb ∨ b = ob ∨ (Value.slice A5 ol.length c5).ownBlock = some b) encSnp wx mid 158 (.slice (some ⟨g, 0, none⟩) l.length dc) l' ∧ OwnX (fun b => b = xb ∨ b = ob ∨ b = g) encSnp wx mid 158 (.slice A5 ol.length c5) ol ∧ wx.heap[xb]? = some (.cells #[.slice B im.length vc, .slice (some ⟨g, 0, none⟩) l.length dc] 26 (0, 0)) ∧ wx.heap[ob]? = some (.cells #[.slice B im.length vc, .slice A5 ol.length c5] 26 (0, 0)) ∧ Below mid w2 wx ∧ ob < wx.heap.size)
          case first =>
            go_region_law (first | (go_simp; go_at_call 131; refine HOV.out.mono ?_; rintro e w5 ⟨A8, c8, rfl, u1, u2, u3, hb7⟩; have hx7 : Below wo.heap.size wo w5 := ext_trans hbd hb7; obtain ⟨z7, f7⟩ := HSG.out w5 hx7; obtain ⟨q0, q1⟩ := HSX.out w5 hx7))
            all_goals
              go_wp2
              go_meet
              have hz7 := hx7.size
              have hX5 := HSTO.out w5 _ rr A8 c8 (HX0.out.below hx7) u1 u2 (u3.more (fun b hb => ⟨⟨by have h := hb.1; simp at h; omega, hb.2⟩, fun h => by
                have h0 := hb.1
                simp at h0
                rcases h with h | h | h
                · omega
                · omega
                · have := (HO0.out.lt b h).2; omega, by have h := hb.1; simp at h; omega⟩))
              rw [HLK.out] at hX5
              refine ⟨rfl, hX5, (HO0.out.below hx7).set (p := ⟨g, k * 3 + 2, none⟩) (Or.inr (Or.inr rfl)) (.slice A8 rr.length c8), (heap_setCell_other w5 ⟨g, k * 3 + 2, none⟩ xb (.slice A8 rr.length c8) hxg).trans ((hx7.block xb hxbz).trans hrx.out), (heap_setCell_other w5 ⟨g, k * 3 + 2, none⟩ ob (.slice A8 rr.length c8) hog).trans ((hx7.block ob hobz).trans hro.out), (hB.trans (hx7.mono (by omega))).setCell (p := ⟨g, k * 3 + 2, none⟩) (by show mid ≤ g; exact (HX0.out.lt g rfl).1) (.slice A8 rr.length c8), ?_⟩
              simp [World.setCell]; omega
          case rest =>
          obtain ⟨rfl, hcut⟩ := hcut
          have HCUT := Lib.hid hcut
          have HX := Lib.hid HCUT.out.1
          have HO := Lib.hid HCUT.out.2.1
          have HXB := Lib.hid HCUT.out.2.2.1
          have HOB := Lib.hid HCUT.out.2.2.2.1
          have HBQ := HCUT.out.2.2.2.2.1
          have hszq := HCUT.out.2.2.2.2.2
          clear hcut HCUT z0 f0 s0 s1 HOV HX0 HO0 hrx hro hgz hxbz hobz hbd
          have hxql : Hid (l'.length = l.length) := hll
          have hxq : Hid (l'[k]? = l'[k]?) := rfl
          have hxl1 : Hid (l' = if k + 1 < a then l else l') := by rw [Hid, if_neg (by omega)]
          obtain ⟨_, x1, _⟩ := blk2 HXB.out
          go_upto_region 12 with (fail)
          have hkq : k < l'.length := by rw [hxql.out]; exact hlt
          obtain ⟨g', cs', he', ya, yb, yc, hcell', hfz', hrd'⟩ := HX.out.1.elem (i := k) hkq
          simp only [Option.some.injEq, Addr.mk.injEq, and_true] at he'
          subst he'
          obtain ⟨x, hx⟩ : ∃ x, l'[k] = x := ⟨_, rfl⟩
          rw [hx] at hrd'
          have hxl' : Hid (l'[k]? = some x) := by rw [Hid, ← hxq.out, List.getElem?_eq_getElem hkq, hx]
          obtain ⟨num1, tm1, sv⟩ := x
          obtain ⟨Dx, dx, rfl, i1, i2, j1, j2, j3⟩ := snp_cs hrd'
          simp only at i1 i2 j1 j2 j3
          have d0 := hcell' 0 _ rfl
          have d1 := hcell' 1 _ rfl
          have d2 := hcell' 2 _ rfl
          simp only [show encSnp.size = 3 from rfl, Nat.add_zero] at d0 d1 d2
          have hgq : g < wc.heap.size := yb
          have hobq : ob < wc.heap.size := (Array.getElem?_eq_some_iff.1 HOB.out).1
          have hxbq : xb < wc.heap.size := (Array.getElem?_eq_some_iff.1 HXB.out).1
          obtain ⟨cc, hcc⟩ : ∃ cc : Array Value, cc = #[.int .i64 num1, .int .i64 tm1, .slice Dx sv.length dx] := ⟨_, rfl⟩
          have hO4 := Lib.hid ((HO.out.below (Below.refl wc.heap.size wc).drew).alloc (.cells #[.int .i64 num1, .int .i64 tm1, .slice Dx sv.length dx] 158))
          have hO4o := Lib.hid hO4.out.1
          have HRD : Hid (encSnp.rd (wc.drew.alloc (.cells #[.int .i64 num1, .int .i64 tm1, .slice Dx sv.length dx] 158)) (fun b => Nw mid (wc.drew.alloc (.cells #[.int .i64 num1, .int .i64 tm1, .slice Dx sv.length dx] 158)).heap.size b ∧ ¬ (b = xb ∨ b = ob ∨ b = g) ∧ (Value.slice A5 ol.length c5).ownBlock ≠ some b) [.int .i64 num1, .int .i64 tm1, .slice Dx sv.length dx] (num1, tm1, sv)) :=
            snp_mk (x := (num1, tm1, sv)) i1 i2 j1 j2 ((j3.blk (fun b hb => (Below.heap_alloc wc.drew _ b hb.1.2))).more (fun b hb => ⟨⟨hb.1.1, by have := hb.1.2; simp; omega⟩, fun h => h.elim (fun h => hb.2.1 (Or.inl h)) (fun h => h.elim (fun h => hb.2.1 (Or.inr (Or.inl h))) (fun h => hb.2.2 (by rw [h]; rfl))), fun h => hb.2.1 (Or.inr (Or.inr h))⟩))
          have HSY : Hid (∀ (W : World), (∀ b, b = xb ∨ b = ob ∨ b = g → W.heap[b]? = wc.heap[b]?) → (W.cell? ⟨ob, 1, none⟩ = some (.slice A5 ol.length c5) ∧ W.frozen? ⟨ob, 1, none⟩ = false) ∧ W.cell? ⟨xb, 1, none⟩ = some (.slice (some ⟨g, 0, none⟩) l.length dc) ∧ W.cell? ⟨g, k * 3, none⟩ = some (.int .i64 num1) ∧ W.cell? ⟨g, k * 3 + 1, none⟩ = some (.int .i64 tm1) ∧ W.cell? ⟨g, k * 3 + 2, none⟩ = some (.slice Dx sv.length dx)) := fun W hb => by
            obtain ⟨_, p1, pf⟩ := blk2 ((hb ob (Or.inr (Or.inl rfl))).trans HOB.out)
            obtain ⟨_, p2, _⟩ := blk2 ((hb xb (Or.inl rfl)).trans HXB.out)
            have hg' := hb g (Or.inr (Or.inr rfl))
            exact ⟨⟨p1, pf 1⟩, p2, (World.cell?_of_block (a := ⟨g, k * 3, none⟩) hg').trans d0, (World.cell?_of_block (a := ⟨g, k * 3 + 1, none⟩) hg').trans d1, (World.cell?_of_block (a := ⟨g, k * 3 + 2, none⟩) hg').trans d2⟩
          have hoown : Hid (∀ b, b = xb ∨ b = ob ∨ b = g → (Value.slice A5 ol.length c5).ownBlock ≠ some b) := fun b hb h => HO.out.2 b h hb
          obtain ⟨⟨s0, sf⟩, s1, s2, s3, s4⟩ := HSY.out wc.drew (fun _ _ => rfl)
          have hal : ∀ b, b = xb ∨ b = ob ∨ b = g → b < wc.heap.size := fun b hb => by omega
          obtain ⟨⟨v0, vf⟩, v1, v2, v3, v4⟩ := HSY.out (wc.alloc (.cells #[.int .i64 num1, .int .i64 tm1, .slice Dx sv.length dx] 158)) (fun b hb => Below.heap_alloc wc _ b (hal b hb))
          obtain ⟨⟨u0, uf⟩, u1, u2, u3, u4⟩ := HSY.out (wc.drew.alloc (.cells #[.int .i64 num1, .int .i64 tm1, .slice Dx sv.length dx] 158)) (fun b hb => Below.heap_alloc wc.drew _ b (hal b hb))
          have holl : ol.length ≤ 100000 := by have := hol2.out; omega
          have HAL := Lib.hid hal
          clear hcell' hfz' hrd' j3 hx d0 d1 d2 hal hcc
          go_region_law (refine step_app1 (E := encSnp) tySnps rfl _ _ rfl rfl hO4o.out (num1, tm1, sv) [.int .i64 num1, .int .i64 tm1, .slice Dx sv.length dx] rfl HRD.out (heap_alloc_new _ _) (fun _ h => h.1.2) (by simp; omega) (by unfold maxLen; omega) (by omega) ?_; intro A6 c6 w6 hown6 hg6 hat6; have hk6 : Hid (∀ b, b = xb ∨ b = ob ∨ b = g → w6.heap[b]? = wc.heap[b]?) := fun b hb => (hg6.block b (by have := HAL.out b hb; simp; omega) (fun e => hoown.out b hb e.symm)).trans (Below.heap_alloc wc.drew _ b (HAL.out b hb)); obtain ⟨⟨t0, tf⟩, t1, t2, t3, t4⟩ := HSY.out w6 hk6.out)
          all_goals
            have hro7 := blk2_1 ((hk6.out ob (Or.inr (Or.inl rfl))).trans HOB.out) (.slice A6 (ol.length + 1) c6)
            have hrx7 := (heap_setCell_other w6 ⟨ob, 1, none⟩ xb (.slice A6 (ol.length + 1) c6) (by show xb ≠ ob; omega)).trans ((hk6.out xb (Or.inl rfl)).trans HXB.out)
            have hg6' : (wc.drew.alloc (.cells #[.int .i64 num1, .int .i64 tm1, .slice Dx sv.length dx] 158)).grownBy w6 (Value.slice A5 ol.length c5).ownBlock := hg6
            have hat6' : (Value.slice A6 (ol.length + 1) c6).ownBlock = (Value.slice A5 ol.length c5).ownBlock ∨ (Value.slice A6 (ol.length + 1) c6).ownBlock = some (wc.drew.alloc (.cells #[.int .i64 num1, .int .i64 tm1, .slice Dx sv.length dx] 158)).heap.size := hat6
            have hmq : mid ≤ wc.heap.size := by omega
            have hz6 := hg6.size
            have hzq : wc.heap.size ≤ w6.heap.size := by have h := hz6; simp at h; omega
            have hla : (ol ++ [(num1, tm1, sv)]).length = ol.length + 1 := by simp
            have hO7 : OwnX (fun b => b = xb ∨ b = ob ∨ b = g) encSnp (w6.setCell ⟨ob, 1, none⟩ (.slice A6 (ol.length + 1) c6)) mid 158 (.slice A6 (ol.length + 1) c6) (ol ++ [(num1, tm1, sv)]) := (hO4.out.app hown6 hg6 hat6 (fun b hb => by have := HAL.out b hb; simp; omega)).set (p := ⟨ob, 1, none⟩) (Or.inr (Or.inl rfl)) _
            have hXa := (HX.out.below (Below.refl wc.heap.size wc).drew).alloc (.cells #[.int .i64 num1, .int .i64 tm1, .slice Dx sv.length dx] 158)
            have hXb := hXa.var (X' := fun b => (b = xb ∨ b = ob ∨ (Value.slice A5 ol.length c5).ownBlock = some b) ∨ (Value.slice A6 (ol.length + 1) c6).ownBlock = some b) (fun b hb => hb.elim Or.inl (fun h => hat6'.elim (fun e => Or.inl (Or.inr (Or.inr (e.symm.trans h)))) (fun e => Or.inr (by rw [e] at h; injection h with h; exact Nat.le_of_eq h))))
            have hXc := (hXb.keep hz6 (fun b _ h2 h3 => hg6'.block b h2 (fun e => h3 (Or.inl (Or.inr (Or.inr e.symm)))))).var (X' := fun b => b = xb ∨ b = ob ∨ (Value.slice A6 (ol.length + 1) c6).ownBlock = some b) (fun b hb => hb.elim (fun h => Or.inl (Or.inl (Or.inl h))) (fun h => h.elim (fun h => Or.inl (Or.inl (Or.inr (Or.inl h)))) (fun h => Or.inl (Or.inr h))))
            have hX7 := hXc.set (p := ⟨ob, 1, none⟩) (Or.inr (Or.inl rfl)) (.slice A6 (ol.length + 1) c6)
            have hlo := hO4.out.lt
            have hB7 : Below mid w2 (w6.setCell ⟨ob, 1, none⟩ (.slice A6 (ol.length + 1) c6)) := (((HBQ.drew).alloc (show mid ≤ wc.drew.heap.size from hmq) (.cells #[.int .i64 num1, .int .i64 tm1, .slice Dx sv.length dx] 158)).grown hg6 (by simp; omega) (fun b h => (hlo b h).1)).setCell (p := ⟨ob, 1, none⟩) (by show mid ≤ ob; omega) _
            have hs7 : ob < (w6.setCell ⟨ob, 1, none⟩ (.slice A6 (ol.length + 1) c6)).heap.size := by simp [World.setCell]; omega
            have hdn := del_next (l := l') (a := a) (k := k) (by rw [hll.out]; exact hlt) hka
            have hxx : l'[k]'(by rw [hll.out]; exact hlt) = (num1, tm1, sv) := by
              have h := hxl'.out
              rw [List.getElem?_eq_getElem (by rw [hll.out]; exact hlt)] at h
              exact Option.some.inj h
            rw [hxx] at hdn
            have HZ := Lib.hid (And.intro hro7 (And.intro hrx7 (And.intro hO7 hX7)))
            have HDN := Lib.hid hdn
            have HLA := Lib.hid hla
            clear hro7 hrx7 hO7 hXa hXb hXc hX7 hlo hdn hxx hown6 hg6 hat6 hg6' hat6' hk6 hO4 hO4o HRD s0 sf s1 s2 s3 s4 v0 vf v1 v2 v3 v4 u0 uf u1 u2 u3 u4 t0 tf t1 t2 t3 t4 hz6 hzq hla
            generalize w6.setCell ⟨ob, 1, none⟩ (.slice A6 (ol.length + 1) c6) = w7 at HZ hB7 hs7 ⊢
            go_wp2
            go_roundw
            case rel => exact ⟨k + 1, A6, c6, l', ol ++ [(num1, tm1, sv)], hlt, by go_num, hB7, hs7, hxl1.out, by rw [Hid, HDN.out, ← hol.out], HZ.out.2.1, by rw [Hid, HLA.out]; exact HZ.out.1, by rw [Hid, HLA.out]; exact HZ.out.2.2.2, by rw [Hid, HLA.out]; exact HZ.out.2.2.1⟩
            case measure => simp [intOf]; omega
        · have hkn : ¬ (k : Int) = a := by omega
          have hkm : ¬ (k : Int) = (a : Int) - 1 := by omega
          have hxql : Hid (xl.length = l.length) := by
            rw [Hid, hxl.out]; split
            · rfl
            · exact hll.out
          have hxq : Hid (xl[k]? = l'[k]?) := by
            rw [Hid, hxl.out, ← hl'.out]
            split
            · exact (dSt_at hk1).symm
            · rfl
          have HX := HX0
          have HO := HO0
          have HXB := hrx
          have HOB := hro
          have HBQ := hB
          have hxl1 : Hid (xl = if k + 1 < a then l else l') := by
            rw [Hid, hxl.out]
            by_cases h : k < a
            · rw [if_pos h, if_pos (by omega)]
            · rw [if_neg h, if_neg (by omega)]
          go_upto_region 12 with (fail)
          have hkq : k < xl.length := by rw [hxql.out]; exact hlt
          obtain ⟨g', cs', he', ya, yb, yc, hcell', hfz', hrd'⟩ := HX.out.1.elem (i := k) hkq
          simp only [Option.some.injEq, Addr.mk.injEq, and_true] at he'
          subst he'
          obtain ⟨x, hx⟩ : ∃ x, xl[k] = x := ⟨_, rfl⟩
          rw [hx] at hrd'
          have hxl' : Hid (l'[k]? = some x) := by rw [Hid, ← hxq.out, List.getElem?_eq_getElem hkq, hx]
          obtain ⟨num1, tm1, sv⟩ := x
          obtain ⟨Dx, dx, rfl, i1, i2, j1, j2, j3⟩ := snp_cs hrd'
          simp only at i1 i2 j1 j2 j3
          have d0 := hcell' 0 _ rfl
          have d1 := hcell' 1 _ rfl
          have d2 := hcell' 2 _ rfl
          simp only [show encSnp.size = 3 from rfl, Nat.add_zero] at d0 d1 d2
          have hgq : g < wo.heap.size := yb
          have hobq : ob < wo.heap.size := (Array.getElem?_eq_some_iff.1 HOB.out).1
          have hxbq : xb < wo.heap.size := (Array.getElem?_eq_some_iff.1 HXB.out).1
          obtain ⟨cc, hcc⟩ : ∃ cc : Array Value, cc = #[.int .i64 num1, .int .i64 tm1, .slice Dx sv.length dx] := ⟨_, rfl⟩
          have hO4 := Lib.hid ((HO.out.below (Below.refl wo.heap.size wo).drew).alloc (.cells #[.int .i64 num1, .int .i64 tm1, .slice Dx sv.length dx] 158))
          have hO4o := Lib.hid hO4.out.1
          have HRD : Hid (encSnp.rd (wo.drew.alloc (.cells #[.int .i64 num1, .int .i64 tm1, .slice Dx sv.length dx] 158)) (fun b => Nw mid (wo.drew.alloc (.cells #[.int .i64 num1, .int .i64 tm1, .slice Dx sv.length dx] 158)).heap.size b ∧ ¬ (b = xb ∨ b = ob ∨ b = g) ∧ (Value.slice A5 ol.length c5).ownBlock ≠ some b) [.int .i64 num1, .int .i64 tm1, .slice Dx sv.length dx] (num1, tm1, sv)) :=
            snp_mk (x := (num1, tm1, sv)) i1 i2 j1 j2 ((j3.blk (fun b hb => (Below.heap_alloc wo.drew _ b hb.1.2))).more (fun b hb => ⟨⟨hb.1.1, by have := hb.1.2; simp; omega⟩, fun h => h.elim (fun h => hb.2.1 (Or.inl h)) (fun h => h.elim (fun h => hb.2.1 (Or.inr (Or.inl h))) (fun h => hb.2.2 (by rw [h]; rfl))), fun h => hb.2.1 (Or.inr (Or.inr h))⟩))
          have HSY : Hid (∀ (W : World), (∀ b, b = xb ∨ b = ob ∨ b = g → W.heap[b]? = wo.heap[b]?) → (W.cell? ⟨ob, 1, none⟩ = some (.slice A5 ol.length c5) ∧ W.frozen? ⟨ob, 1, none⟩ = false) ∧ W.cell? ⟨xb, 1, none⟩ = some (.slice (some ⟨g, 0, none⟩) l.length dc) ∧ W.cell? ⟨g, k * 3, none⟩ = some (.int .i64 num1) ∧ W.cell? ⟨g, k * 3 + 1, none⟩ = some (.int .i64 tm1) ∧ W.cell? ⟨g, k * 3 + 2, none⟩ = some (.slice Dx sv.length dx)) := fun W hb => by
            obtain ⟨_, p1, pf⟩ := blk2 ((hb ob (Or.inr (Or.inl rfl))).trans HOB.out)
            obtain ⟨_, p2, _⟩ := blk2 ((hb xb (Or.inl rfl)).trans HXB.out)
            have hg' := hb g (Or.inr (Or.inr rfl))
            exact ⟨⟨p1, pf 1⟩, p2, (World.cell?_of_block (a := ⟨g, k * 3, none⟩) hg').trans d0, (World.cell?_of_block (a := ⟨g, k * 3 + 1, none⟩) hg').trans d1, (World.cell?_of_block (a := ⟨g, k * 3 + 2, none⟩) hg').trans d2⟩
          have hoown : Hid (∀ b, b = xb ∨ b = ob ∨ b = g → (Value.slice A5 ol.length c5).ownBlock ≠ some b) := fun b hb h => HO.out.2 b h hb
          obtain ⟨⟨s0, sf⟩, s1, s2, s3, s4⟩ := HSY.out wo.drew (fun _ _ => rfl)
          have hal : ∀ b, b = xb ∨ b = ob ∨ b = g → b < wo.heap.size := fun b hb => by omega
          obtain ⟨⟨v0, vf⟩, v1, v2, v3, v4⟩ := HSY.out (wo.alloc (.cells #[.int .i64 num1, .int .i64 tm1, .slice Dx sv.length dx] 158)) (fun b hb => Below.heap_alloc wo _ b (hal b hb))
          obtain ⟨⟨u0, uf⟩, u1, u2, u3, u4⟩ := HSY.out (wo.drew.alloc (.cells #[.int .i64 num1, .int .i64 tm1, .slice Dx sv.length dx] 158)) (fun b hb => Below.heap_alloc wo.drew _ b (hal b hb))
          have holl : ol.length ≤ 100000 := by have := hol2.out; omega
          have HAL := Lib.hid hal
          clear hcell' hfz' hrd' j3 hx d0 d1 d2 hal hcc
          go_region_law (refine step_app1 (E := encSnp) tySnps rfl _ _ rfl rfl hO4o.out (num1, tm1, sv) [.int .i64 num1, .int .i64 tm1, .slice Dx sv.length dx] rfl HRD.out (heap_alloc_new _ _) (fun _ h => h.1.2) (by simp; omega) (by unfold maxLen; omega) (by omega) ?_; intro A6 c6 w6 hown6 hg6 hat6; have hk6 : Hid (∀ b, b = xb ∨ b = ob ∨ b = g → w6.heap[b]? = wo.heap[b]?) := fun b hb => (hg6.block b (by have := HAL.out b hb; simp; omega) (fun e => hoown.out b hb e.symm)).trans (Below.heap_alloc wo.drew _ b (HAL.out b hb)); obtain ⟨⟨t0, tf⟩, t1, t2, t3, t4⟩ := HSY.out w6 hk6.out)
          all_goals
            have hro7 := blk2_1 ((hk6.out ob (Or.inr (Or.inl rfl))).trans HOB.out) (.slice A6 (ol.length + 1) c6)
            have hrx7 := (heap_setCell_other w6 ⟨ob, 1, none⟩ xb (.slice A6 (ol.length + 1) c6) (by show xb ≠ ob; omega)).trans ((hk6.out xb (Or.inl rfl)).trans HXB.out)
            have hg6' : (wo.drew.alloc (.cells #[.int .i64 num1, .int .i64 tm1, .slice Dx sv.length dx] 158)).grownBy w6 (Value.slice A5 ol.length c5).ownBlock := hg6
            have hat6' : (Value.slice A6 (ol.length + 1) c6).ownBlock = (Value.slice A5 ol.length c5).ownBlock ∨ (Value.slice A6 (ol.length + 1) c6).ownBlock = some (wo.drew.alloc (.cells #[.int .i64 num1, .int .i64 tm1, .slice Dx sv.length dx] 158)).heap.size := hat6
            have hmq : mid ≤ wo.heap.size := by omega
            have hz6 := hg6.size
            have hzq : wo.heap.size ≤ w6.heap.size := by have h := hz6; simp at h; omega
            have hla : (ol ++ [(num1, tm1, sv)]).length = ol.length + 1 := by simp
            have hO7 : OwnX (fun b => b = xb ∨ b = ob ∨ b = g) encSnp (w6.setCell ⟨ob, 1, none⟩ (.slice A6 (ol.length + 1) c6)) mid 158 (.slice A6 (ol.length + 1) c6) (ol ++ [(num1, tm1, sv)]) := (hO4.out.app hown6 hg6 hat6 (fun b hb => by have := HAL.out b hb; simp; omega)).set (p := ⟨ob, 1, none⟩) (Or.inr (Or.inl rfl)) _
            have hXa := (HX.out.below (Below.refl wo.heap.size wo).drew).alloc (.cells #[.int .i64 num1, .int .i64 tm1, .slice Dx sv.length dx] 158)
            have hXb := hXa.var (X' := fun b => (b = xb ∨ b = ob ∨ (Value.slice A5 ol.length c5).ownBlock = some b) ∨ (Value.slice A6 (ol.length + 1) c6).ownBlock = some b) (fun b hb => hb.elim Or.inl (fun h => hat6'.elim (fun e => Or.inl (Or.inr (Or.inr (e.symm.trans h)))) (fun e => Or.inr (by rw [e] at h; injection h with h; exact Nat.le_of_eq h))))
            have hXc := (hXb.keep hz6 (fun b _ h2 h3 => hg6'.block b h2 (fun e => h3 (Or.inl (Or.inr (Or.inr e.symm)))))).var (X' := fun b => b = xb ∨ b = ob ∨ (Value.slice A6 (ol.length + 1) c6).ownBlock = some b) (fun b hb => hb.elim (fun h => Or.inl (Or.inl (Or.inl h))) (fun h => h.elim (fun h => Or.inl (Or.inl (Or.inr (Or.inl h)))) (fun h => Or.inl (Or.inr h))))
            have hX7 := hXc.set (p := ⟨ob, 1, none⟩) (Or.inr (Or.inl rfl)) (.slice A6 (ol.length + 1) c6)
            have hlo := hO4.out.lt
            have hB7 : Below mid w2 (w6.setCell ⟨ob, 1, none⟩ (.slice A6 (ol.length + 1) c6)) := (((HBQ.drew).alloc (show mid ≤ wo.drew.heap.size from hmq) (.cells #[.int .i64 num1, .int .i64 tm1, .slice Dx sv.length dx] 158)).grown hg6 (by simp; omega) (fun b h => (hlo b h).1)).setCell (p := ⟨ob, 1, none⟩) (by show mid ≤ ob; omega) _
            have hs7 : ob < (w6.setCell ⟨ob, 1, none⟩ (.slice A6 (ol.length + 1) c6)).heap.size := by simp [World.setCell]; omega
            have hdn := del_next (l := l') (a := a) (k := k) (by rw [hll.out]; exact hlt) hka
            have hxx : l'[k]'(by rw [hll.out]; exact hlt) = (num1, tm1, sv) := by
              have h := hxl'.out
              rw [List.getElem?_eq_getElem (by rw [hll.out]; exact hlt)] at h
              exact Option.some.inj h
            rw [hxx] at hdn
            have HZ := Lib.hid (And.intro hro7 (And.intro hrx7 (And.intro hO7 hX7)))
            have HDN := Lib.hid hdn
            have HLA := Lib.hid hla
            clear hro7 hrx7 hO7 hXa hXb hXc hX7 hlo hdn hxx hown6 hg6 hat6 hg6' hat6' hk6 hO4 hO4o HRD s0 sf s1 s2 s3 s4 v0 vf v1 v2 v3 v4 u0 uf u1 u2 u3 u4 t0 tf t1 t2 t3 t4 hz6 hzq hla
            generalize w6.setCell ⟨ob, 1, none⟩ (.slice A6 (ol.length + 1) c6) = w7 at HZ hB7 hs7 ⊢
            go_wp2
            go_roundw
            case rel => exact ⟨k + 1, A6, c6, xl, ol ++ [(num1, tm1, sv)], hlt, by go_num, hB7, hs7, hxl1.out, by rw [Hid, HDN.out, ← hol.out], HZ.out.2.1, by rw [Hid, HLA.out]; exact HZ.out.1, by rw [Hid, HLA.out]; exact HZ.out.2.2.2, by rw [Hid, HLA.out]; exact HZ.out.2.2.1⟩
            case measure => simp [intOf]; omega
    · have hkk : k = l.length := by omega
      subst hkk
      have hfin : Hid (ol = delL l a) := by rw [hdel.out, hol.out, Hid, ← hll.out, List.take_length]
      obtain ⟨o0, o1, _⟩ := blk2 hro.out
      have hbw : Below n0 w wo := (hbw1.trans (hb2.mono (by omega))).trans (hB.mono (by omega))
      have hb0o : Below W0.heap.size W0 wo := hb02.trans (hB.mono (by omega))
      have hrz6 := HRZ.out wo hb0o
      obtain ⟨q0, q1, qf⟩ := blk2 hrz6
      have hI : Hid (SlAt (encSl encSec) wo (Nw w1.heap.size mid) B im) := HIM.out.blk (fun b hb => hB.block b hb.2)
      have hoz : mid ≤ wo.heap.size := by omega
      go_wp2_with fail
      have hz := blk2_set hrz6 (.slice B im.length vc) (.slice A5 ol.length c5)
      have hbe := ((hbw.setCell (p := ⟨n0 + 1, 0, none⟩) (by show n0 ≤ n0 + 1; omega) (.slice B im.length vc)).setCell (p := ⟨n0 + 1, 1, none⟩) (by show n0 ≤ n0 + 1; omega) (.slice A5 ol.length c5))
      have hse := (((show SnRet im ol B vc A5 c5 mid w1.heap.size wo from ⟨hvc.out.1, hvc.out.2, hmid, hoz, hI.out, HO0.out.noX rfl⟩).set (p := ⟨n0 + 1, 0, none⟩) (by show n0 + 1 < w1.heap.size; omega) (.slice B im.length vc)).set (p := ⟨n0 + 1, 1, none⟩) (by show n0 + 1 < w1.heap.size; omega) (.slice A5 ol.length c5))
      change bodyPost _ _ _ _ _ ((wo.setCell ⟨(n0 + 1), 0, none⟩ (.slice B im.length vc)).setCell ⟨(n0 + 1), 1, none⟩ (.slice A5 ol.length c5))
      generalize (wo.setCell ⟨(n0 + 1), 0, none⟩ (.slice B im.length vc)).setCell ⟨(n0 + 1), 1, none⟩ (.slice A5 ol.length c5) = W3 at hz hbe hse ⊢
      obtain ⟨z0, z1, _⟩ := blk2 hz
      refine bodyPost_ret (v := .tuple #[.agg #[(.slice B im.length vc), (.slice A5 ol.length c5)], .int .i64 0]) ?_ rfl ?_
      · simp [results, Tryz.results78, Tryz.f78, go_sem, z0, z1]
      rw [hE.out, hS.out, ← hfin.out]
      exact ⟨B, vc, A5, c5, mid, rfl, hse.low (by omega), by rw [hn0]; exact hbe⟩
end Go.Proofs.YtgndgkjefgjamaaGreat
namespace Go.Proofs.YtgndgkjefgjamaaGreat
open Go.RowKit Go.Shelf
attribute [local go_sem] Oper.semAt_some

set_option maxHeartbeats 4000000 in
set_option maxRecDepth 100000 in
theorem rcDrop_any (S0 : Nat → Prop) (A A2 A3 : Option Addr) (c c2 c3 n m p : Nat) (im : Img) (l : List Snp) (cl : List Cln) (num : Int) (w : World) (hn : im.length = n) (hm : l.length = m) (hp : cl.length = p) (hc3 : p ≤ c3 ∧ c3 ≤ maxLen) (h1 : SlAt (encSl encSec) w (Bl w.heap.size) A im) (h2 : SlAt encSnp w (Bl w.heap.size) A2 l) (h3 : SlAt encCln w (fun q => S0 q ∧ q < w.heap.size) A3 cl) (hL : ClLim (im, l) cl) (hsv : ∀ x ∈ l, x.2.2.length ≤ 50000) :
    Calls Tryz.prog 27 #[.agg #[.slice A n c, .slice A2 m c2, .slice A3 p c3], .int .i64 num] w (RdCl (fun q => S0 q ∨ w.heap.size ≤ q) (dropS ((im, l), cl) num) (dropE ((im, l), cl) num) w) := by
  subst hn hm hp
  have h3' := h3
  replace h3 : SlAt encCln w (Bl w.heap.size) A3 cl := h3'.more (fun g hg => hg.2)
  obtain ⟨n0, hn0⟩ : ∃ n0, w.heap.size = n0 := ⟨_, rfl⟩
  obtain ⟨W0, hW0⟩ : ∃ W0, (w.alloc (.cells #[.slice A im.length c, .slice A2 l.length c2, .slice A3 cl.length c3] 29)).alloc (.cells #[.slice none 0 0, .slice none 0 0, .slice none 0 0] 29) = W0 := ⟨_, rfl⟩
  have hB0 : Below n0 w W0 := by rw [← hW0, ← hn0]; repeat (first | exact Below.refl _ _ | refine ext_alloc ?_)
  have hr0 : W0.heap[n0]? = some (.cells #[.slice A im.length c, .slice A2 l.length c2, .slice A3 cl.length c3] 29 (0, 0)) := by rw [← hW0, ← hn0]; exact (Below.heap_alloc _ _ _ (by simp)).trans (heap_alloc_new _ _)
  have hr1 : W0.heap[n0 + 1]? = some (.cells #[.slice none 0 0, .slice none 0 0, .slice none 0 0] 29 (0, 0)) := by rw [← hW0, ← hn0]; exact heap_new2 _ _ _
  obtain ⟨n2, hn2⟩ : ∃ n2, W0.heap.size = n2 := ⟨_, rfl⟩
  have hn02 : n0 + 1 < n2 := by rw [← hn2]; exact (Array.getElem?_eq_some_iff.1 hr1).1
  have up : ∀ {α : Type} {E : Enc α} {A : Option Addr} {l : List α}, SlAt E w (Bl w.heap.size) A l → ∀ W, Below n2 W0 W → SlAt E W (Bl W.heap.size) A l := fun h W hb => by
    rw [hn0] at h
    exact (h.blk (fun g hg => (hb.block g (by have : g < n0 := hg; omega)).trans (hB0.block g hg))).more (fun g hg => by have : g < n0 := hg; have := hb.size; show g < W.heap.size; omega)
  have H1 := Lib.hid (up h1)
  have H2 := Lib.hid (up h2)
  have H3 := Lib.hid (up h3)
  have HC : Hid (∀ W, Below n2 W0 W → W.cell? ⟨n0, 0, none⟩ = some (.slice A im.length c) ∧ W.cell? ⟨n0, 1, none⟩ = some (.slice A2 l.length c2) ∧ W.cell? ⟨n0, 2, none⟩ = some (.slice A3 cl.length c3)) := fun W hb => by
    obtain ⟨a, b, d, _⟩ := blk3 ((hb.block _ (by omega)).trans hr0)
    exact ⟨a, b, d⟩
  have HRR : Hid (∀ W, Below n2 W0 W → W.heap[n0 + 1]? = some (.cells #[.slice none 0 0, .slice none 0 0, .slice none 0 0] 29 (0, 0))) := fun W hb => (hb.block _ (by omega)).trans hr1
  have HROW0 : Hid (∀ W, Below n2 W0 W → W.heap[n0]? = some (.cells #[.slice A im.length c, .slice A2 l.length c2, .slice A3 cl.length c3] 29 (0, 0))) := fun W hb => (hb.block _ (by omega)).trans hr0
  have HBW : Hid (∀ W, Below n2 W0 W → Below w.heap.size w W) := fun W hb => by rw [hn0]; exact hB0.trans (hb.mono (by omega))
  have HN0 := Lib.hid hn0
  have HN2 := Lib.hid hn2
  have hN0 : n0 ≤ w.heap.size ∧ w.heap.size ≤ n0 := by omega
  have hl1 := hL.sn.ims
  have hl2 := hL.sn.its
  have hl3 := hL.its
  have HLM := Lib.hid hL
  simp only at hl1 hl2
  obtain ⟨s0, hs0⟩ : ∃ s0, clE ((im, l), cl) = s0 := ⟨_, rfl⟩
  have HCK := Lib.hid (fun W (hb : Below n2 W0 W) => clCheck_any A A2 A3 c c2 c3 im.length l.length cl.length im l cl s0 W rfl rfl rfl hs0 (H1.out W hb) (H2.out W hb) (H3.out W hb) hl1 (by omega) (by omega))
  have HOW := Lib.hid (fun W (hb : Below n2 W0 W) => own37_any A A2 A3 c c2 c3 im.length l.length cl.length im l cl W rfl rfl rfl (H1.out W hb) (H2.out W hb) (H3.out W hb) HLM.out)
  have HS0 := Lib.hid hs0
  have hB00 := Below.refl n2 W0
  obtain ⟨p0, p1, p2⟩ := HC.out W0 hB00
  clear h1 h2 h3 up hB0 hL hr0 hr1 hs0
  clear HCK HOW
  have HA3 : Hid (∀ W, Below n2 W0 W → SlAt encCln W (fun q => ((S0 q ∨ w.heap.size ≤ q) ∧ q ≠ n0 + 1) ∧ q < W.heap.size) A3 cl) := fun W hb => (h3'.blk (fun g hg => (HBW.out W hb).block g hg.2)).more (fun g hg => by have := hg.2; have := (HBW.out W hb).size; exact ⟨⟨Or.inl hg.1, by omega⟩, by omega⟩)
  have HCE : Hid (dropE ((im, l), cl) num = if s0 ≠ 0 then s0 else if cl.any (isC num) = true then 26 else findE (im, l) num) := by rw [Hid, dropE, HS0.out]
  have HCK0 := Lib.hid (rcCheck_any A A2 A3 c c2 c3 im.length l.length cl.length im l cl s0 W0 hc3.1 rfl rfl rfl HS0.out (H1.out W0 hB00) (H2.out W0 hB00) (H3.out W0 hB00) hl1 (by omega) (by omega))
  go_enter Tryz.func27, Tryz.ntmps27
  go_wp2_with fail
  refine HCK0.out.mono ?_
  rintro e w1 ⟨rfl, hb1⟩
  rw [HN2.out] at hb1
  clear p0 p1 p2 HCK0 hn2 hn0 hW0
  by_cases hx0 : s0 = 0
  case neg =>
    have hx0' : (s0 != 0) = true := by simp [hx0]
    have HE : Hid (dropE ((im, l), cl) num = s0) := by rw [Hid, HCE.out, if_pos hx0]
    have HT : Hid (dropS ((im, l), cl) num = zCls) := by rw [Hid, dropS, if_neg (by rw [HE.out]; exact hx0)]
    clear hx0
    have hr1 := HRR.out w1 hb1
    obtain ⟨v0, v1, v2, vf⟩ := blk3 hr1
    go_wp2_with fail
    have hend := rd_end (w := w) (x := zCls) (A := none) (c := 0) (D := none) (d := 0) (G := none) (g := 0) hr1 (by omega) (HBW.out w1 hb1) (ClAt.zero (S := fun q => (S0 q ∨ w.heap.size ≤ q) ∧ q < w1.heap.size ∧ q ≠ n0 + 1)) s0
    obtain ⟨hz, hret⟩ := hend
    change bodyPost _ _ _ _ _ (sw3 w1 (n0 + 1) (.slice none (zCls).1.1.length 0) (.slice none (zCls).1.2.length 0) (.slice none (zCls).2.length 0))
    generalize sw3 w1 (n0 + 1) (.slice none (zCls).1.1.length 0) (.slice none (zCls).1.2.length 0) (.slice none (zCls).2.length 0) = W3 at hz hret ⊢
    obtain ⟨z0, z1, z2, _⟩ := blk3 hz
    refine bodyPost_ret (v := .tuple #[.agg #[.slice none (zCls).1.1.length 0, .slice none (zCls).1.2.length 0, .slice none (zCls).2.length 0], .int .i64 s0]) ?_ rfl ?_
    · simp [results, Tryz.results27, Tryz.f27, go_sem, z0, z1, z2, zCls, zSns]
    rw [HT.out, HE.out]; exact hret
  have hx0' : (s0 != 0) = false := by simp [hx0]
  have HE : Hid (dropE ((im, l), cl) num = if cl.any (isC num) = true then 26 else findE (im, l) num) := by rw [Hid, HCE.out, if_neg (by simp [hx0])]
  subst hx0
  obtain ⟨p0, p1, p2⟩ := HC.out w1 hb1
  go_wp2_with fail
  clear p0 p1 p2
  go_loopw [7] (fun i wr => ∃ k : Nat, k ≤ cl.length ∧ i = .int .i64 k ∧ Below n2 W0 wr ∧ Hid (∀ y ∈ cl.take k, isC num y = false)) (fun i _ => cl.length - (intOf i).toNat)
  case atStart => exact ⟨0, by omega, rfl, hb1, by simp [Hid]⟩
  case round =>
    obtain ⟨wo, rfl⟩ : ∃ wo : World, wo = wr := ⟨_, rfl⟩
    obtain ⟨k, hk, rfl, hB, hz⟩ := hrel
    obtain ⟨p0, p1, p2⟩ := HC.out wo hB
    by_cases hlt : k < cl.length
    · obtain ⟨b, off, D, dc, rfl, hb, g0, g1, g2, hD, hd1, hd2, hi1, hi2⟩ := (H3.out wo hB).cln hlt
      have hnn : (0 : Int) ≤ k := by omega
      have hki : (k : Int) < cl.length := by omega
      obtain ⟨q, hq⟩ : ∃ q, Hid (isC num (cl[k]'hlt) = q) := ⟨_, Lib.hid rfl⟩
      have hqq : ((cl[k]'hlt).2.1 == num) = q := hq.out
      obtain ⟨xv, hxv⟩ : ∃ x, cl[k]'hlt = x := ⟨_, rfl⟩
      have HXQ : Hid (isC num (cl[k]'hlt) = q) := hq.out
      rw [hxv] at g0 g1 g2 hD hd1 hi1 hi2 hqq
      clear hxv hq hD hd1 hd2
      cases q with
      | true =>
        have HANY : Hid (cl.any (isC num) = true) := List.any_eq_true.2 ⟨_, List.getElem_mem hlt, HXQ.out⟩
        have HE6 : Hid (dropE ((im, l), cl) num = 26) := by rw [Hid, HE.out, if_pos HANY.out]
        have HT6 : Hid (dropS ((im, l), cl) num = zCls) := by rw [Hid, dropS, if_neg (by rw [HE6.out]; decide)]
        have hr1 := HRR.out wo hB
        obtain ⟨v0, v1, v2, vf⟩ := blk3 hr1
        go_wp2_with fail
        have hend := rd_end (w := w) (x := zCls) (A := none) (c := 0) (D := none) (d := 0) (G := none) (g := 0) hr1 (by omega) (HBW.out wo hB) (ClAt.zero (S := fun q => (S0 q ∨ w.heap.size ≤ q) ∧ q < wo.heap.size ∧ q ≠ n0 + 1)) 26
        obtain ⟨hz, hret⟩ := hend
        change bodyPost _ _ _ _ _ (sw3 wo (n0 + 1) (.slice none (zCls).1.1.length 0) (.slice none (zCls).1.2.length 0) (.slice none (zCls).2.length 0))
        generalize sw3 wo (n0 + 1) (.slice none (zCls).1.1.length 0) (.slice none (zCls).1.2.length 0) (.slice none (zCls).2.length 0) = W3 at hz hret ⊢
        obtain ⟨z0, z1, z2, _⟩ := blk3 hz
        refine bodyPost_ret (v := .tuple #[.agg #[.slice none (zCls).1.1.length 0, .slice none (zCls).1.2.length 0, .slice none (zCls).2.length 0], .int .i64 26]) ?_ rfl ?_
        · simp [results, Tryz.results27, Tryz.f27, go_sem, z0, z1, z2, zCls, zSns]
        rw [HT6.out, HE6.out]; exact hret
      | false =>
        go_wp2_with fail
        go_roundw
        case rel =>
          refine ⟨k + 1, hlt, by go_num, hB, ?_⟩
          intro y hy
          rw [List.take_succ_eq_append_getElem hlt] at hy
          rcases List.mem_append.1 hy with hy | hy
          · exact hz.out y hy
          · rw [List.mem_singleton.1 hy]; exact HXQ.out
        case measure => simp [intOf]; omega
    · have hkk : k = cl.length := by omega
      have HANY : Hid (cl.any (isC num) = false) := by
        rw [Hid, List.any_eq_false]
        intro y hy
        have h := hz.out y (by rw [hkk, List.take_length]; exact hy)
        rw [h]; decide
      have HE6 : Hid (dropE ((im, l), cl) num = findE (im, l) num) := by rw [Hid, HE.out, if_neg (by rw [HANY.out]; decide)]
      clear HE
      have HE := HE6
      obtain ⟨w1, rfl⟩ : ∃ w1, w1 = wo := ⟨_, rfl⟩
      subst hkk
      clear hb1
      have hb1 := hB
      clear p0 p1 p2 hz
      obtain ⟨t, ht⟩ : ∃ t, sDelete (im, l) num = t := ⟨_, rfl⟩
      obtain ⟨en, hen⟩ : ∃ en, findE (im, l) num = en := ⟨_, rfl⟩
      have HT : Hid ((if en = 0 then (t, cl) else zCls) = dropS ((im, l), cl) num) := by rw [Hid, dropS, HE.out, hen, ht]
      have HAP := Lib.hid (refSnDelete_any A A2 c c2 im.length l.length im l num w1 rfl rfl (H1.out w1 hb1) (H2.out w1 hb1) HLM.out.sn hsv)
      rw [ht, hen] at HAP
      obtain ⟨p0, p1, p2⟩ := HC.out w1 hb1
      go_upto_region 9 with (fail)
      go_wp2_with fail
      refine HAP.out.mono ?_
      intro e w2 he
      obtain ⟨B, vc, D, dc, rfl, ⟨g1, g2, g3⟩, ⟨g4, g5, g6⟩, hb2⟩ := he.rd
      have hz1 := hb1.size
      have hbb2 : Below n2 W0 w2 := hb1.trans (hb2.mono (by have := HN2.out; omega))
      obtain ⟨ob, hob⟩ : ∃ ob, w2.heap.size = ob := ⟨_, rfl⟩
      obtain ⟨w3, hw3⟩ : ∃ w3, w2.alloc (.cells #[.slice B t.1.length vc, .slice D t.2.length dc] 26) = w3 := ⟨_, rfl⟩
      have HW3 := Lib.hid hw3
      have hb3 : Below w2.heap.size w2 w3 := by rw [← hw3]; exact ext_alloc (Below.refl _ _)
      have hr3 : w3.heap[ob]? = some (.cells #[.slice B t.1.length vc, .slice D t.2.length dc] 26 (0, 0)) := by rw [← hw3, ← hob]; exact heap_alloc_new _ _
      have hbb3 : Below n2 W0 w3 := hbb2.trans (hb3.mono (by have := hbb2.size; have := HN2.out; omega))
      have HCH := Lib.hid (rcChanged_any (fun q => (S0 q ∨ w.heap.size ≤ q) ∧ q ≠ n0 + 1) A A2 A3 B D c c2 c3 im.length l.length cl.length vc dc t cl en w3 rfl ⟨g1, g2⟩ ⟨g4, g5⟩ hc3 ((g3.blk (fun g hg => hb3.block g hg.2)).more (fun g hg => ⟨⟨Or.inr (by have := hg.1; have := HN2.out; have := hb1.size; omega), by have := hg.1; have := HN2.out; have := hb1.size; omega⟩, by have := hg.2; have := hb3.size; omega⟩)) ((g6.blk (fun g hg => hb3.block g hg.2)).more (fun g hg => ⟨⟨Or.inr (by have := hg.1; have := HN2.out; have := hb1.size; omega), by have := hg.1; have := HN2.out; have := hb1.size; omega⟩, by have := hg.2; have := hb3.size; omega⟩)) (HA3.out w3 hbb3))
      obtain ⟨x, hx⟩ : ∃ x : Cls, (if en = 0 then (t, cl) else zCls) = x := ⟨_, rfl⟩
      rw [hx] at HCH HT
      clear p0 p1 p2 he g3 g6 HAP hw3 hx
      go_upto_region 10 with (fail)
      rw [HW3.out]
      clear HW3
      obtain ⟨p0, p1, p2⟩ := HC.out w3 hbb3
      obtain ⟨q0, q1, _⟩ := blk2 hr3
      go_wp2_with fail
      refine HCH.out.mono ?_
      rintro e w4 ⟨A', c', D', d', G', g', rfl, hat, hb4⟩
      have hbb4 : Below n2 W0 w4 := hbb3.trans (hb4.mono (by have := hbb3.size; have := HN2.out; omega))
      have hr4 := HRR.out w4 hbb4
      have HCL : Hid (ClAt x A' c' D' d' G' g' (fun q => (S0 q ∨ w.heap.size ≤ q) ∧ q < w4.heap.size ∧ q ≠ n0 + 1) w4) := hat.keep (fun _ _ => rfl) (fun q hq => ⟨hq.1.1, hq.2, hq.1.2⟩)
      clear p0 p1 p2 q0 q1 HCH
      obtain ⟨v0, v1, v2, vf⟩ := blk3 hr4
      go_wp2_with fail
      have hend := rd_end (w := w) (x := x) (A := A') (c := c') (D := D') (d := d') (G := G') (g := g') hr4 (by omega) (HBW.out w4 hbb4) HCL.out en
      obtain ⟨hz, hret⟩ := hend
      change bodyPost _ _ _ _ _ (sw3 w4 (n0 + 1) (.slice A' (x).1.1.length c') (.slice D' (x).1.2.length d') (.slice G' (x).2.length g'))
      generalize sw3 w4 (n0 + 1) (.slice A' (x).1.1.length c') (.slice D' (x).1.2.length d') (.slice G' (x).2.length g') = W3 at hz hret ⊢
      obtain ⟨z0, z1, z2, _⟩ := blk3 hz
      refine bodyPost_ret (v := .tuple #[.agg #[.slice A' (x).1.1.length c', .slice D' (x).1.2.length d', .slice G' (x).2.length g'], .int .i64 en]) ?_ rfl ?_
      · simp [results, Tryz.results27, Tryz.f27, go_sem, z0, z1, z2, zCls, zSns]
      rw [HE.out, hen, ← HT.out]; exact hret
end Go.Proofs.YtgndgkjefgjamaaGreat
namespace Go.Proofs.YtgndgkjefgjamaaGreat
open Go.RowKit Go.Shelf
attribute [local go_sem] Oper.semAt_some

set_option maxHeartbeats 4000000 in
set_option maxRecDepth 100000 in
theorem rcChangedR_any (A A2 A3 : Option Addr) (c c2 c3 n m p : Nat) (im : Img) (l : List Snp) (cl : List Cln) (nm : ByteArray) (w : World) (hn : im.length = n) (hm : l.length = m) (hp : cl.length = p) (hc3 : p ≤ c3) (h1 : SlAt (encSl encSec) w (Bl w.heap.size) A im) (h2 : SlAt encSnp w (Bl w.heap.size) A2 l) (h3 : SlAt encCln w (Bl w.heap.size) A3 cl) (hL : ClLim (im, l) cl) (r : List (List Ext)) (hr : chgS ((im, l), cl) nm = r) (en : Int) (he : cfE ((im, l), cl) nm = en) :
    Calls Tryz.prog 29 #[.agg #[.slice A n c, .slice A2 m c2, .slice A3 p c3], .string nm] w (RetSlN (encSl encExt) r en w) := by
  subst hn hm hp
  have HER : Hid (∀ (q : Int) (w' : World), cfE ((im, l), cl) nm = q → q ≠ 0 → Below w.heap.size w w' → RetSlN (encSl encExt) r en w (Ending.returned (.tuple #[.slice none 0 0, .int .i64 q])) w') := fun q w' h1 h2 h3 => by
    have e1 : r = [] := by rw [← hr, chgS, if_neg (by rw [h1]; exact h2)]
    rw [e1, ← he, h1]
    exact ⟨none, 0, rfl, by simp, by simp, SlAt.nil_, h3⟩
  have HR := Lib.hid hr; have HEN := Lib.hid he
  clear hr he
  obtain ⟨n0, hn0⟩ : ∃ n0, w.heap.size = n0 := ⟨_, rfl⟩
  obtain ⟨W0, hW0⟩ : ∃ W0, w.alloc (.cells #[.slice A im.length c, .slice A2 l.length c2, .slice A3 cl.length c3] 29) = W0 := ⟨_, rfl⟩
  have hB0 : Below n0 w W0 := by rw [← hW0, ← hn0]; exact ext_alloc (Below.refl _ _)
  have hr0 : W0.heap[n0]? = some (.cells #[.slice A im.length c, .slice A2 l.length c2, .slice A3 cl.length c3] 29 (0, 0)) := by rw [← hW0, ← hn0]; exact heap_alloc_new _ _
  obtain ⟨n2, hn2⟩ : ∃ n2, W0.heap.size = n2 := ⟨_, rfl⟩
  have hn02 : n0 < n2 := by rw [← hn2]; exact (Array.getElem?_eq_some_iff.1 hr0).1
  have up : ∀ {α : Type} {E : Enc α} {A : Option Addr} {l : List α}, SlAt E w (Bl w.heap.size) A l → ∀ W, Below n2 W0 W → SlAt E W (Bl W.heap.size) A l := fun h W hb => by
    rw [hn0] at h
    exact (h.blk (fun g hg => (hb.block g (by have : g < n0 := hg; omega)).trans (hB0.block g hg))).more (fun g hg => by have : g < n0 := hg; have := hb.size; show g < W.heap.size; omega)
  have H1 := Lib.hid (up h1)
  have H2 := Lib.hid (up h2)
  have H3 := Lib.hid (up h3)
  have HROW0 : Hid (∀ W, Below n2 W0 W → W.heap[n0]? = some (.cells #[.slice A im.length c, .slice A2 l.length c2, .slice A3 cl.length c3] 29 (0, 0))) := fun W hb => (hb.block _ (by omega)).trans hr0
  have HC : Hid (∀ W, Below n2 W0 W → W.cell? ⟨n0, 0, none⟩ = some (.slice A im.length c) ∧ W.cell? ⟨n0, 1, none⟩ = some (.slice A2 l.length c2) ∧ W.cell? ⟨n0, 2, none⟩ = some (.slice A3 cl.length c3)) := fun W hb => by
    obtain ⟨a, b, d, _⟩ := blk3 ((hb.block _ (by omega)).trans hr0)
    exact ⟨a, b, d⟩
  have HBW : Hid (∀ W, Below n2 W0 W → Below w.heap.size w W) := fun W hb => by rw [hn0]; exact hB0.trans (hb.mono (by omega))
  have HN0 := Lib.hid hn0
  have HN2 := Lib.hid hn2
  have hN0 : n0 ≤ w.heap.size ∧ w.heap.size ≤ n0 := by omega
  have hl1 := hL.sn.ims
  have hl2 := hL.sn.its
  have hl3 := hL.its
  have HLM := Lib.hid hL
  simp only at hl1 hl2
  obtain ⟨s0, hs0⟩ : ∃ s0, clE ((im, l), cl) = s0 := ⟨_, rfl⟩
  have HS0 := Lib.hid hs0
  have hB00 := Below.refl n2 W0
  obtain ⟨p0, p1, p2⟩ := HC.out W0 hB00
  clear h1 h2 h3 up hB0 hL hr0 hs0
  have HCK0 := Lib.hid (rcCheck_any A A2 A3 c c2 c3 im.length l.length cl.length im l cl s0 W0 hc3 rfl rfl rfl HS0.out (H1.out W0 hB00) (H2.out W0 hB00) (H3.out W0 hB00) hl1 (by omega) (by omega))
  go_enter Tryz.func29, Tryz.ntmps29
  go_wp2_with fail
  refine HCK0.out.mono ?_
  rintro e w1 ⟨rfl, hb1⟩
  rw [HN2.out] at hb1
  clear p0 p1 p2 HCK0 hn2 hn0 hW0
  by_cases hx0 : s0 = 0
  case neg =>
    have hx0' : (s0 != 0) = true := by simp [hx0]
    have HF := Lib.hid (HER.out s0 w1 (by rw [cfE, HS0.out, if_pos hx0]) hx0 (HBW.out w1 hb1))
    clear hx0
    go_wp2_with fail
    go_ret2
    exact HF.out
  have hx0' : (s0 != 0) = false := by simp [hx0]
  obtain ⟨iv, hiv⟩ : ∃ iv, idxAt (isN nm) cl = iv := ⟨_, rfl⟩
  have HFD := Lib.hid (rcFind_any A3 c3 cl.length cl nm w1 rfl (H3.out w1 hb1) (by omega) iv hiv)
  have hcf := cf_cases (nm := nm) (show clE ((im, l), cl) = 0 by rw [HS0.out, hx0])
  have HCKE : Hid (clE ((im, l), cl) = 0) := by rw [Hid, HS0.out, hx0]
  simp only at hcf
  rw [hiv] at hcf
  subst hx0
  clear hiv
  obtain ⟨p0, p1, p2⟩ := HC.out w1 hb1
  go_wp2_with fail
  refine HFD.out.mono ?_
  rintro e w2 ⟨rfl, hb2⟩
  have hz1 := hb1.size
  have hbb2 : Below n2 W0 w2 := hb1.trans (hb2.mono (by have := HN2.out; omega))
  clear HFD p0 p1 p2 hb2
  rcases hcf with ⟨hiv, hce⟩ | ⟨k, hkl, hiv, hce, hcn, hca, hcm⟩
  · have HF := Lib.hid (HER.out 7 w2 hce (by decide) (HBW.out w2 hbb2))
    clear hce
    subst hiv
    go_wp2_with fail
    go_ret2
    exact HF.out
  subst hiv
  have hk0 : (0 : Int) ≤ k := by omega
  have hkn : ¬ (k : Int) < 0 := by omega
  have hkc : (k : Int) < cl.length := by omega
  have HCE := Lib.hid hce
  have HCN := Lib.hid hcn
  have HCA := Lib.hid hca
  have HCM := Lib.hid hcm
  clear hce hcn hca hcm
  have hb1 := hbb2
  clear hbb2
  obtain ⟨xv, hxv⟩ : ∃ x, cl[k]'hkl = x := ⟨_, rfl⟩
  have HXM : Hid (xv ∈ cl) := by rw [Hid, ← hxv]; exact List.getElem_mem hkl
  have HXA : Hid (cAt ((im, l), cl) nm = xv) := by rw [Hid, HCA.out]; exact hxv
  obtain ⟨b3, off3, Dx, dx, he3, hb3, g0, g1, g2, gD, gd1, gd2, gi1, gi2⟩ := (H3.out w2 hb1).cln hkl
  subst he3
  rw [hxv] at g0 g1 g2 gD gd1 gi1 gi2
  obtain ⟨xn, xnum, xs⟩ := xv
  simp only at g0 g1 g2 gD gd1 gi1 gi2
  have hb3' : b3 < w2.heap.size := hb3
  have HXC : Hid (∀ W, Below w2.heap.size w2 W → W.cell? ⟨b3, off3 + k * 3, none⟩ = some (.string xn) ∧ W.cell? ⟨b3, off3 + k * 3 + 1, none⟩ = some (.int .i64 xnum) ∧ W.cell? ⟨b3, off3 + k * 3 + 2, none⟩ = some (.slice Dx xs.length dx)) := fun W hb => ⟨(hb.cell (p := ⟨b3, off3 + k * 3, none⟩) hb3').trans g0, (hb.cell (p := ⟨b3, off3 + k * 3 + 1, none⟩) hb3').trans g1, (hb.cell (p := ⟨b3, off3 + k * 3 + 2, none⟩) hb3').trans g2⟩
  have HXS : Hid (∀ W, Below w2.heap.size w2 W → SlAt encWr W (Bl W.heap.size) Dx xs) := fun W hb => gD.fwd hb
  have HOC : Hid (∀ W, Below w2.heap.size w2 W → W.cell? ⟨n0, 0, none⟩ = some (.slice A im.length c) ∧ W.cell? ⟨n0, 1, none⟩ = some (.slice A2 l.length c2) ∧ W.cell? ⟨n0, 2, none⟩ = some (.slice (some ⟨b3, off3, none⟩) cl.length c3)) := fun W hb => HC.out W (hb1.trans (hb.mono (by have := hb1.size; have := HN2.out; omega)))
  have HBX : Hid (∀ W, Below w2.heap.size w2 W → Below n2 W0 W) := fun W hb => hb1.trans (hb.mono (by have := hb1.size; have := HN2.out; omega))
  clear g0 g1 g2 gD hb3
  have hrr : Hid (chgL xs im.length = r) := by rw [Hid, ← HR.out, chgS, if_pos HCE.out, HXA.out]; rfl
  have hen : Hid ((0 : Int) = en) := by rw [Hid, ← HEN.out]; exact HCE.out.symm
  have hxl : xs.length ≤ 100000 := (HLM.out.ovl _ HXM.out).1
  have HXT := Lib.hid (fun W (v : Nat) (hb : Below w2.heap.size w2 W) (hv : v ≤ 100000) => (refExtents_any Dx dx xs (v : Int) W (HXS.out W hb) (by omega) (by unfold I64; omega)).mono (fun _ _ h => h.sl))
  obtain ⟨q0, q1, q2⟩ := HOC.out w2 (Below.refl _ _)
  go_wp2_with fail
  clear q0 q1 q2
  go_loopw [8, 9] (fun a i wr => ∃ (j : Nat) (F : Option Addr) (fc : Nat) (out : List (List Ext)), j ≤ im.length ∧ i = .int .i64 j ∧ a = .slice F out.length fc ∧ Below w2.heap.size w2 wr ∧ w2.heap.size ≤ wr.heap.size ∧ Hid (out = chgL xs j) ∧ Hid (OwnX (fun _ => False) (encSl encExt) wr w2.heap.size 93 (.slice F out.length fc) out)) (fun _ i _ => im.length - (intOf i).toNat)
  case atStart => exact ⟨0, none, 0, [], by omega, rfl, rfl, Below.refl _ _, by omega, rfl, OwnX.nil_⟩
  case round =>
    obtain ⟨wo, rfl⟩ : ∃ wo : World, wo = wr := ⟨_, rfl⟩
    obtain ⟨j, F, fc, out, hj, rfl, rfl, hB, hszo, hout, hown⟩ := hrel
    by_cases hlt : j < im.length
    · have hki : (j : Int) < im.length := by omega
      have hnn : (0 : Int) ≤ j := by omega
      have hol : out.length ≤ j := by rw [hout.out, chgL_len]; exact Nat.le_refl _
      obtain ⟨q0, q1, q2⟩ := HXC.out wo hB
      obtain ⟨r0, r1, r2⟩ := HOC.out wo hB
      obtain ⟨row, hrow⟩ : ∃ x, runsL (secsOf xs (j : Int)) = x := ⟨_, rfl⟩
      have HT := HXT.out wo j hB (by omega)
      rw [hrow] at HT
      have HT2 := Lib.hid HT
      have HROW := Lib.hid hrow
      clear HT hrow
      go_wp2_with fail
      refine HT2.out.mono ?_
      rintro e w4 ⟨A4, c4, rfl, k1, k2, k3, h4⟩
      have hO4 := Lib.hid ((hown.out.below h4).alloc (.cells #[.slice A4 row.length c4] 93))
      have hO4o := Lib.hid hO4.out.1
      have hlt1 := Lib.hid hown.out.lt
      have hz4 := h4.size
      have HRD : Hid ((encSl encExt).rd (w4.alloc (.cells #[.slice A4 row.length c4] 93)) (fun g => Nw w2.heap.size (w4.alloc (.cells #[.slice A4 row.length c4] 93)).heap.size g ∧ ¬ False ∧ (Value.slice F out.length fc).ownBlock ≠ some g) [.slice A4 row.length c4] row) :=
        ⟨A4, c4, rfl, k1, k2, OwnX.since (X := fun _ => False) (B := wo.heap.size) ((k3.blk (fun g hg => Below.heap_alloc _ _ _ hg.2)).more (fun g hg => hg.mono (Nat.le_refl _) (by simp))) hszo (fun g hg => hg.elim) (fun g hg => (hlt1.out g hg).2)⟩
      clear q0 q1 q2 r0 r1 r2 k3 HT2
      go_wp2_with (at_builtin; refine Hid.out ?_)
      change wpList _ _ _ _ _ _
      refine wpList_app1 (E := encSl encExt) tyExs37 rfl _ _ rfl rfl hO4o.out row [.slice A4 row.length c4] rfl HRD.out (heap_alloc_new _ _) (fun _ h => h.1.2) (by simp; omega) (by unfold maxLen; omega) (by omega) ?_
      intro A5 c5 w5 hown5 hg5 hat5
      have hz5 := hg5.size
      rw [World.size_alloc] at hz5
      have hO5 : Hid (OwnX (fun _ => False) (encSl encExt) w5 w2.heap.size 93 (.slice A5 (out.length + 1) c5) (out ++ [row])) := hO4.out.app hown5 hg5 hat5 (fun g hg => hg.elim)
      have hB5 : Below w2.heap.size w2 w5 := hB.trans (((h4.mono hszo).alloc (by omega) (.cells #[.slice A4 row.length c4] 93)).grown hg5 (by simp; omega) (fun g h => (hlt1.out g h).1))
      clear hown5 hg5 hat5 hO4 hO4o HRD h4
      go_wp2
      go_roundw
      case rel => exact ⟨j + 1, A5, c5, out ++ [row], hlt, by go_num, by simp, hB5, by omega, by rw [Hid, chgL_succ, hout.out, HROW.out], by simpa [Hid] using hO5.out⟩
      case measure => simp [intOf]; omega
    · obtain ⟨r0, r1, r2⟩ := HOC.out wo hB
      have hkk : j = im.length := by omega
      subst hkk
      have hki : ¬ ((im.length : Int) < im.length) := by omega
      have he2 : out = r := by rw [hout.out]; exact hrr.out
      subst he2
      obtain ⟨_, b1, b2, b3⟩ := hown.out.parts
      have hbf := HBW.out wo (HBX.out wo hB)
      have hbz := (HBW.out w2 hb1).size
      have HB3 := Lib.hid (b3.more (S' := Nw w.heap.size wo.heap.size) (fun g hg => ⟨by have := hg.1.1; omega, hg.1.2⟩))
      clear b3 hout hown hrr
      go_wp2
      go_ret2
      rw [hen.out]
      exact ⟨F, fc, rfl, b1, b2, HB3.out, hbf⟩
end Go.Proofs.YtgndgkjefgjamaaGreat
namespace Go.Proofs.YtgndgkjefgjamaaGreat
open Go.RowKit Go.Shelf
attribute [local go_sem] Oper.semAt_some

section
variable {t t' : Nat} {x x' : Cls} {A D G A' D' G' : Option Addr} {c d g c' d' g' : Nat} {W W' : World} {n' : Int} {S : Nat → Prop}
theorem riChanged (h : ClI t x A c D d G g W) (hf : fewC x = true) {nm : ByteArray} {r : List (List Ext)} (hr : chgS x nm = r) (he : cfE x nm = n') :
    Calls Tryz.prog 29 #[.agg #[.slice A x.1.1.length c, .slice D x.1.2.length d, .slice G x.2.length g], .string nm] W (RetSlN (encSl encExt) r n' W) := by
  have h3 := h.at_.cl
  obtain ⟨⟨im, l⟩, cl⟩ := x
  exact rcChangedR_any A D G c d g _ _ _ im l cl nm W rfl rfl rfl h3.1 h.im h.sn h.cl (fewC_lim hf).1.1 r hr n' he
theorem riDelete (h : ClI t x A c D d G g W) (hf : fewC x = true) {nm : ByteArray} (ha : cDel x nm = x' ∧ cfE x nm = n') :
    Calls Tryz.prog 25 #[.agg #[.slice A x.1.1.length c, .slice D x.1.2.length d, .slice G x.2.length g], .string nm] W (RdCl (fun _ => True) x' n' W) := by
  have h1 := h.at_.im; have h2 := h.at_.sn; have h3 := h.at_.cl
  obtain ⟨⟨im, l⟩, cl⟩ := x
  obtain ⟨rfl, rfl⟩ := ha
  exact rcDelete_any A D G c d g _ _ _ im l cl nm W rfl rfl rfl ⟨h1.1, h1.2.1⟩ ⟨h2.1, h2.2.1⟩ ⟨h3.1, h3.2.1⟩ h.im h.sn h.cl (fewC_lim hf).1.1
theorem riDrop (h : ClI t x A c D d G g W) {S0 : Nat → Prop} (h0 : SlAt encCln W (fun q => S0 q ∧ q < W.heap.size) G x.2) (hf : fewC x = true) {num : Int} (ha : dropS x num = x' ∧ dropE x num = n') :
    Calls Tryz.prog 27 #[.agg #[.slice A x.1.1.length c, .slice D x.1.2.length d, .slice G x.2.length g], .int .i64 num] W (RdCl (fun q => S0 q ∨ W.heap.size ≤ q) x' n' W) := by
  have h3 := h.at_.cl
  obtain ⟨⟨im, l⟩, cl⟩ := x
  obtain ⟨rfl, rfl⟩ := ha
  have hl := fewC_lim hf
  exact rcDrop_any S0 A D G c d g _ _ _ im l cl num W rfl rfl rfl ⟨h3.1, h3.2.1⟩ h.im h.sn h0 hl.1.1 (fun y hy => by have := hl.2.2.1 y hy; omega)
end
end Go.Proofs.YtgndgkjefgjamaaGreat
