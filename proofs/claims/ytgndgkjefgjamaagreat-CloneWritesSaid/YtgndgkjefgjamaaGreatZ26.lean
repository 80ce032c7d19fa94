/-
  Drawn regions whose last operation stores into a cell that the region has read: the loads may be taken first all the same. No program in sight.; A sector stored; the reference's Fits, its copy of an image that it owns, its Apply.; Reference 37: Image.; Reference 37: with.; Reference 37: Write.; The laws on clones: a variable of clones, and what each call does to it.; How clones and strings read; closed facts.
-/
import Derived.OrdersHeld
import Derived.RegionTactic
import Derived.Deep.RegionHeld3
import Derived.WalkMore
import Derived.BigQuiet
import Derived.Test.YtgndgkjefgjamaaGreatZ01
import Derived.Test.YtgndgkjefgjamaaGreatZ02
import Derived.Test.YtgndgkjefgjamaaGreatZ03
import Derived.Test.YtgndgkjefgjamaaGreatZ04
import Derived.Test.YtgndgkjefgjamaaGreatZ05
import Derived.Test.YtgndgkjefgjamaaGreatZ06
import Derived.Test.YtgndgkjefgjamaaGreatZ07
import Derived.Test.YtgndgkjefgjamaaGreatZ08
import Derived.Test.YtgndgkjefgjamaaGreatZ09
import Derived.Test.YtgndgkjefgjamaaGreatZ10
import Derived.Test.YtgndgkjefgjamaaGreatZ11
import Derived.Test.YtgndgkjefgjamaaGreatZ12
import Derived.Test.YtgndgkjefgjamaaGreatZ13
import Derived.Test.YtgndgkjefgjamaaGreatZ14
import Derived.Test.YtgndgkjefgjamaaGreatZ15
import Derived.Test.YtgndgkjefgjamaaGreatZ16
import Derived.Test.YtgndgkjefgjamaaGreatZ17
import Derived.Test.YtgndgkjefgjamaaGreatZ18
import Derived.Test.YtgndgkjefgjamaaGreatZ19
import Derived.Test.YtgndgkjefgjamaaGreatZ21
import Derived.Test.YtgndgkjefgjamaaGreatZ23
set_option linter.unusedVariables false
set_option linter.unusedSimpArgs false
set_option linter.unusedSectionVars false
set_option linter.unnecessarySimpa false
namespace Go.Proofs.YtgndgkjefgjamaaGreat

section
variable {P : Program} {ops : Array Oper} {Q : Exit → Act → World → Prop} {md : Region.Mode} {S : World → Prop} {k : Nat}
/-- two may come up -/
theorem wpAnyU_two {i j : Nat} {oi oj : Oper} {fuel : Nat} {listed : Array Bool} {a : Act} {w : World} (hr : Region.ready md ops listed = [i, j]) (hoi : ops[i]? = some oi) (hoj : ops[j]? = some oj) (hgi : oi.guard = none) (hgj : oj.guard = none)
    (hi : ∀ K' : Act → World → Prop, Shut (∀ a w, (i ≠ k → S w) → wpAnyU P md ops Q S k fuel (listed.setIfInBounds i true) a w → K' a w) → Oper.wp P oi a w K' Q)
    (hj : ∀ K' : Act → World → Prop, Shut (∀ a w, (j ≠ k → S w) → wpAnyU P md ops Q S k fuel (listed.setIfInBounds j true) a w → K' a w) → Oper.wp P oj a w K' Q) :
    wpAnyU P md ops Q S k (fuel + 1) listed a w :=
  ⟨fun h0 => by rw [hr] at h0; simp at h0, fun m hm => by
    rw [hr] at hm
    simp only [List.mem_cons, List.not_mem_nil, or_false] at hm
    rcases hm with rfl | rfl
    · exact wpOp_step hoi (fun K' hK => by rw [if_pos (by simp [Region.wanted, hgi])]; exact hi K' (fun a w hS hW => hK a w ⟨hS, hW⟩))
    · exact wpOp_step hoj (fun K' hK => by rw [if_pos (by simp [Region.wanted, hgj])]; exact hj K' (fun a w hS hW => hK a w ⟨hS, hW⟩))⟩
end
end Go.Proofs.YtgndgkjefgjamaaGreat
namespace Go.Proofs.YtgndgkjefgjamaaGreat
open Go.RowKit Go.Shelf
attribute [local go_sem] Oper.semAt_some

section
variable {w : World} {g k b : Nat} {x0 x1 x2 x3 x4 x5 x6 x7 : Int}
end
end Go.Proofs.YtgndgkjefgjamaaGreat

namespace Go.Proofs.YtgndgkjefgjamaaGreat
open Go.RowKit Go.Shelf
attribute [local go_sem] Oper.semAt_some

end Go.Proofs.YtgndgkjefgjamaaGreat

namespace Go.Proofs.YtgndgkjefgjamaaGreat
open Go.RowKit Go.Shelf
attribute [local go_sem] Oper.semAt_some

end Go.Proofs.YtgndgkjefgjamaaGreat

namespace Go.Proofs.YtgndgkjefgjamaaGreat
open Go.RowKit Go.Shelf
attribute [local go_sem] Oper.semAt_some

end Go.Proofs.YtgndgkjefgjamaaGreat

namespace Go.Proofs.YtgndgkjefgjamaaGreat
open Go.RowKit Go.Shelf
attribute [local go_sem] Oper.semAt_some

theorem atL_end {im : Img} {l : List Snp} : atL im (l.drop l.length) = im := by rw [List.drop_length]; rfl
set_option maxHeartbeats 4000000 in
set_option maxRecDepth 100000 in
theorem refImageAt_any (A A2 : Option Addr) (c c2 n m at' : Nat) (im : Img) (l : List Snp) (w : World) (hn : im.length = n) (hm : l.length = m) (h1 : SlAt (encSl encSec) w (Bl w.heap.size) A im) (h2 : SlAt encSnp w (Bl w.heap.size) A2 l) (hL : SnLim im l) (hk : at' < m) (hsz : sizesN (lens im) = 0) (hfit : ∀ x ∈ l, ∀ y ∈ x.2.2, fitsN (lens im) y = 0) (r : Img) (hr : atL im (l.drop at') = r) :
    Calls Tryz.prog 125 #[.agg #[.slice A n c, .slice A2 m c2], .int .i64 at'] w fun e w' => ∃ B vc, e = .returned (.slice B n vc) ∧ n ≤ vc ∧ vc ≤ maxLen ∧ r.length = n ∧ SlAt (encSl encSec) w' (Nw w.heap.size w'.heap.size) B r ∧ Below w.heap.size w w' := by
  subst hn hm
  have H1 : Hid (∀ w', Below w.heap.size w w' → SlAt (encSl encSec) w' (Bl w.heap.size) A im) := fun w' hb => h1.below hb
  have H2 : Hid (∀ w', Below w.heap.size w w' → SlAt encSnp w' (Bl w.heap.size) A2 l) := fun w' hb => h2.below hb
  have HLM := Lib.hid hL
  have HFIT := Lib.hid hfit
  have HSZ := Lib.hid hsz
  have HR := Lib.hid hr
  have hl1 := hL.ims
  have hl2 := hL.its
  have HIL : Hid (∀ j, lens (atL im (l.drop j)) = lens im ∧ (atL im (l.drop j)).length = im.length) := fun j => by
    have h := atL_lens (im := im) (l := l.drop j) (fun x hx => hfit x (List.mem_of_mem_drop hx))
    exact ⟨h, by have := congrArg List.length h; simpa [lens] using this⟩
  clear h1 h2 hL hfit hsz hr
  obtain ⟨W0, hW0⟩ : ∃ W0, w.alloc (.cells #[.slice A im.length c, .slice A2 l.length c2] 26) = W0 := ⟨_, rfl⟩
  have hB0 : Below w.heap.size w W0 := by rw [← hW0]; exact ext_alloc (Below.refl _ _)
  have hr0 : W0.heap[w.heap.size]? = some (.cells #[.slice A im.length c, .slice A2 l.length c2] 26 (0, 0)) := by rw [← hW0]; exact heap_alloc_new _ _
  have hs0 : W0.heap.size = w.heap.size + 1 := by rw [← hW0]; simp
  have HCC : Hid (∀ W, Below W0.heap.size W0 W → W.cell? ⟨w.heap.size, 0, none⟩ = some (.slice A im.length c) ∧ W.cell? ⟨w.heap.size, 1, none⟩ = some (.slice A2 l.length c2)) := fun W hb => by
    obtain ⟨a, b, _⟩ := blk2 ((hb.block w.heap.size (by omega)).trans hr0)
    exact ⟨a, b⟩
  have HCP := Lib.hid (refCopy07_any A c im.length im W0 rfl ((H1.out W0 hB0).more (Bl.mono hB0.size)) hl1 HLM.out.row)
  obtain ⟨c0, c1⟩ := HCC.out W0 (Below.refl _ _)
  clear hr0
  have hsz0 : Hid (W0.heap.size = w.heap.size + 1) := hs0
  have hs0' : w.heap.size ≤ W0.heap.size := by omega
  clear hs0
  go_enter Tryz.func125, Tryz.ntmps125
  go_wp2_with fail
  refine HCP.out.mono ?_
  rintro e w1 ⟨B, vc, rfl, p1, p2, p3, hb1⟩
  have HP3 := Lib.hid p3
  have hvc : Hid (im.length ≤ vc ∧ vc ≤ maxLen) := ⟨p1, p2⟩
  clear p1 p2 p3 HCP c0 c1
  obtain ⟨c0, c1⟩ := HCC.out w1 hb1
  go_wp2_with fail
  go_loopw [5, 6] (fun v i wr => ∃ (k : Nat) (Bk : Option Addr) (vk : Nat), at' ≤ k ∧ k ≤ l.length ∧ i = .int .i64 ((k : Int) - 1) ∧ v = .slice Bk im.length vk ∧ Below W0.heap.size W0 wr ∧ Hid (im.length ≤ vk ∧ vk ≤ maxLen) ∧ Hid (SlAt (encSl encSec) wr (Nw W0.heap.size wr.heap.size) Bk (atL im (l.drop k)))) (fun _ i _ => (intOf i + 1).toNat)
  case atStart => exact ⟨l.length, B, vc, by omega, Nat.le_refl _, by go_num, rfl, hb1, hvc.out, by rw [Hid, atL_end]; exact HP3.out⟩
  case round =>
    obtain ⟨wo, rfl⟩ : ∃ wo : World, wo = wr := ⟨_, rfl⟩
    obtain ⟨k, Bk, vk, hka, hkl, rfl, rfl, hB, hvk, hIM⟩ := hrel
    obtain ⟨c0, c1⟩ := HCC.out wo hB
    have hbw : Below w.heap.size w wo := hB0.trans (hB.mono hs0')
    have hzo := hB.size
    by_cases hlt : at' < k
    · obtain ⟨j, rfl⟩ : ∃ j, k = j + 1 := ⟨k - 1, by omega⟩
      have ej : ((j + 1 : Nat) : Int) - 1 = j := by omega
      rw [ej]
      clear ej
      have hjl : j < l.length := by omega
      have hji : (j : Int) < l.length := by omega
      have hnn : (0 : Int) ≤ j := by omega
      have hja : (at' : Int) ≤ j := by omega
      obtain ⟨b, off, D, dd, rfl, hb, g0, g1, g2, hD, hd1, hd2, _, _⟩ := (H2.out wo hbw).snp hjl
      have hstep := Lib.hid (atL_step (im := im) hjl)
      have hfx := HFIT.out l[j] (List.getElem_mem hjl)
      have hsvl := (HLM.out.sav l[j] (List.getElem_mem hjl)).1
      obtain ⟨hle, hln⟩ := HIL.out (j + 1)
      obtain ⟨_, hln2⟩ := HIL.out j
      obtain ⟨cur, hcur⟩ : ∃ cur, atL im (l.drop (j + 1)) = cur := ⟨_, rfl⟩
      rw [hcur] at hIM hstep hle hln
      obtain ⟨nx, hnx⟩ : ∃ nx, Hid (atL im (l.drop j) = nx) := ⟨_, rfl⟩
      rw [hnx.out] at hstep hln2
      obtain ⟨sv, hsv⟩ : ∃ sv, l[j].2.2 = sv := ⟨_, rfl⟩
      rw [hsv] at g2 hD hd1 hfx hstep hsvl
      obtain ⟨ap1, ap2⟩ := applyL_ok (im := cur) (l := sv) (by rw [hle]; exact HSZ.out) (by rw [hle]; exact hfx)
      have HAP := Lib.hid (refApply07_any Bk D vk dd im.length sv.length cur sv wo hln rfl (hIM.out.more (fun g hg => hg.2)) hl1 (hD.more (Bl.mono hbw.size)) (by omega))
      rw [ap1, ap2, ← hstep.out] at HAP
      have hnl : Hid (nx.length = im.length) := hln2
      clear hcur hsv ap1 ap2 hle hln hln2 hfx hD hIM hsvl g0 g1 hd1 hd2
      go_wp2_with fail
      refine HAP.out.mono ?_
      rintro e w2 ⟨A4, c4, ix, rfl, a1, a2, a3, hb2⟩
      have HA3 := Lib.hid a3
      rw [hnl.out] at a1 ⊢
      have hB2 : Below W0.heap.size W0 w2 := ext_trans hB hb2
      have ha : Hid (im.length ≤ c4 ∧ c4 ≤ maxLen) := ⟨a1, a2⟩
      clear HAP a3 g2 c0 c1 a1 a2
      go_wp2
      go_roundw
      case rel => exact ⟨j, A4, c4, by omega, by omega, by go_num, rfl, hB2, ha.out, by rw [Hid, hnx.out]; exact HA3.out.more (fun g hg => ⟨by have := hg.1; omega, hg.2⟩)⟩
      case measure => simp [intOf]
    · have hkk : k = at' := by omega
      subst hkk
      have ho := hIM.out
      rw [HR.out] at ho
      have HO := Lib.hid ho
      have hrl : Hid (r.length = im.length) := by rw [Hid, ← HR.out]; exact (HIL.out k).2
      obtain ⟨v1, v2⟩ := hvk.out
      have hng : ¬ (k : Int) ≤ (k : Int) - 1 := by omega
      clear ho hIM
      go_wp2
      go_ret
      exact ⟨Bk, vk, rfl, v1, v2, hrl.out, HO.out.more (fun g hg => ⟨by have := hg.1; omega, hg.2⟩), hbw⟩
set_option maxRecDepth 100000 in
set_option maxHeartbeats 4000000 in
theorem refImage_any (A A2 : Option Addr) (c c2 n m : Nat) (im : Img) (l : List Snp) (num : Int) (w : World) (hn : im.length = n) (hm : l.length = m) (h1 : SlAt (encSl encSec) w (Bl w.heap.size) A im) (h2 : SlAt encSnp w (Bl w.heap.size) A2 l) (hL : SnLim im l) (r : Img) (hr : sImage (im, l) num = r) (en : Int) (he : findE (im, l) num = en) :
    Calls Tryz.prog 69 #[.agg #[.slice A n c, .slice A2 m c2], .int .i64 num] w fun e w' => ∃ B vc, e = .returned (.tuple #[.slice B r.length vc, .int .i64 en]) ∧ r.length ≤ vc ∧ vc ≤ maxLen ∧ SlAt (encSl encSec) w' (Nw w.heap.size w'.heap.size) B r ∧ Below w.heap.size w w' := by
  subst hn hm
  have H1 : Hid (∀ w', Below w.heap.size w w' → SlAt (encSl encSec) w' (Bl w.heap.size) A im) := fun w' hb => h1.below hb
  have H2 : Hid (∀ w', Below w.heap.size w w' → SlAt encSnp w' (Bl w.heap.size) A2 l) := fun w' hb => h2.below hb
  have HL := Lib.hid hL; have HR := Lib.hid hr; have HE := Lib.hid he
  have hl1 := hL.ims
  have hl2 := hL.its
  clear h1 h2 hL hr he
  obtain ⟨n0, hn0⟩ : ∃ n0, w.heap.size = n0 := ⟨_, rfl⟩
  obtain ⟨W0, hW0⟩ : ∃ W0, w.alloc (.cells #[.slice A im.length c, .slice A2 l.length c2] 26) = W0 := ⟨_, rfl⟩
  have hB0 : Below n0 w W0 := by rw [← hW0, ← hn0]; exact ext_alloc (Below.refl _ _)
  have hr0 : W0.heap[n0]? = some (.cells #[.slice A im.length c, .slice A2 l.length c2] 26 (0, 0)) := by rw [← hW0, ← hn0]; exact heap_alloc_new _ _
  have hs0 : n0 < W0.heap.size := (Array.getElem?_eq_some_iff.1 hr0).1
  have hBL : Hid (∀ (W : World), Below n0 w W → ∀ g, Bl w.heap.size g → Bl W.heap.size g) := fun W hb g hg => by have h := hb.size; have : g < w.heap.size := hg; show g < W.heap.size; omega
  have HF := Lib.hid (refFind_any A A2 c c2 im.length l.length im l num W0 rfl rfl ((H1.out W0 (by rw [hn0]; exact hB0)).more (hBL.out W0 hB0)) ((H2.out W0 (by rw [hn0]; exact hB0)).more (hBL.out W0 hB0)) hl1 (by omega))
  rw [HE.out] at HF
  obtain ⟨p0, p1, _⟩ := blk2 hr0
  go_enter Tryz.func69, Tryz.ntmps69
  go_wp2_with fail
  refine HF.out.mono ?_
  rintro e w1 ⟨rfl, hb1⟩
  have hbw1 : Below n0 w w1 := hB0.trans (hb1.mono (by omega))
  have hz1 := hb1.size
  obtain ⟨k, hk⟩ : ∃ k, Hid (findN (im, l) num = k) := ⟨_, rfl⟩
  rw [hk.out]
  by_cases hx0 : en = 0
  · have hx0' : (en != 0) = false := by simp [hx0]
    have hEZ : Hid (findE (im, l) num = 0) := by rw [Hid, HE.out, hx0]
    obtain ⟨e1, e2⟩ := findE_ok hEZ.out
    obtain ⟨e3, e4⟩ := snE_ok e1
    rw [hk.out] at e2
    have hrr : Hid (atL im (l.drop k) = r) := by rw [Hid, ← HR.out, sImage, if_pos hEZ.out, hk.out]
    have HAT := Lib.hid (refImageAt_any A A2 c c2 im.length l.length k im l w1 rfl rfl ((H1.out w1 (by rw [hn0]; exact hbw1)).more (hBL.out w1 hbw1)) ((H2.out w1 (by rw [hn0]; exact hbw1)).more (hBL.out w1 hbw1)) HL.out e2 e3 e4 r hrr.out)
    obtain ⟨q0, q1, _⟩ := blk2 ((hb1.block n0 hs0).trans hr0)
    subst hx0
    clear p0 p1 e3 e4 HF e1
    go_wp2_with fail
    refine HAT.out.mono ?_
    rintro e w2 ⟨B, vc, rfl, a1, a2, a3, a4, hb2⟩
    have HA4 := Lib.hid a4
    have ha3 := Lib.hid a3
    clear a4 a3 q0 q1 HAT
    go_wp2
    go_ret2
    rw [← ha3.out] at a1 ⊢
    exact ⟨B, vc, rfl, a1, a2, HA4.out.more (fun g hg => ⟨by have := hg.1; omega, hg.2⟩), by rw [hn0]; exact hbw1.trans (hb2.mono (by omega))⟩
  · have hx0' : (en != 0) = true := by simp [hx0]
    have hrr : Hid (r = []) := by rw [Hid, ← HR.out, sImage, if_neg (by rw [HE.out]; exact hx0)]
    clear hx0 p0 p1 HF
    go_wp2_with fail
    go_ret2
    rw [hrr.out]
    exact ⟨none, 0, rfl, by simp, by simp, SlAt.nil_, by rw [hn0]; exact hbw1⟩
end Go.Proofs.YtgndgkjefgjamaaGreat

namespace Go.Proofs.YtgndgkjefgjamaaGreat
open Go.RowKit Go.Shelf
attribute [local go_sem] Oper.semAt_some

end Go.Proofs.YtgndgkjefgjamaaGreat
namespace Go.Proofs.YtgndgkjefgjamaaGreat
open Go.RowKit Go.Shelf
attribute [local go_sem] Oper.semAt_some

set_option maxHeartbeats 4000000 in
set_option maxRecDepth 100000 in
theorem rcImage_any (A A2 A3 : Option Addr) (c c2 c3 n m p : Nat) (im : Img) (l : List Snp) (cl : List Cln) (nm : ByteArray) (w : World) (hn : im.length = n) (hm : l.length = m) (hp : cl.length = p) (hc3 : p ≤ c3) (h1 : SlAt (encSl encSec) w (Bl w.heap.size) A im) (h2 : SlAt encSnp w (Bl w.heap.size) A2 l) (h3 : SlAt encCln w (Bl w.heap.size) A3 cl) (hL : ClLim (im, l) cl) (r : Img) (hr : cIm ((im, l), cl) nm = r) (en : Int) (he : cfE ((im, l), cl) nm = en) :
    Calls Tryz.prog 22 #[.agg #[.slice A n c, .slice A2 m c2, .slice A3 p c3], .string nm] w fun e w' => ∃ B vc, e = .returned (.tuple #[.slice B r.length vc, .int .i64 en]) ∧ r.length ≤ vc ∧ vc ≤ maxLen ∧ SlAt (encSl encSec) w' (Nw w.heap.size w'.heap.size) B r ∧ Below w.heap.size w w' := by
  subst hn hm hp
  have HER : Hid (∀ (q : Int) (w' : World), cfE ((im, l), cl) nm = q → q ≠ 0 → Below w.heap.size w w' → ∃ B vc, Ending.returned (.tuple #[.slice none 0 0, .int .i64 q]) = .returned (.tuple #[.slice B r.length vc, .int .i64 en]) ∧ r.length ≤ vc ∧ vc ≤ maxLen ∧ SlAt (encSl encSec) w' (Nw w.heap.size w'.heap.size) B r ∧ Below w.heap.size w w') := fun q w' h1 h2 h3 => by
    have e1 : r = [] := by rw [← hr, cIm, if_neg (by rw [h1]; exact h2)]
    rw [e1, ← he, h1]
    exact ⟨none, 0, rfl, by simp, by simp, SlAt.nil_, h3⟩
  have HR := Lib.hid hr; have HEN := Lib.hid he
  clear hr he
  obtain ⟨n0, hn0⟩ : ∃ n0, w.heap.size = n0 := ⟨_, rfl⟩
  obtain ⟨W0, hW0⟩ : ∃ W0, w.alloc (.cells #[.slice A im.length c, .slice A2 l.length c2, .slice A3 cl.length c3] 29) = W0 := ⟨_, rfl⟩
  have hB0 : Below n0 w W0 := by rw [← hW0, ← hn0]; exact ext_alloc (Below.refl _ _)
  have hr0 : W0.heap[n0]? = some (.cells #[.slice A im.length c, .slice A2 l.length c2, .slice A3 cl.length c3] 29 (0, 0)) := by rw [← hW0, ← hn0]; exact heap_alloc_new _ _
  obtain ⟨n2, hn2⟩ : ∃ n2, W0.heap.size = n2 := ⟨_, rfl⟩
  have hn02 : n0 < n2 := by rw [← hn2]; exact (Array.getElem?_eq_some_iff.1 hr0).1
  have up : ∀ {α : Type} {E : Enc α} {A : Option Addr} {l : List α}, SlAt E w (Bl w.heap.size) A l → ∀ W, Below n2 W0 W → SlAt E W (Bl W.heap.size) A l := fun h W hb => by
    rw [hn0] at h
    exact (h.blk (fun g hg => (hb.block g (by have : g < n0 := hg; omega)).trans (hB0.block g hg))).more (fun g hg => by have : g < n0 := hg; have := hb.size; show g < W.heap.size; omega)
  have H1 := Lib.hid (up h1)
  have H2 := Lib.hid (up h2)
  have H3 := Lib.hid (up h3)
  have HROW0 : Hid (∀ W, Below n2 W0 W → W.heap[n0]? = some (.cells #[.slice A im.length c, .slice A2 l.length c2, .slice A3 cl.length c3] 29 (0, 0))) := fun W hb => (hb.block _ (by omega)).trans hr0
  have HC : Hid (∀ W, Below n2 W0 W → W.cell? ⟨n0, 0, none⟩ = some (.slice A im.length c) ∧ W.cell? ⟨n0, 1, none⟩ = some (.slice A2 l.length c2) ∧ W.cell? ⟨n0, 2, none⟩ = some (.slice A3 cl.length c3)) := fun W hb => by
    obtain ⟨a, b, d, _⟩ := blk3 ((hb.block _ (by omega)).trans hr0)
    exact ⟨a, b, d⟩
  have HBW : Hid (∀ W, Below n2 W0 W → Below w.heap.size w W) := fun W hb => by rw [hn0]; exact hB0.trans (hb.mono (by omega))
  have HN0 := Lib.hid hn0
  have HN2 := Lib.hid hn2
  have hN0 : n0 ≤ w.heap.size ∧ w.heap.size ≤ n0 := by omega
  have hl1 := hL.sn.ims
  have hl2 := hL.sn.its
  have hl3 := hL.its
  have HLM := Lib.hid hL
  simp only at hl1 hl2
  obtain ⟨s0, hs0⟩ : ∃ s0, clE ((im, l), cl) = s0 := ⟨_, rfl⟩
  have HS0 := Lib.hid hs0
  have hB00 := Below.refl n2 W0
  obtain ⟨p0, p1, p2⟩ := HC.out W0 hB00
  clear h1 h2 h3 up hB0 hL hr0 hs0
  have HCK0 := Lib.hid (rcCheck_any A A2 A3 c c2 c3 im.length l.length cl.length im l cl s0 W0 hc3 rfl rfl rfl HS0.out (H1.out W0 hB00) (H2.out W0 hB00) (H3.out W0 hB00) hl1 (by omega) (by omega))
  go_enter Tryz.func22, Tryz.ntmps22
  go_wp2_with fail
  refine HCK0.out.mono ?_
  rintro e w1 ⟨rfl, hb1⟩
  rw [HN2.out] at hb1
  clear p0 p1 p2 HCK0 hn2 hn0 hW0
  by_cases hx0 : s0 = 0
  case neg =>
    have hx0' : (s0 != 0) = true := by simp [hx0]
    have HF := Lib.hid (HER.out s0 w1 (by rw [cfE, HS0.out, if_pos hx0]) hx0 (HBW.out w1 hb1))
    clear hx0
    go_wp2_with fail
    go_ret2
    exact HF.out
  have hx0' : (s0 != 0) = false := by simp [hx0]
  obtain ⟨iv, hiv⟩ : ∃ iv, idxAt (isN nm) cl = iv := ⟨_, rfl⟩
  have HFD := Lib.hid (rcFind_any A3 c3 cl.length cl nm w1 rfl (H3.out w1 hb1) (by omega) iv hiv)
  have hcf := cf_cases (nm := nm) (show clE ((im, l), cl) = 0 by rw [HS0.out, hx0])
  have HCKE : Hid (clE ((im, l), cl) = 0) := by rw [Hid, HS0.out, hx0]
  simp only at hcf
  rw [hiv] at hcf
  subst hx0
  clear hiv
  obtain ⟨p0, p1, p2⟩ := HC.out w1 hb1
  go_wp2_with fail
  refine HFD.out.mono ?_
  rintro e w2 ⟨rfl, hb2⟩
  have hz1 := hb1.size
  have hbb2 : Below n2 W0 w2 := hb1.trans (hb2.mono (by have := HN2.out; omega))
  clear HFD p0 p1 p2 hb2
  rcases hcf with ⟨hiv, hce⟩ | ⟨k, hkl, hiv, hce, hcn, hca, hcm⟩
  · have HF := Lib.hid (HER.out 7 w2 hce (by decide) (HBW.out w2 hbb2))
    clear hce
    subst hiv
    go_wp2_with fail
    go_ret2
    exact HF.out
  subst hiv
  have hk0 : (0 : Int) ≤ k := by omega
  have hkn : ¬ (k : Int) < 0 := by omega
  have hkc : (k : Int) < cl.length := by omega
  have HCE := Lib.hid hce
  have HCN := Lib.hid hcn
  have HCA := Lib.hid hca
  have HCM := Lib.hid hcm
  clear hce hcn hca hcm
  have hb1 := hbb2
  clear hbb2
  obtain ⟨xv, hxv⟩ : ∃ x, cl[k]'hkl = x := ⟨_, rfl⟩
  have HXM : Hid (xv ∈ cl) := by rw [Hid, ← hxv]; exact List.getElem_mem hkl
  have HXA : Hid (cAt ((im, l), cl) nm = xv) := by rw [Hid, HCA.out]; exact hxv
  obtain ⟨b3, off3, Dx, dx, he3, hb3, g0, g1, g2, gD, gd1, gd2, gi1, gi2⟩ := (H3.out w2 hb1).cln hkl
  subst he3
  rw [hxv] at g0 g1 g2 gD gd1 gi1 gi2
  obtain ⟨xn, xnum, xs⟩ := xv
  simp only at g0 g1 g2 gD gd1 gi1 gi2
  have hb3' : b3 < w2.heap.size := hb3
  have HXC : Hid (∀ W, Below w2.heap.size w2 W → W.cell? ⟨b3, off3 + k * 3, none⟩ = some (.string xn) ∧ W.cell? ⟨b3, off3 + k * 3 + 1, none⟩ = some (.int .i64 xnum) ∧ W.cell? ⟨b3, off3 + k * 3 + 2, none⟩ = some (.slice Dx xs.length dx)) := fun W hb => ⟨(hb.cell (p := ⟨b3, off3 + k * 3, none⟩) hb3').trans g0, (hb.cell (p := ⟨b3, off3 + k * 3 + 1, none⟩) hb3').trans g1, (hb.cell (p := ⟨b3, off3 + k * 3 + 2, none⟩) hb3').trans g2⟩
  have HXS : Hid (∀ W, Below w2.heap.size w2 W → SlAt encWr W (Bl W.heap.size) Dx xs) := fun W hb => gD.fwd hb
  have HOC : Hid (∀ W, Below w2.heap.size w2 W → W.cell? ⟨n0, 0, none⟩ = some (.slice A im.length c) ∧ W.cell? ⟨n0, 1, none⟩ = some (.slice A2 l.length c2) ∧ W.cell? ⟨n0, 2, none⟩ = some (.slice (some ⟨b3, off3, none⟩) cl.length c3)) := fun W hb => HC.out W (hb1.trans (hb.mono (by have := hb1.size; have := HN2.out; omega)))
  have HBX : Hid (∀ W, Below w2.heap.size w2 W → Below n2 W0 W) := fun W hb => hb1.trans (hb.mono (by have := hb1.size; have := HN2.out; omega))
  clear g0 g1 g2 gD hb3
  obtain ⟨hf1, hf2, hf3⟩ := clE_fits HCKE.out
  obtain ⟨hf4, hf5⟩ := hf3 _ HXM.out
  simp only at hf4 hf5
  obtain ⟨si, hsi⟩ : ∃ si, sImage (im, l) xnum = si := ⟨_, rfl⟩
  have hsil : lens si = lens im := by rw [← hsi, sImage, if_pos hf4]; exact atL_lens (fun x hx => hf2 x (List.drop_subset _ _ hx))
  have hsll : si.length ≤ 100000 := by
    have := congrArg List.length hsil
    simp [lens] at this; omega
  have hap := applyL_ok (im := si) (l := xs) (by rw [hsil]; exact hf1) (fun x hx => by rw [hsil]; exact hf5 x hx)
  have hrr : applyL si xs = r := by
    rw [hap.2, ← HR.out, cIm, if_pos HCE.out, HXA.out, ← hsi]
  have hen : Hid ((0 : Int) = en) := by rw [Hid, ← HEN.out]; exact HCE.out.symm
  have HSI := Lib.hid (fun W (hb : Below w2.heap.size w2 W) => refImage_any A A2 c c2 im.length l.length im l xnum W rfl rfl (H1.out W (HBX.out W hb)) (H2.out W (HBX.out W hb)) HLM.out.sn si hsi 0 hf4)
  have HAP : Hid (∀ W Bi vi, Below w2.heap.size w2 W → SlAt (encSl encSec) W (Bl W.heap.size) Bi si → Calls Tryz.prog 70 #[.slice Bi si.length vi, .slice Dx xs.length dx] W (ApplyRet r 0 W)) := fun W Bi vi hb h => by
    have := refApply07_any Bi Dx vi dx si.length xs.length si xs W rfl rfl h hsll (HXS.out W hb) (by unfold maxLen at gd2; omega)
    rw [hrr, hap.1] at this
    exact this
  have hSw : Below w2.heap.size w2 w2.drew := (Below.refl _ w2).drew
  obtain ⟨p0, p1, p2⟩ := HOC.out w2 (Below.refl _ w2)
  obtain ⟨g0, g1, g2⟩ := HXC.out w2 (Below.refl _ w2)
  clear hf1 hf2 hf3 hf4 hf5 hsi hsil hap hrr
  go_upto_region 7 with (fail)
  go_cut [8, 9] (fun e f wx => f = .int .i64 0 ∧ (∃ Bi vi, e = .slice Bi si.length vi ∧ SlAt (encSl encSec) wx (Bl wx.heap.size) Bi si) ∧ Below w2.heap.size w2 wx)
  case first =>
    refine wp_region_U (fun W' => Below w2.heap.size w2 W') 14 (by kernel_rfl) ?_
    refine wpAnyU_takeD (i := 0) (v := ?_) rfl rfl (by kernel_rfl) (by kernel_rfl) (by kernel_rfl) (by kernel_rfl) (fun _ _ _ h => h) (by rfl) ?_ hSw ?_
    rotate_left 1
    · intro W9 hW9
      try dsimp only at hW9
      obtain _ := trivial
      go_simp
      try with_reducible rfl
    try simp only [List.setIfInBounds_toArray, List.set_cons_zero, List.set_cons_succ]
    refine wpAnyU_takeD (i := 1) (v := ?_) rfl rfl (by kernel_rfl) (by kernel_rfl) (by kernel_rfl) (by kernel_rfl) (fun _ _ _ h => h) (by rfl) ?_ hSw ?_
    rotate_left 1
    · intro W9 hW9
      try dsimp only at hW9
      obtain ⟨q0, q1, q2⟩ := HOC.out W9 hW9
      go_simp
      try with_reducible rfl
    try simp only [List.setIfInBounds_toArray, List.set_cons_zero, List.set_cons_succ]
    refine wpAnyU_takeD (i := 2) (v := ?_) rfl rfl (by kernel_rfl) (by kernel_rfl) (by kernel_rfl) (by kernel_rfl) (fun _ _ _ h => h) (by rfl) ?_ hSw ?_
    rotate_left 1
    · intro W9 hW9
      try dsimp only at hW9
      obtain _ := trivial
      go_simp
      try with_reducible rfl
    try simp only [List.setIfInBounds_toArray, List.set_cons_zero, List.set_cons_succ]
    refine wpAnyU_takeD (i := 3) (v := ?_) rfl rfl (by kernel_rfl) (by kernel_rfl) (by kernel_rfl) (by kernel_rfl) (fun _ _ _ h => h) (by rfl) ?_ hSw ?_
    rotate_left 1
    · intro W9 hW9
      try dsimp only at hW9
      obtain ⟨q0, q1, q2⟩ := HOC.out W9 hW9
      go_simp
      try with_reducible rfl
    try simp only [List.setIfInBounds_toArray, List.set_cons_zero, List.set_cons_succ]
    refine wpAnyU_op (i := 4) (by kernel_rfl) rfl rfl (fun K hK => ?_)
    go_simp
    refine hK.out _ _ (fun _ => hSw) ?_
    clear hK K
    try simp only [Act.put, List.setIfInBounds_toArray, List.set_cons_zero, List.set_cons_succ]
    refine wpAnyU_op (i := 5) (by kernel_rfl) rfl rfl (fun K hK => ?_)
    go_simp
    refine hK.out _ _ (fun _ => hSw) ?_
    clear hK K
    try simp only [Act.put, List.setIfInBounds_toArray, List.set_cons_zero, List.set_cons_succ]
    refine wpAnyU_op (i := 6) (by kernel_rfl) rfl rfl (fun K hK => ?_)
    go_simp
    refine hK.out _ _ (fun _ => hSw) ?_
    clear hK K
    try simp only [Act.put, List.setIfInBounds_toArray, List.set_cons_zero, List.set_cons_succ]
    refine wpAnyU_op (i := 7) (by kernel_rfl) rfl rfl (fun K hK => ?_)
    go_simp
    refine hK.out _ _ (fun _ => hSw) ?_
    clear hK K
    try simp only [Act.put, List.setIfInBounds_toArray, List.set_cons_zero, List.set_cons_succ]
    refine wpAnyU_op (i := 8) (by kernel_rfl) rfl rfl (fun K hK => ?_)
    go_wp2_with fail
    refine ((HSI.out _ hSw)).mono ?_
    rintro e w6 ⟨Bi, vi, rfl, i1, i2, i3, hb6⟩
    refine hK.out _ _ (fun _ => (ext_trans hSw hb6)) ?_
    clear hK K
    try simp only [Act.put, List.setIfInBounds_toArray, List.set_cons_zero, List.set_cons_succ]
    have hS6 : Below w2.heap.size w2 w6 := ext_trans hSw hb6
    refine wpAnyU_op (i := 9) (by kernel_rfl) rfl rfl (fun K hK => ?_)
    go_simp
    refine hK.out _ _ (fun _ => hS6) ?_
    clear hK K
    try simp only [Act.put, List.setIfInBounds_toArray, List.set_cons_zero, List.set_cons_succ]
    clear hSw
    have hSw := hS6
    refine wpAnyU_takeD (i := 10) (v := ?_) rfl rfl (by kernel_rfl) (by kernel_rfl) (by kernel_rfl) (by kernel_rfl) (fun _ _ _ h => h) (by rfl) ?_ hSw ?_
    rotate_left 1
    · intro W9 hW9
      try dsimp only at hW9
      obtain _ := trivial
      go_simp
      try with_reducible rfl
    try simp only [List.setIfInBounds_toArray, List.set_cons_zero, List.set_cons_succ]
    refine wpAnyU_takeD (i := 11) (v := ?_) rfl rfl (by kernel_rfl) (by kernel_rfl) (by kernel_rfl) (by kernel_rfl) (fun _ _ _ h => h) (by rfl) ?_ hSw ?_
    rotate_left 1
    · intro W9 hW9
      try dsimp only at hW9
      obtain _ := trivial
      go_simp
      try with_reducible rfl
    try simp only [List.setIfInBounds_toArray, List.set_cons_zero, List.set_cons_succ]
    refine wpAnyU_op (i := 12) (by kernel_rfl) rfl rfl (fun K hK => ?_)
    go_simp
    refine hK.out _ _ (fun _ => hS6) ?_
    clear hK K
    try simp only [Act.put, List.setIfInBounds_toArray, List.set_cons_zero, List.set_cons_succ]
    refine wpAnyU_op (i := 13) (by kernel_rfl) rfl rfl (fun K hK => ?_)
    go_simp
    refine hK.out _ _ (fun _ => hS6) ?_
    clear hK K
    try simp only [Act.put, List.setIfInBounds_toArray, List.set_cons_zero, List.set_cons_succ]
    refine wpAnyU_done (by kernel_rfl) ?_ _
    go_wp2
    go_meet
    exact ⟨rfl, ⟨Bi, vi, rfl, i3.more (fun g hg => hg.2)⟩, hS6⟩
  case rest =>
    obtain ⟨rfl, ⟨Bi, vi, rfl, hsl⟩, hbx⟩ := hcut
    clear p0 p1 p2 g0 g1 g2
    obtain ⟨q0, q1, q2⟩ := HOC.out _ hbx
    obtain ⟨g0, g1, g2⟩ := HXC.out _ hbx
    have HA := Lib.hid (HAP.out _ Bi vi hbx hsl)
    clear hsl
    go_wp2_with fail
    refine HA.out.mono ?_
    rintro e w7 ⟨A7, c7, i7, rfl, a1, a2, a3, hb7⟩
    have HA3 := Lib.hid a3
    have hbz := hbx.size
    have hbf := HBW.out w7 ((HBX.out _ hbx).trans (hb7.mono (by have := (HBX.out _ hbx).size; have := HN2.out; omega)))
    have hzw := (HBW.out _ (HBX.out _ hbx)).size
    clear a3 q0 q1 q2 g0 g1 g2 HA
    go_wp2_with fail
    go_ret2
    rw [hen.out]
    exact ⟨A7, c7, rfl, a1, a2, HA3.out.more (fun g hg => ⟨by have := hg.1; omega, hg.2⟩), hbf⟩
end Go.Proofs.YtgndgkjefgjamaaGreat
namespace Go.Proofs.YtgndgkjefgjamaaGreat
open Go.RowKit Go.Shelf
attribute [local go_sem] Oper.semAt_some

/-- clones alone -/
def RdW (S : Nat → Prop) (x : Cls) (w : World) (e : Ending) (w' : World) : Prop :=
  ∃ A c D d G g, e = .returned (.agg #[.slice A x.1.1.length c, .slice D x.1.2.length d, .slice G x.2.length g]) ∧ ClAt x A c D d G g (fun q => S q ∧ q < w'.heap.size) w' ∧ Below w.heap.size w w'
theorem rw_end {S : Nat → Prop} {w W : World} {b : Nat} {T : TypeId} {c0 c1 c2 : Value} (hrow : W.heap[b]? = some (.cells #[c0, c1, c2] T (0, 0))) (hb : w.heap.size ≤ b) (hB : Below w.heap.size w W) {x : Cls} {A D G : Option Addr} {c d g : Nat}
    (h : ClAt x A c D d G g (fun q => S q ∧ q < W.heap.size ∧ q ≠ b) W) :
    (sw3 W b (.slice A x.1.1.length c) (.slice D x.1.2.length d) (.slice G x.2.length g)).heap[b]? = some (.cells #[.slice A x.1.1.length c, .slice D x.1.2.length d, .slice G x.2.length g] T (0, 0)) ∧
    RdW S x w (.returned (.agg #[.slice A x.1.1.length c, .slice D x.1.2.length d, .slice G x.2.length g])) (sw3 W b (.slice A x.1.1.length c) (.slice D x.1.2.length d) (.slice G x.2.length g)) :=
  ⟨sw3_row hrow _ _ _, A, c, D, d, G, g, rfl, h.keep (fun q hq => sw3_other hq.2.2 _ _ _) (fun q hq => ⟨hq.1, by rw [sw3_sz]; exact hq.2.1⟩), sw3_below hB hb _ _ _⟩
/-- the overlay of an owned clone stored -/
theorem Own.storeO {w : World} {base g n c : Nat} {T : TypeId} {S : Nat → Prop} {l : List Cln} (h : Own encCln w base T S (.slice (some ⟨g, 0, none⟩) n c) l) {i : Nat} (hi : i < l.length) {d : List Wr} {D : Option Addr} {dc : Nat}
    (h3 : d.length ≤ dc) (h4 : dc ≤ maxLen) (h5 : SlAt encWr w S D d) :
    Own encCln (w.setCell ⟨g, i * 3 + 2, none⟩ (.slice D d.length dc)) base T S (.slice (some ⟨g, 0, none⟩) n c) (l.set i (l[i].1, l[i].2.1, d)) :=
  Own.stored (E := encCln) h (j := 2) hi (by decide) (.slice D d.length dc) (l[i].1, l[i].2.1, d) (fun cs hr => by
    obtain ⟨D', c', rfl, k1, k2, k3, k4, k5⟩ := cln_cs hr
    exact cln_mk (x := (l[i].1, l[i].2.1, d)) k1 k2 h3 h4 h5)
set_option maxHeartbeats 4000000 in
set_option maxRecDepth 100000 in
theorem rcWith_any (S : Nat → Prop) (A A2 A3 D : Option Addr) (c c2 c3 n m p dc dn k : Nat) (ii : Int) (im : Img) (l : List Snp) (cl : List Cln) (d : List Wr) (w : World) (hn : im.length = n) (hm : l.length = m) (hp : cl.length = p) (hd : d.length = dn) (hii : ii = k) (hkl : k < cl.length) (hpl : p ≤ 100000) (hc : n ≤ c ∧ c ≤ maxLen) (hc2 : m ≤ c2 ∧ c2 ≤ maxLen) (hdc : dn ≤ dc ∧ dc ≤ maxLen)
    (h1 : SlAt (encSl encSec) w (fun q => S q ∧ q < w.heap.size) A im) (h2 : SlAt encSnp w (fun q => S q ∧ q < w.heap.size) A2 l) (h3 : SlAt encCln w (fun q => S q ∧ q < w.heap.size) A3 cl) (h4 : SlAt encWr w (fun q => S q ∧ q < w.heap.size) D d) (hSn : ∀ q, w.heap.size ≤ q → S q) (xn : ByteArray) (xnum : Int) (xs : List Wr) (hx : cl[k] = (xn, xnum, xs)) :
    Calls Tryz.prog 67 #[.agg #[.slice A n c, .slice A2 m c2, .slice A3 p c3], .int .i64 ii, .slice D dn dc] w (RdW S ((im, l), cl.set k (xn, xnum, d)) w) := by
  subst hn hm hp hd hii
  obtain ⟨n0, hn0⟩ : ∃ n0, w.heap.size = n0 := ⟨_, rfl⟩
  obtain ⟨W0, hW0⟩ : ∃ W0, (w.alloc (.cells #[.slice A im.length c, .slice A2 l.length c2, .slice A3 cl.length c3] 29)).alloc (.cells #[.slice none 0 0, .slice none 0 0, .slice none 0 0] 29) = W0 := ⟨_, rfl⟩
  have hB0 : Below n0 w W0 := by rw [← hW0, ← hn0]; exact ext_alloc (ext_alloc (Below.refl _ _))
  have hr0 : W0.heap[n0]? = some (.cells #[.slice A im.length c, .slice A2 l.length c2, .slice A3 cl.length c3] 29 (0, 0)) := by rw [← hW0, ← hn0]; exact (Below.heap_alloc _ _ _ (by simp)).trans (heap_alloc_new _ _)
  have hr1 : W0.heap[n0 + 1]? = some (.cells #[.slice none 0 0, .slice none 0 0, .slice none 0 0] 29 (0, 0)) := by rw [← hW0, ← hn0]; exact heap_new2 _ _ _
  obtain ⟨n2, hn2⟩ : ∃ n2, W0.heap.size = n2 := ⟨_, rfl⟩
  have hn02 : n0 + 1 < n2 := by rw [← hn2]; exact (Array.getElem?_eq_some_iff.1 hr1).1
  have hN2 : n2 ≤ W0.heap.size ∧ W0.heap.size ≤ n2 := by omega
  have hN0 : n0 ≤ w.heap.size ∧ w.heap.size ≤ n0 := by omega
  have HK1 : Hid (∀ W, Below n0 w W → SlAt (encSl encSec) W (fun q => S q ∧ q < n0) A im) := fun W hb => by rw [hn0] at h1; exact h1.blk (fun g hg => hb.block g hg.2)
  have HK2 : Hid (∀ W, Below n0 w W → SlAt encSnp W (fun q => S q ∧ q < n0) A2 l) := fun W hb => by rw [hn0] at h2; exact h2.blk (fun g hg => hb.block g hg.2)
  have HK3 : Hid (∀ W, Below n0 w W → SlAt encCln W (fun q => S q ∧ q < n0) A3 cl) := fun W hb => by rw [hn0] at h3; exact h3.blk (fun g hg => hb.block g hg.2)
  have HK4 : Hid (∀ W, Below n0 w W → SlAt encWr W (fun q => S q ∧ q < n0) D d) := fun W hb => by rw [hn0] at h4; exact h4.blk (fun g hg => hb.block g hg.2)
  obtain ⟨p0, p1, p2, pf⟩ := blk3 hr0
  have hO := Lib.hid (show Own encCln (W0.alloc (.cells #[] 87)) n2 87 (fun q => S q ∧ q < n0) (.slice (some ⟨W0.heap.size, 0, none⟩) 0 0) [] from Own.make0 (cur := #[]) hN2.1 (by unfold maxLen; omega) rfl (fun h => by have := h.2; omega))
  have hba : Below n2 W0 (W0.alloc (.cells #[] 87)) := (Below.refl n2 W0).alloc hN2.1 _
  have hbw : Below n0 w (W0.alloc (.cells #[] 87)) := hB0.trans (hba.mono (by omega))
  have hsrc := Lib.hid (HK3.out _ hbw)
  have HBA := Lib.hid hba
  have hnw : n0 < W0.heap.size := by omega
  have HB0 := Lib.hid hB0
  have HR0 := Lib.hid hr0
  have HR1 := Lib.hid hr1
  have HSN := Lib.hid hSn
  have HX := Lib.hid hx
  have HW0 := Lib.hid hW0
  clear h1 h2 h3 h4 hba hbw hB0 hr0 hr1 hn2 hSn hx
  go_enter Tryz.func67, Tryz.ntmps67
  go_wp2_with (at_builtin; refine Hid.out ?_)
  change wpList _ _ _ _ _ _
  refine wpList_appAll (E := encCln) tyClns rfl _ _ rfl rfl hO.out rfl rfl hsrc.out (fun g hg => by simp; have := hg.2; omega) (by simp; omega) (by unfold maxLen; simp; omega) (by simp; omega) ?_
  intro A5 c5 w5 hown5 hg5 hat5
  clear hW0 hn0 HW0
  simp only [List.length_nil, Nat.zero_add, List.nil_append] at hown5
  have hb5 : Below n2 W0 w5 := HBA.out.grown hg5 (by simp; omega) (fun g hg => (hO.out.lt g hg).1)
  have hz5 : n2 ≤ w5.heap.size := by have := hb5.size; omega
  have hr5 := (hb5.block n0 (by omega)).trans HR0.out
  have hr15 := (hb5.block (n0 + 1) (by omega)).trans HR1.out
  have hbw5 : Below n0 w w5 := HB0.out.trans (hb5.mono (by omega))
  have HOX := Lib.hid hown5
  simp only [List.length_nil, Nat.zero_add]
  clear hown5 hg5 hat5 hO hsrc p0 p1 p2 pf
  obtain ⟨p0, p1, p2, pf⟩ := blk3 hr5
  go_upto_region 2 with (fail)
  change Code.wp _ _ _ _ (w5.setCell ⟨n0, 2, none⟩ (.slice A5 cl.length c5))
  clear p0 p1 p2 pf
  have hlt := HOX.out.lt
  have hox8 : Own encCln (w5.setCell ⟨n0, 2, none⟩ (.slice A5 cl.length c5)) n2 87 (fun q => S q ∧ q < n0) (.slice A5 cl.length c5) cl := HOX.out.blk (fun b hb => heap_setCell_other _ _ _ _ (by
    show b ≠ n0
    rcases hb with hb | hb
    · have := hb.2; omega
    · have := (hlt b hb).1; omega))
  have hr8 := blk3_set hr5 (.slice A5 cl.length c5)
  have hr18 := (heap_setCell_other w5 ⟨n0, 2, none⟩ (n0 + 1) (.slice A5 cl.length c5) (by show n0 + 1 ≠ n0; omega)).trans hr15
  have hbw8 : Below n0 w (w5.setCell ⟨n0, 2, none⟩ (.slice A5 cl.length c5)) := hbw5.setCell (p := ⟨n0, 2, none⟩) (Nat.le_refl _) _
  have hz8 : n2 ≤ (w5.setCell ⟨n0, 2, none⟩ (.slice A5 cl.length c5)).heap.size := by simp [World.setCell]; exact hz5
  generalize w5.setCell ⟨n0, 2, none⟩ (.slice A5 cl.length c5) = w8 at hox8 hr8 hr18 hbw8 hz8 ⊢
  obtain ⟨g, cs, hA5, hg1, hg2, hgS, hcell, hfz, hrd⟩ := hox8.elem hkl
  subst hA5
  obtain ⟨D', c', rfl, _⟩ := cln_cs hrd
  have hcc : w8.cell? ⟨g, k * 3 + 2, none⟩ = some (.slice D' (cl[k]).2.2.length c') := hcell 2 _ rfl
  have hfz2 := hfz (k * 3 + 2)
  have hst := Own.storeO hox8 hkl (d := d) (D := D) (dc := dc) hdc.1 hdc.2 (HK4.out w8 hbw8)
  have hx2 := HX.out
  rw [hx2] at hst
  simp only at hst
  have HST := Lib.hid hst
  clear hst hx2 hrd hcell HOX hlt hfz
  obtain ⟨p0, p1, p2, pf⟩ := blk3 hr8
  have hk0 : (0 : Int) ≤ k := by omega
  have hkc : (k : Int) < cl.length := by omega
  go_upto_region 3 with (fail)
  change Code.wp _ _ _ _ (w8.setCell ⟨g, k * 3 + 2, none⟩ (.slice D d.length dc))
  clear hcc hfz2 p0 p1 p2 pf
  have hr9 := (heap_setCell_other w8 ⟨g, k * 3 + 2, none⟩ n0 (.slice D d.length dc) (by show n0 ≠ g; omega)).trans hr8
  have hr19 := (heap_setCell_other w8 ⟨g, k * 3 + 2, none⟩ (n0 + 1) (.slice D d.length dc) (by show n0 + 1 ≠ g; omega)).trans hr18
  have hbw9 : Below n0 w (w8.setCell ⟨g, k * 3 + 2, none⟩ (.slice D d.length dc)) := hbw8.setCell (p := ⟨g, k * 3 + 2, none⟩) (by show n0 ≤ g; omega) _
  have hz9 : (w8.setCell ⟨g, k * 3 + 2, none⟩ (.slice D d.length dc)).heap.size = w8.heap.size := by simp [World.setCell]
  have HO9 := HST.out
  generalize w8.setCell ⟨g, k * 3 + 2, none⟩ (.slice D d.length dc) = w9 at HO9 hr9 hr19 hbw9 hz9 ⊢
  obtain ⟨xl, hxl⟩ : ∃ xl, cl.set k (xn, xnum, d) = xl := ⟨_, rfl⟩
  have hlen : cl.length = xl.length := by rw [← hxl, List.length_set]
  have HXL := Lib.hid hxl
  rw [hxl] at HO9
  rw [hlen] at HO9 hr9
  obtain ⟨A8, c8, he8, y1, y2, y3⟩ := HO9.reads (S' := fun q => S q ∧ q < w9.heap.size ∧ q ≠ n0 + 1) (fun b hb => ⟨hb.1, by have := hb.2; omega, by have := hb.2; omega⟩) (fun b hb => ⟨HSN.out b (by have := (HO9.lt b hb).1; omega), (HO9.lt b hb).2, by have := (HO9.lt b hb).1; omega⟩)
  simp only [List.cons.injEq, Value.slice.injEq, and_true] at he8
  obtain ⟨rfl, _, rfl⟩ := he8
  have HCL : Hid (ClAt (((im, l), xl) : Cls) A c A2 c2 (some ⟨g, 0, none⟩) c5 (fun q => S q ∧ q < w9.heap.size ∧ q ≠ n0 + 1) w9) :=
    ⟨⟨hc.1, hc.2, (HK1.out w9 hbw9).more (fun g hg => ⟨hg.1, by have := hg.2; omega, by have := hg.2; omega⟩)⟩,
      ⟨hc2.1, hc2.2, (HK2.out w9 hbw9).more (fun g hg => ⟨hg.1, by have := hg.2; omega, by have := hg.2; omega⟩)⟩,
      ⟨y1, y2, y3⟩⟩
  have HBF : Hid (Below w.heap.size w w9) := hbw9.mono hN0.2
  clear y3 HO9 HST hxl hox8
  obtain ⟨q0, q1, q2, qf⟩ := blk3 hr9
  obtain ⟨v0, v1, v2, vf⟩ := blk3 hr19
  clear hlen
  go_wp2_with fail
  have hend := rw_end (w := w) (x := (((im, l), xl) : Cls)) (A := A) (c := c) (D := A2) (d := c2) (G := some ⟨g, 0, none⟩) (g := c5) hr19 (by omega) HBF.out HCL.out
  obtain ⟨hz, hret⟩ := hend
  change bodyPost _ _ _ _ _ (sw3 w9 (n0 + 1) (.slice A im.length c) (.slice A2 l.length c2) (.slice (some ⟨g, 0, none⟩) xl.length c5))
  simp only at hz hret
  generalize sw3 w9 (n0 + 1) (.slice A im.length c) (.slice A2 l.length c2) (.slice (some ⟨g, 0, none⟩) xl.length c5) = W3 at hz hret ⊢
  obtain ⟨z0, z1, z2, _⟩ := blk3 hz
  refine bodyPost_ret (v := .agg #[.slice A im.length c, .slice A2 l.length c2, .slice (some ⟨g, 0, none⟩) xl.length c5]) ?_ rfl (by rw [HXL.out]; exact hret)
  simp [results, Tryz.results67, Tryz.f67, go_sem, z0, z1, z2]
end Go.Proofs.YtgndgkjefgjamaaGreat
namespace Go.Proofs.YtgndgkjefgjamaaGreat
open Go.RowKit Go.Shelf
attribute [local go_sem] Oper.semAt_some

theorem wp_appAll {P : Program} {w : World} {α : Type} {E : Enc α} {t e : TypeId} {bytes : Nat} {o : Oper} {a : Act} {Q : Exit → Act → World → Prop} {K : Act → World → Prop} (hT : SliceTy P t e E.size bytes) (hgd : o.guard = none) (s x : Operand) (ho : o.op = .call { callee := .builtin .append, args := #[s, x], argTypes := #[t, t] })
    {base : Nat} {S : Nat → Prop} {v : Value} {l : List α} (hs : a.eval s = v) (hown : Own E w base e S v l) {ad : Option Addr} {c m : Nat} {news : List α} (hx : a.eval x = .slice ad m c)
    (hm : m = news.length) (hr : SlAt E w S ad news) (hS : ∀ b, S b → b < w.heap.size) (hbase : base ≤ w.heap.size)
    (h63 : l.length + m ≤ maxLen) (hbytes : (l.length + m) * bytes ≤ 140737488355328)
    (h : ∀ A c' w', Own E w' base e S (.slice A (l.length + m) c') (l ++ news) → w.grownBy w' v.ownBlock → ((Value.slice A (l.length + m) c').ownBlock = v.ownBlock ∨ (Value.slice A (l.length + m) c').ownBlock = some w.heap.size) → K (a.put o.dst (.slice A (l.length + m) c')) w') :
    Oper.wp P o a w K Q := by
  have h := step_appAll (ops := #[]) (Q := Q) (X := True) hT hgd s x ho hs hown hx hm hr hS hbase h63 hbytes h
  rwa [if_pos (by simp [Region.wanted, hgd])] at h
theorem wp_app1 {P : Program} {w : World} {α : Type} {E : Enc α} {t e : TypeId} {bytes : Nat} {o : Oper} {a : Act} {Q : Exit → Act → World → Prop} {K : Act → World → Prop} (hT : SliceTy P t e E.size bytes) (hgd : o.guard = none) (s x : Operand) (ho : o.op = .call { callee := .builtin .append, args := #[s, x], argTypes := #[t, t] })
    {base : Nat} {S : Nat → Prop} {v : Value} {l : List α} (hs : a.eval s = v) (hown : Own E w base e S v l) {b c : Nat} (y : α) (cs : List Value) (hx : a.eval x = .slice (some ⟨b, 0, none⟩) 1 c)
    (hcs : E.rd w S cs y) (hnews : w.heap[b]? = some (.cells cs.toArray e (0, 0))) (hS : ∀ b, S b → b < w.heap.size) (hbase : base ≤ w.heap.size)
    (h63 : l.length + 1 ≤ maxLen) (hbytes : (l.length + 1) * bytes ≤ 140737488355328)
    (h : ∀ A c' w', Own E w' base e S (.slice A (l.length + 1) c') (l ++ [y]) → w.grownBy w' v.ownBlock → ((Value.slice A (l.length + 1) c').ownBlock = v.ownBlock ∨ (Value.slice A (l.length + 1) c').ownBlock = some w.heap.size) → K (a.put o.dst (.slice A (l.length + 1) c')) w') :
    Oper.wp P o a w K Q := by
  have h := step_app1 (ops := #[]) (Q := Q) (X := True) hT hgd s x ho hs hown y cs hx hcs hnews hS hbase h63 hbytes h
  rwa [if_pos (by simp [Region.wanted, hgd])] at h
/-- a step of two that may come up -/
theorem refFold37 (A : Option Addr) (c n : Nat) (l r : List Wr) (hn : l.length = n) (hr : foldL l = r) (he : errOf placedN l = 0) (w : World) (h1 : SlAt encWr w (Bl w.heap.size) A l) (hs : n ≤ 9223372036854775807) :
    Calls Tryz.prog 66 #[.slice A n c] w (RetSlN encWr r 0 w) := by
  subst hn hr
  have h := refFold_any A c l w h1 hs
  rw [he] at h
  exact h
set_option maxHeartbeats 8000000 in
set_option maxRecDepth 100000 in
theorem rcWrite_any (A A2 A3 Dw : Option Addr) (c c2 c3 n m p dw wl : Nat) (im : Img) (l : List Snp) (cl : List Cln) (nm : ByteArray) (v s : Int) (data : List Sec) (w : World) (hn : im.length = n) (hm : l.length = m) (hp : cl.length = p) (hwl : data.length = wl) (hc : n ≤ c ∧ c ≤ maxLen) (hc2 : m ≤ c2 ∧ c2 ≤ maxLen) (hc3 : p ≤ c3 ∧ c3 ≤ maxLen) (h1 : SlAt (encSl encSec) w (Bl w.heap.size) A im) (h2 : SlAt encSnp w (Bl w.heap.size) A2 l) (h3 : SlAt encCln w (Bl w.heap.size) A3 cl) (h4 : SlAt encSec w (Bl w.heap.size) Dw data) (hL : ClLim (im, l) cl) (hvs : I64 v ∧ I64 s) (hdl : wl ≤ 1000000) (hdc : wl ≤ dw ∧ dw ≤ maxLen) :
    Calls Tryz.prog 20 #[.agg #[.slice A n c, .slice A2 m c2, .slice A3 p c3], .string nm, .agg #[.int .i64 v, .int .i64 s, .slice Dw wl dw]] w (RdCl (fun _ => True) (wrS ((im, l), cl) nm (v, s, data)) (wrE ((im, l), cl) nm (v, s, data)) w) := by
  subst hn hm hp hwl
  have HER : Hid (∀ q : Int, cfE ((im, l), cl) nm = q → q ≠ 0 → wrS ((im, l), cl) nm (v, s, data) = zCls ∧ wrE ((im, l), cl) nm (v, s, data) = q) := fun q h1 h2 => by
    have e : wrE ((im, l), cl) nm (v, s, data) = q := by rw [wrE, if_pos (by rw [h1]; exact h2)]; exact h1
    exact ⟨by rw [wrS, if_neg (by rw [e]; exact h2)], e⟩
  have h1' := h1
  have h2' := h2
  have h3' := h3
  have HK1 : Hid (∀ W, Below w.heap.size w W → SlAt (encSl encSec) W (Bl w.heap.size) A im) := fun W hb => h1'.below hb
  have HK2 : Hid (∀ W, Below w.heap.size w W → SlAt encSnp W (Bl w.heap.size) A2 l) := fun W hb => h2'.below hb
  have HK3 : Hid (∀ W, Below w.heap.size w W → SlAt encCln W (Bl w.heap.size) A3 cl) := fun W hb => h3'.below hb
  clear h1' h2' h3'
  have h4' := h4
  obtain ⟨n0, hn0⟩ : ∃ n0, w.heap.size = n0 := ⟨_, rfl⟩
  obtain ⟨W0, hW0⟩ : ∃ W0, ((w.alloc (.cells #[.slice A im.length c, .slice A2 l.length c2, .slice A3 cl.length c3] 29)).alloc (.cells #[.int .i64 v, .int .i64 s, .slice Dw data.length dw] 45)).alloc (.cells #[.slice none 0 0, .slice none 0 0, .slice none 0 0] 29) = W0 := ⟨_, rfl⟩
  have hB0 : Below n0 w W0 := by rw [← hW0, ← hn0]; repeat (first | exact Below.refl _ _ | refine ext_alloc ?_)
  have hr0 : W0.heap[n0]? = some (.cells #[.slice A im.length c, .slice A2 l.length c2, .slice A3 cl.length c3] 29 (0, 0)) := by rw [← hW0, ← hn0]; exact (Below.heap_alloc _ _ _ (by simp; omega)).trans ((Below.heap_alloc _ _ _ (by simp)).trans (heap_alloc_new _ _))
  have hr1 : W0.heap[n0 + 1 + 1]? = some (.cells #[.slice none 0 0, .slice none 0 0, .slice none 0 0] 29 (0, 0)) := by rw [← hW0, ← hn0]; exact heap_new3 _ _ _ _
  obtain ⟨n2, hn2⟩ : ∃ n2, W0.heap.size = n2 := ⟨_, rfl⟩
  have hn02 : n0 + 1 + 1 < n2 := by rw [← hn2]; exact (Array.getElem?_eq_some_iff.1 hr1).1
  have up : ∀ {α : Type} {E : Enc α} {A : Option Addr} {l : List α}, SlAt E w (Bl w.heap.size) A l → ∀ W, Below n2 W0 W → SlAt E W (Bl W.heap.size) A l := fun h W hb => by
    rw [hn0] at h
    exact (h.blk (fun g hg => (hb.block g (by have : g < n0 := hg; omega)).trans (hB0.block g hg))).more (fun g hg => by have : g < n0 := hg; have := hb.size; show g < W.heap.size; omega)
  have H1 := Lib.hid (up h1)
  have H2 := Lib.hid (up h2)
  have H3 := Lib.hid (up h3)
  have HC : Hid (∀ W, Below n2 W0 W → W.cell? ⟨n0, 0, none⟩ = some (.slice A im.length c) ∧ W.cell? ⟨n0, 1, none⟩ = some (.slice A2 l.length c2) ∧ W.cell? ⟨n0, 2, none⟩ = some (.slice A3 cl.length c3)) := fun W hb => by
    obtain ⟨a, b, d, _⟩ := blk3 ((hb.block _ (by omega)).trans hr0)
    exact ⟨a, b, d⟩
  have HRR : Hid (∀ W, Below n2 W0 W → W.heap[n0 + 1 + 1]? = some (.cells #[.slice none 0 0, .slice none 0 0, .slice none 0 0] 29 (0, 0))) := fun W hb => (hb.block _ (by omega)).trans hr1
  have HROW0 : Hid (∀ W, Below n2 W0 W → W.heap[n0]? = some (.cells #[.slice A im.length c, .slice A2 l.length c2, .slice A3 cl.length c3] 29 (0, 0))) := fun W hb => (hb.block _ (by omega)).trans hr0
  have HBW : Hid (∀ W, Below n2 W0 W → Below w.heap.size w W) := fun W hb => by rw [hn0]; exact hB0.trans (hb.mono (by omega))
  have HN0 := Lib.hid hn0
  have HN2 := Lib.hid hn2
  have hN0 : n0 ≤ w.heap.size ∧ w.heap.size ≤ n0 := by omega
  have hl1 := hL.sn.ims
  have hl2 := hL.sn.its
  have hl3 := hL.its
  have HLM := Lib.hid hL
  simp only at hl1 hl2
  obtain ⟨s0, hs0⟩ : ∃ s0, clE ((im, l), cl) = s0 := ⟨_, rfl⟩
  have HCK := Lib.hid (fun W (hb : Below n2 W0 W) => clCheck_any A A2 A3 c c2 c3 im.length l.length cl.length im l cl s0 W rfl rfl rfl hs0 (H1.out W hb) (H2.out W hb) (H3.out W hb) hl1 (by omega) (by omega))
  have HOW := Lib.hid (fun W (hb : Below n2 W0 W) => own37_any A A2 A3 c c2 c3 im.length l.length cl.length im l cl W rfl rfl rfl (H1.out W hb) (H2.out W hb) (H3.out W hb) HLM.out)
  have HS0 := Lib.hid hs0
  have hB00 := Below.refl n2 W0
  obtain ⟨p0, p1, p2⟩ := HC.out W0 hB00
  clear h1 h2 h3 up hB0 hL hr0 hr1 hs0
  clear HCK HOW
  have hrw : W0.heap[n0 + 1]? = some (.cells #[.int .i64 v, .int .i64 s, .slice Dw data.length dw] 45 (0, 0)) := by
    rw [← hW0, ← hn0]
    have h := heap_alloc_new (w.alloc (.cells #[.slice A im.length c, .slice A2 l.length c2, .slice A3 cl.length c3] 29)) (.cells #[.int .i64 v, .int .i64 s, .slice Dw data.length dw] 45)
    simp only [World.size_alloc] at h
    exact (Below.heap_alloc _ _ _ (by simp)).trans h
  have HWC : Hid (∀ W, Below n2 W0 W → W.cell? ⟨n0 + 1, 0, none⟩ = some (.int .i64 v) ∧ W.cell? ⟨n0 + 1, 1, none⟩ = some (.int .i64 s) ∧ W.cell? ⟨n0 + 1, 2, none⟩ = some (.slice Dw data.length dw)) := fun W hb => by
    obtain ⟨a, b, d, _⟩ := blk3 ((hb.block _ (by omega)).trans hrw)
    exact ⟨a, b, d⟩
  have HDD : Hid (∀ W, Below n2 W0 W → SlAt encSec W (Bl w.heap.size) Dw data) := fun W hb => h4'.below (HBW.out W hb)
  obtain ⟨fe, hfe⟩ : ∃ fe, fitsN (lens im) (v, s, data) = fe := ⟨_, rfl⟩
  have HFE := Lib.hid hfe
  clear h4 h4' hrw hfe
  have HCK0 := Lib.hid (rcCheck_any A A2 A3 c c2 c3 im.length l.length cl.length im l cl s0 W0 hc3.1 rfl rfl rfl HS0.out (H1.out W0 hB00) (H2.out W0 hB00) (H3.out W0 hB00) hl1 (by omega) (by omega))
  go_enter Tryz.func20, Tryz.ntmps20
  go_wp2_with fail
  refine HCK0.out.mono ?_
  rintro e w1 ⟨rfl, hb1⟩
  rw [HN2.out] at hb1
  clear p0 p1 p2 HCK0 hn2 hn0 hW0
  by_cases hx0 : s0 = 0
  case neg =>
    have hx0' : (s0 != 0) = true := by simp [hx0]
    have HF := Lib.hid (HER.out s0 (by rw [cfE, HS0.out, if_pos hx0]) hx0)
    clear hx0
    have hr1 := HRR.out w1 hb1
    obtain ⟨v0, v1, v2, vf⟩ := blk3 hr1
    go_wp2_with fail
    have hend := rd_end (w := w) (x := zCls) (A := none) (c := 0) (D := none) (d := 0) (G := none) (g := 0) hr1 (by omega) (HBW.out w1 hb1) (ClAt.zero (S := fun q => True ∧ q < w1.heap.size ∧ q ≠ n0 + 1 + 1)) s0
    obtain ⟨hz, hret⟩ := hend
    change bodyPost _ _ _ _ _ (sw3 w1 (n0 + 1 + 1) (.slice none (zCls).1.1.length 0) (.slice none (zCls).1.2.length 0) (.slice none (zCls).2.length 0))
    generalize sw3 w1 (n0 + 1 + 1) (.slice none (zCls).1.1.length 0) (.slice none (zCls).1.2.length 0) (.slice none (zCls).2.length 0) = W3 at hz hret ⊢
    obtain ⟨z0, z1, z2, _⟩ := blk3 hz
    refine bodyPost_ret (v := .tuple #[.agg #[.slice none (zCls).1.1.length 0, .slice none (zCls).1.2.length 0, .slice none (zCls).2.length 0], .int .i64 s0]) ?_ rfl ?_
    · simp [results, Tryz.results20, Tryz.f20, go_sem, z0, z1, z2, zCls, zSns]
    rw [HF.out.1, HF.out.2]; exact hret
  have hx0' : (s0 != 0) = false := by simp [hx0]
  obtain ⟨iv, hiv⟩ : ∃ iv, idxAt (isN nm) cl = iv := ⟨_, rfl⟩
  have HFD := Lib.hid (rcFind_any A3 c3 cl.length cl nm w1 rfl (H3.out w1 hb1) (by omega) iv hiv)
  have hcf := cf_cases (nm := nm) (show clE ((im, l), cl) = 0 by rw [HS0.out, hx0])
  have HCKE : Hid (clE ((im, l), cl) = 0) := by rw [Hid, HS0.out, hx0]
  simp only at hcf
  rw [hiv] at hcf
  subst hx0
  clear hiv
  obtain ⟨p0, p1, p2⟩ := HC.out w1 hb1
  go_wp2_with fail
  refine HFD.out.mono ?_
  rintro e w2 ⟨rfl, hb2⟩
  have hz1 := hb1.size
  have hbb2 : Below n2 W0 w2 := hb1.trans (hb2.mono (by have := HN2.out; omega))
  clear HFD p0 p1 p2 hb2
  rcases hcf with ⟨hiv, hce⟩ | ⟨k, hkl, hiv, hce, hcn, hca, hcm⟩
  · have HF := Lib.hid (HER.out 7 hce (by decide))
    clear hce
    subst hiv
    have hr1 := HRR.out w2 hbb2
    obtain ⟨v0, v1, v2, vf⟩ := blk3 hr1
    go_wp2_with fail
    have hend := rd_end (w := w) (x := zCls) (A := none) (c := 0) (D := none) (d := 0) (G := none) (g := 0) hr1 (by omega) (HBW.out w2 hbb2) (ClAt.zero (S := fun q => True ∧ q < w2.heap.size ∧ q ≠ n0 + 1 + 1)) 7
    obtain ⟨hz, hret⟩ := hend
    change bodyPost _ _ _ _ _ (sw3 w2 (n0 + 1 + 1) (.slice none (zCls).1.1.length 0) (.slice none (zCls).1.2.length 0) (.slice none (zCls).2.length 0))
    generalize sw3 w2 (n0 + 1 + 1) (.slice none (zCls).1.1.length 0) (.slice none (zCls).1.2.length 0) (.slice none (zCls).2.length 0) = W3 at hz hret ⊢
    obtain ⟨z0, z1, z2, _⟩ := blk3 hz
    refine bodyPost_ret (v := .tuple #[.agg #[.slice none (zCls).1.1.length 0, .slice none (zCls).1.2.length 0, .slice none (zCls).2.length 0], .int .i64 7]) ?_ rfl ?_
    · simp [results, Tryz.results20, Tryz.f20, go_sem, z0, z1, z2, zCls, zSns]
    rw [HF.out.1, HF.out.2]; exact hret
  subst hiv
  have hk0 : (0 : Int) ≤ k := by omega
  have hkn : ¬ (k : Int) < 0 := by omega
  have hkc : (k : Int) < cl.length := by omega
  have HCE := Lib.hid hce
  have HCN := Lib.hid hcn
  have HCA := Lib.hid hca
  have HCM := Lib.hid hcm
  clear hce hcn hca hcm
  have hb1 := hbb2
  clear hbb2
  obtain ⟨xv, hxv⟩ : ∃ x, cl[k]'hkl = x := ⟨_, rfl⟩
  have HXM : Hid (xv ∈ cl) := by rw [Hid, ← hxv]; exact List.getElem_mem hkl
  have HXA : Hid (cAt ((im, l), cl) nm = xv) := by rw [Hid, HCA.out]; exact hxv
  obtain ⟨b3, off3, Dx, dx, he3, hb3, g0, g1, g2, gD, gd1, gd2, gi1, gi2⟩ := (H3.out w2 hb1).cln hkl
  subst he3
  rw [hxv] at g0 g1 g2 gD gd1 gi1 gi2
  obtain ⟨xn, xnum, xs⟩ := xv
  simp only at g0 g1 g2 gD gd1 gi1 gi2
  have hb3' : b3 < w2.heap.size := hb3
  have HXC : Hid (∀ W, Below w2.heap.size w2 W → W.cell? ⟨b3, off3 + k * 3, none⟩ = some (.string xn) ∧ W.cell? ⟨b3, off3 + k * 3 + 1, none⟩ = some (.int .i64 xnum) ∧ W.cell? ⟨b3, off3 + k * 3 + 2, none⟩ = some (.slice Dx xs.length dx)) := fun W hb => ⟨(hb.cell (p := ⟨b3, off3 + k * 3, none⟩) hb3').trans g0, (hb.cell (p := ⟨b3, off3 + k * 3 + 1, none⟩) hb3').trans g1, (hb.cell (p := ⟨b3, off3 + k * 3 + 2, none⟩) hb3').trans g2⟩
  have HXS : Hid (∀ W, Below w2.heap.size w2 W → SlAt encWr W (Bl W.heap.size) Dx xs) := fun W hb => gD.fwd hb
  have HOC : Hid (∀ W, Below w2.heap.size w2 W → W.cell? ⟨n0, 0, none⟩ = some (.slice A im.length c) ∧ W.cell? ⟨n0, 1, none⟩ = some (.slice A2 l.length c2) ∧ W.cell? ⟨n0, 2, none⟩ = some (.slice (some ⟨b3, off3, none⟩) cl.length c3)) := fun W hb => HC.out W (hb1.trans (hb.mono (by have := hb1.size; have := HN2.out; omega)))
  have HBX : Hid (∀ W, Below w2.heap.size w2 W → Below n2 W0 W) := fun W hb => hb1.trans (hb.mono (by have := hb1.size; have := HN2.out; omega))
  clear g0 g1 g2 gD hb3
  obtain ⟨hf1, hf2, hf3⟩ := clE_fits HCKE.out
  obtain ⟨hf4, hf5⟩ := hf3 _ HXM.out
  simp only at hf4 hf5
  have HF1 := Lib.hid hf1
  have HF5 := Lib.hid hf5
  have HFT := Lib.hid (refFits07_any A c im.length data.length im v s Dw dw data fe w2 rfl rfl (H1.out w2 hb1) (by omega) (by omega) hvs.1 hvs.2 hf1 HFE.out)
  obtain ⟨p0, p1, p2⟩ := HC.out w2 hb1
  obtain ⟨y0, y1, y2⟩ := HWC.out w2 hb1
  clear hf1 hf2 hf3 hf4 hf5
  go_wp2_with fail
  refine HFT.out.mono ?_
  rintro e w3 ⟨rfl, hb3⟩
  have hbb3 := HBX.out w3 hb3
  clear p0 p1 p2 y0 y1 y2 HFT
  by_cases hfe0 : fe = 0
  case neg =>
    have hfe' : (fe != 0) = true := by simp [hfe0]
    have HE2 : Hid (wrE ((im, l), cl) nm (v, s, data) = fe) := by rw [Hid, wrE, HCE.out, if_neg (by simp)]; exact HFE.out
    have HT : Hid (wrS ((im, l), cl) nm (v, s, data) = zCls) := by rw [Hid, wrS, if_neg (by rw [HE2.out]; exact hfe0)]
    clear hfe0
    have hr3 := HRR.out w3 hbb3
    obtain ⟨v0, v1, v2, vf⟩ := blk3 hr3
    go_wp2_with fail
    have hend := rd_end (w := w) (x := zCls) (A := none) (c := 0) (D := none) (d := 0) (G := none) (g := 0) hr3 (by omega) (HBW.out w3 hbb3) (ClAt.zero (S := fun q => True ∧ q < w3.heap.size ∧ q ≠ n0 + 1 + 1)) fe
    obtain ⟨hz, hret⟩ := hend
    change bodyPost _ _ _ _ _ (sw3 w3 (n0 + 1 + 1) (.slice none (zCls).1.1.length 0) (.slice none (zCls).1.2.length 0) (.slice none (zCls).2.length 0))
    generalize sw3 w3 (n0 + 1 + 1) (.slice none (zCls).1.1.length 0) (.slice none (zCls).1.2.length 0) (.slice none (zCls).2.length 0) = W3 at hz hret ⊢
    obtain ⟨z0, z1, z2, _⟩ := blk3 hz
    refine bodyPost_ret (v := .tuple #[.agg #[.slice none (zCls).1.1.length 0, .slice none (zCls).1.2.length 0, .slice none (zCls).2.length 0], .int .i64 fe]) ?_ rfl ?_
    · simp [results, Tryz.results20, Tryz.f20, go_sem, z0, z1, z2, zCls, zSns]
    rw [HT.out, HE2.out]; exact hret
  have hfe' : (fe != 0) = false := by simp [hfe0]
  have HE2 : Hid (wrE ((im, l), cl) nm (v, s, data) = 0) := by rw [Hid, wrE, HCE.out, if_neg (by simp)]; exact HFE.out.trans hfe0
  have hfit : fitsN (lens im) (v, s, data) = 0 := HFE.out.trans hfe0
  subst hfe0
  obtain ⟨rr, hrr⟩ : ∃ rr, foldL (xs ++ [(v, s, data)]) = rr := ⟨_, rfl⟩
  have hpl : errOf placedN (xs ++ [(v, s, data)]) = 0 := errOf_zero (fun x hx => by
    rcases List.mem_append.1 hx with hx | hx
    · exact fits_placed1 HF1.out (HF5.out x hx)
    · rw [List.mem_singleton.1 hx]; exact fits_placed1 HF1.out hfit)
  have hxl : xs.length ≤ 100000 := (HLM.out.ovl _ HXM.out).1
  have HPL := Lib.hid hpl
  have HFO := Lib.hid hrr
  have HXV := Lib.hid hxv
  have HB3 := Lib.hid hbb3
  have HOC3 : Hid (∀ W, Below w3.heap.size w3 W → W.cell? ⟨n0, 0, none⟩ = some (.slice A im.length c) ∧ W.cell? ⟨n0, 1, none⟩ = some (.slice A2 l.length c2) ∧ W.cell? ⟨n0, 2, none⟩ = some (.slice (some ⟨b3, off3, none⟩) cl.length c3)) := fun W hb => HOC.out W (ext_trans hb3 hb)
  have HXC3 : Hid (∀ W, Below w3.heap.size w3 W → W.cell? ⟨b3, off3 + k * 3, none⟩ = some (.string xn) ∧ W.cell? ⟨b3, off3 + k * 3 + 1, none⟩ = some (.int .i64 xnum) ∧ W.cell? ⟨b3, off3 + k * 3 + 2, none⟩ = some (.slice Dx xs.length dx)) := fun W hb => HXC.out W (ext_trans hb3 hb)
  have HWC3 : Hid (∀ W, Below w3.heap.size w3 W → W.cell? ⟨n0 + 1, 0, none⟩ = some (.int .i64 v) ∧ W.cell? ⟨n0 + 1, 1, none⟩ = some (.int .i64 s) ∧ W.cell? ⟨n0 + 1, 2, none⟩ = some (.slice Dw data.length dw)) := fun W hb => HWC.out W (HBX.out W (ext_trans hb3 hb))
  have hx2 := HXS.out w2 (Below.refl _ _)
  have HXS3 : Hid (∀ W, Below w3.heap.size w3 W → SlAt encWr W (fun q => q < w3.heap.size) Dx xs) := fun W hb => (hx2.below (ext_trans hb3 hb)).more (fun q hq => by have : q < w2.heap.size := hq; have := hb3.size; show q < w3.heap.size; omega)
  have HD3 : Hid (∀ W, Below w3.heap.size w3 W → SlAt encSec W (fun q => q < w3.heap.size) Dw data) := fun W hb => (HDD.out W (HBX.out W (ext_trans hb3 hb))).more (fun q hq => by have : q < w.heap.size := hq; have := (HBW.out w3 hbb3).size; show q < w3.heap.size; omega)
  have hSw : Below w3.heap.size w3 w3.drew := (Below.refl _ _).drew
  clear hpl hrr hfit hxv hx2 HOC HXC HXS
  go_upto_region 10 with (fail)
  go_cut [11, 12] (fun e f wx => f = .int .i64 0 ∧ ∃ A8 c8, e = .slice A8 rr.length c8 ∧ rr.length ≤ c8 ∧ c8 ≤ maxLen ∧ SlAt encWr wx (fun q => n2 ≤ q ∧ q < wx.heap.size) A8 rr ∧ Below n2 W0 wx)
  case first =>
    refine wp_region_U (fun W' => Below w3.heap.size w3 W') 16 (by kernel_rfl) ?_
    refine wpAnyU_takeD (i := 1) (v := ?_) rfl rfl (by kernel_rfl) (by kernel_rfl) (by kernel_rfl) (by kernel_rfl) (fun _ _ _ h => h) (by rfl) ?_ hSw ?_
    rotate_left 1
    · intro W9 hW9
      try dsimp only at hW9
      obtain _ := trivial
      go_simp
      try with_reducible rfl
    try simp only [List.setIfInBounds_toArray, List.set_cons_zero, List.set_cons_succ]
    refine wpAnyU_takeD (i := 2) (v := ?_) rfl rfl (by kernel_rfl) (by kernel_rfl) (by kernel_rfl) (by kernel_rfl) (fun _ _ _ h => h) (by rfl) ?_ hSw ?_
    rotate_left 1
    · intro W9 hW9
      try dsimp only at hW9
      obtain ⟨q0, q1, q2⟩ := HOC3.out W9 hW9
      go_simp
      try with_reducible rfl
    try simp only [List.setIfInBounds_toArray, List.set_cons_zero, List.set_cons_succ]
    refine wpAnyU_takeD (i := 3) (v := ?_) rfl rfl (by kernel_rfl) (by kernel_rfl) (by kernel_rfl) (by kernel_rfl) (fun _ _ _ h => h) (by rfl) ?_ hSw ?_
    rotate_left 1
    · intro W9 hW9
      try dsimp only at hW9
      obtain _ := trivial
      go_simp
      try with_reducible rfl
    try simp only [List.setIfInBounds_toArray, List.set_cons_zero, List.set_cons_succ]
    refine wpAnyU_takeD (i := 4) (v := ?_) rfl rfl (by kernel_rfl) (by kernel_rfl) (by kernel_rfl) (by kernel_rfl) (fun _ _ _ h => h) (by rfl) ?_ hSw ?_
    rotate_left 1
    · intro W9 hW9
      try dsimp only at hW9
      obtain _ := trivial
      go_simp
      try with_reducible rfl
    try simp only [List.setIfInBounds_toArray, List.set_cons_zero, List.set_cons_succ]
    refine wpAnyU_takeD (i := 5) (v := ?_) rfl rfl (by kernel_rfl) (by kernel_rfl) (by kernel_rfl) (by kernel_rfl) (fun _ _ _ h => h) (by rfl) ?_ hSw ?_
    rotate_left 1
    · intro W9 hW9
      try dsimp only at hW9
      obtain _ := trivial
      go_simp
      try with_reducible rfl
    try simp only [List.setIfInBounds_toArray, List.set_cons_zero, List.set_cons_succ]
    refine wpAnyU_takeD (i := 6) (v := ?_) rfl rfl (by kernel_rfl) (by kernel_rfl) (by kernel_rfl) (by kernel_rfl) (fun _ _ _ h => h) (by rfl) ?_ hSw ?_
    rotate_left 1
    · intro W9 hW9
      try dsimp only at hW9
      obtain ⟨q0, q1, q2⟩ := HXC3.out W9 hW9
      go_simp
      try with_reducible rfl
    try simp only [List.setIfInBounds_toArray, List.set_cons_zero, List.set_cons_succ]
    refine wpAnyU_takeD (i := 8) (v := ?_) rfl rfl (by kernel_rfl) (by kernel_rfl) (by kernel_rfl) (by kernel_rfl) (fun _ _ _ h => h) (by rfl) ?_ hSw ?_
    rotate_left 1
    · intro W9 hW9
      try dsimp only at hW9
      obtain ⟨q0, q1, q2⟩ := HWC3.out W9 hW9
      go_simp
      try with_reducible rfl
    try simp only [List.setIfInBounds_toArray, List.set_cons_zero, List.set_cons_succ]
    refine wpAnyU_two (i := 0) (j := 9) (by kernel_rfl) rfl rfl rfl rfl (fun K hK => ?_) (fun K hK => ?_)
    · -- the empty slice has been laid at W
      have hSe : Below w3.heap.size w3 (w3.drew.alloc (.cells #[] 45)) := hSw.alloc hSw.size _
      have hOe : Own encWr (w3.drew.alloc (.cells #[] 45)) w3.heap.size 45 (fun q => q < w3.heap.size) (.slice (some ⟨w3.heap.size, 0, none⟩) 0 0) [] := Own.make0 (w := w3.drew) (cur := #[]) hSw.size (by unfold maxLen; omega) rfl (fun h => by have h2 : w3.drew.heap.size < w3.heap.size := h; have := hSw.size; omega)
      have hze : w3.heap.size < (w3.drew.alloc (.cells #[] 45)).heap.size ∧ w3.heap.size ≤ w3.heap.size := ⟨by show w3.drew.heap.size < _; simp, hSw.size⟩
      go_simp
      refine hK.out _ _ (fun _ => hSe) ?_
      clear hK K
      try simp only [Act.put, List.setIfInBounds_toArray, List.set_cons_zero, List.set_cons_succ]
      change wpAnyU _ _ _ _ _ _ _ _ _ (w3.drew.alloc (.cells #[] 45))
      generalize w3.drew.alloc (.cells #[] 45) = We at hSe hOe hze ⊢
      refine wpAnyU_two (i := 7) (j := 9) (by kernel_rfl) rfl rfl rfl rfl (fun K hK => ?_) (fun K hK => ?_)
      · refine wp_appAll (E := encWr) tyWrs rfl _ _ rfl rfl hOe (news := xs) rfl rfl (HXS3.out _ hSe) (fun b hb => by have : b < w3.heap.size := hb; have := hSe.size; omega) (hSe.size) (by unfold maxLen; simp; omega) (by simp; omega) ?_
        intro A7 c7 w7 hown7 hg7 hat7
        simp only [List.length_nil, Nat.zero_add, List.nil_append] at hown7
        have hS7 : Below w3.heap.size w3 w7 := hSe.grown hg7 (hSe.size) (fun b hb => (Own.lt hOe b hb).1)
        refine hK.out _ _ (fun _ => hS7) ?_
        clear hK K
        try simp only [Act.put, List.setIfInBounds_toArray, List.set_cons_zero, List.set_cons_succ]
        simp only [List.length_nil, Nat.zero_add]
        have hl7 := hown7.lt
        have hSA : Below w3.heap.size w3 (w7.alloc (.cells #[.int .i64 v, .int .i64 s, .slice Dw data.length dw] 45)) := hS7.alloc hS7.size _
        have hrA : (w7.alloc (.cells #[.int .i64 v, .int .i64 s, .slice Dw data.length dw] 45)).heap[w7.heap.size]? = some (.cells #[.int .i64 v, .int .i64 s, .slice Dw data.length dw] 45 (0, 0)) := heap_alloc_new w7 _
        have hkA : ∀ x, x < w7.heap.size → (w7.alloc (.cells #[.int .i64 v, .int .i64 s, .slice Dw data.length dw] 45)).heap[x]? = w7.heap[x]? := fun x hx => Below.heap_alloc w7 _ x hx
        have hzA : w7.heap.size < (w7.alloc (.cells #[.int .i64 v, .int .i64 s, .slice Dw data.length dw] 45)).heap.size := (Array.getElem?_eq_some_iff.1 hrA).1
        refine wpAnyU_op (i := 9) (by kernel_rfl) rfl rfl (fun K hK => ?_)
        go_simp
        refine hK.out _ _ (fun _ => hSA) ?_
        clear hK K
        try simp only [Act.put, List.setIfInBounds_toArray, List.set_cons_zero, List.set_cons_succ]
        change wpAnyU _ _ _ _ _ _ _ _ _ (w7.alloc (.cells #[.int .i64 v, .int .i64 s, .slice Dw data.length dw] 45))
        generalize w7.alloc (.cells #[.int .i64 v, .int .i64 s, .slice Dw data.length dw] 45) = WA at hSA hrA hkA hzA ⊢
        have hOA := Lib.hid (hown7.blk (w' := WA) (fun b hb => hkA b (by
          rcases hb with hb | hb
          · have : b < w3.heap.size := hb; have := hS7.size; omega
          · exact (hl7 b hb).2)))
        clear hg7 hat7 hown7 hOe hl7 hkA
        refine wpAnyU_op (i := 10) (by kernel_rfl) rfl rfl (fun K hK => ?_)
        refine wp_app1 (E := encWr) tyWrs rfl _ _ rfl rfl hOA.out (v, s, data) [.int .i64 v, .int .i64 s, .slice Dw data.length dw] rfl (wr_mk (x := (v, s, data)) hvs.1 hvs.2 hdc.1 hdc.2 (HD3.out _ hSA)) hrA (fun b hb => by have : b < w3.heap.size := hb; have := hSA.size; omega) (hSA.size) (by unfold maxLen; omega) (by omega) ?_
        intro A8 c8 w8 hown8 hg8 hat8
        have hS8 : Below w3.heap.size w3 w8 := hSA.grown hg8 (hSA.size) (fun b hb => (Own.lt hOA.out b hb).1)
        have hSl8 : SlAt encWr w8 (Bl w8.heap.size) A8 (xs ++ [(v, s, data)]) := by
          obtain ⟨A', c', he, _, _, h3⟩ := hown8.reads (S' := Bl w8.heap.size) (fun b hb => by have : b < w3.heap.size := hb; have := hS8.size; show b < w8.heap.size; omega) (fun b hb => (hown8.lt b hb).2)
          simp only [List.cons.injEq, Value.slice.injEq, and_true] at he
          obtain ⟨rfl, _, _⟩ := he
          exact h3
        refine hK.out _ _ (fun _ => hS8) ?_
        clear hK K
        try simp only [Act.put, List.setIfInBounds_toArray, List.set_cons_zero, List.set_cons_succ]
        have HFD := Lib.hid (refFold37 A8 c8 (xs.length + 1) (xs ++ [(v, s, data)]) rr (by simp) HFO.out HPL.out w8 hSl8 (by omega))
        clear hown8 hat8 hg8 hSl8
        obtain ⟨xn1, hxn1⟩ : ∃ n, xs.length + 1 = n := ⟨_, rfl⟩
        rw [hxn1] at HFD ⊢
        clear hxn1
        refine wpAnyU_op (i := 11) (by kernel_rfl) rfl rfl (fun K hK => ?_)
        go_wp2_with fail
        refine (HFD.out).mono ?_
        rintro e w9 ⟨A9, c9, rfl, f1, f2, f3, hb9⟩
        refine hK.out _ _ (fun _ => (hS8.trans (hb9.mono hS8.size))) ?_
        clear hK K
        try simp only [Act.put, List.setIfInBounds_toArray, List.set_cons_zero, List.set_cons_succ]
        have hS9 : Below w3.heap.size w3 w9 := hS8.trans (hb9.mono hS8.size)
        refine wpAnyU_op (i := 12) (by kernel_rfl) rfl rfl (fun K hK => ?_)
        go_simp
        refine hK.out _ _ (fun _ => hS9) ?_
        clear hK K
        try simp only [Act.put, List.setIfInBounds_toArray, List.set_cons_zero, List.set_cons_succ]
        clear hSw
        have hSw := hS9
        refine wpAnyU_takeD (i := 13) (v := ?_) rfl rfl (by kernel_rfl) (by kernel_rfl) (by kernel_rfl) (by kernel_rfl) (fun _ _ _ h => h) (by rfl) ?_ hSw ?_
        rotate_left 1
        · intro W9 hW9
          try dsimp only at hW9
          obtain _ := trivial
          go_simp
          try with_reducible rfl
        try simp only [List.setIfInBounds_toArray, List.set_cons_zero, List.set_cons_succ]
        refine wpAnyU_takeD (i := 14) (v := ?_) rfl rfl (by kernel_rfl) (by kernel_rfl) (by kernel_rfl) (by kernel_rfl) (fun _ _ _ h => h) (by rfl) ?_ hSw ?_
        rotate_left 1
        · intro W9 hW9
          try dsimp only at hW9
          obtain _ := trivial
          go_simp
          try with_reducible rfl
        try simp only [List.setIfInBounds_toArray, List.set_cons_zero, List.set_cons_succ]
        refine wpAnyU_op (i := 15) (by kernel_rfl) rfl rfl (fun K hK => ?_)
        go_simp
        refine hK.out _ _ (fun _ => hS9) ?_
        clear hK K
        try simp only [Act.put, List.setIfInBounds_toArray, List.set_cons_zero, List.set_cons_succ]
        refine wpAnyU_op (i := 16) (by kernel_rfl) rfl rfl (fun K hK => ?_)
        go_simp
        refine hK.out _ _ (fun _ => hS9) ?_
        clear hK K
        try simp only [Act.put, List.setIfInBounds_toArray, List.set_cons_zero, List.set_cons_succ]
        refine wpAnyU_done (by kernel_rfl) ?_ _
        go_wp2
        go_meet
        exact ⟨rfl, A9, c9, rfl, f1, f2, f3.more (fun b hb => ⟨by have := hb.1; have := hS8.size; have := HB3.out.size; have := HN2.out; omega, hb.2⟩), HB3.out.trans (hS9.mono (by have := HB3.out.size; have := HN2.out; omega))⟩
      · have hSA : Below w3.heap.size w3 (We.alloc (.cells #[.int .i64 v, .int .i64 s, .slice Dw data.length dw] 45)) := hSe.alloc hSe.size _
        have hrA : (We.alloc (.cells #[.int .i64 v, .int .i64 s, .slice Dw data.length dw] 45)).heap[We.heap.size]? = some (.cells #[.int .i64 v, .int .i64 s, .slice Dw data.length dw] 45 (0, 0)) := heap_alloc_new We _
        have hkA : ∀ x, x < We.heap.size → (We.alloc (.cells #[.int .i64 v, .int .i64 s, .slice Dw data.length dw] 45)).heap[x]? = We.heap[x]? := fun x hx => Below.heap_alloc We _ x hx
        have hzA : We.heap.size < (We.alloc (.cells #[.int .i64 v, .int .i64 s, .slice Dw data.length dw] 45)).heap.size := (Array.getElem?_eq_some_iff.1 hrA).1
        have hlO := hOe.lt
        go_simp
        refine hK.out _ _ (fun _ => hSA) ?_
        clear hK K
        try simp only [Act.put, List.setIfInBounds_toArray, List.set_cons_zero, List.set_cons_succ]
        change wpAnyU _ _ _ _ _ _ _ _ _ (We.alloc (.cells #[.int .i64 v, .int .i64 s, .slice Dw data.length dw] 45))
        generalize We.alloc (.cells #[.int .i64 v, .int .i64 s, .slice Dw data.length dw] 45) = WA at hSA hrA hkA hzA ⊢
        have hOA : Own encWr WA w3.heap.size 45 (fun q => q < w3.heap.size) (.slice (some ⟨w3.heap.size, 0, none⟩) 0 0) [] := hOe.blk (fun b hb => hkA b (by
          rcases hb with hb | hb
          · have : b < w3.heap.size := hb; omega
          · exact (hlO b hb).2))
        refine wpAnyU_op (i := 7) (by kernel_rfl) rfl rfl (fun K hK => ?_)
        refine wp_appAll (E := encWr) tyWrs rfl _ _ rfl rfl hOA (news := xs) rfl rfl (HXS3.out _ hSA) (fun b hb => by have : b < w3.heap.size := hb; have := hSA.size; omega) (hSA.size) (by unfold maxLen; simp; omega) (by simp; omega) ?_
        intro A7 c7 w7 hown7 hg7 hat7
        simp only [List.length_nil, Nat.zero_add, List.nil_append] at hown7
        have hS7 : Below w3.heap.size w3 w7 := hSA.grown hg7 (hSA.size) (fun b hb => (Own.lt hOA b hb).1)
        refine hK.out _ _ (fun _ => hS7) ?_
        clear hK K
        try simp only [Act.put, List.setIfInBounds_toArray, List.set_cons_zero, List.set_cons_succ]
        simp only [List.length_nil, Nat.zero_add]
        have hrB := (hg7.block We.heap.size hzA (fun e => by have := (hlO _ e.symm).2; omega)).trans hrA
        clear hg7 hat7 hOe hOA hkA hlO
        have HOB := Lib.hid hown7
        clear hown7
        refine wpAnyU_op (i := 10) (by kernel_rfl) rfl rfl (fun K hK => ?_)
        refine wp_app1 (E := encWr) tyWrs rfl _ _ rfl rfl HOB.out (v, s, data) [.int .i64 v, .int .i64 s, .slice Dw data.length dw] rfl (wr_mk (x := (v, s, data)) hvs.1 hvs.2 hdc.1 hdc.2 (HD3.out _ hS7)) hrB (fun b hb => by have : b < w3.heap.size := hb; have := hS7.size; omega) (hS7.size) (by unfold maxLen; omega) (by omega) ?_
        intro A8 c8 w8 hown8 hg8 hat8
        have hS8 : Below w3.heap.size w3 w8 := hS7.grown hg8 (hS7.size) (fun b hb => (Own.lt HOB.out b hb).1)
        have hSl8 : SlAt encWr w8 (Bl w8.heap.size) A8 (xs ++ [(v, s, data)]) := by
          obtain ⟨A', c', he, _, _, h3⟩ := hown8.reads (S' := Bl w8.heap.size) (fun b hb => by have : b < w3.heap.size := hb; have := hS8.size; show b < w8.heap.size; omega) (fun b hb => (hown8.lt b hb).2)
          simp only [List.cons.injEq, Value.slice.injEq, and_true] at he
          obtain ⟨rfl, _, _⟩ := he
          exact h3
        refine hK.out _ _ (fun _ => hS8) ?_
        clear hK K
        try simp only [Act.put, List.setIfInBounds_toArray, List.set_cons_zero, List.set_cons_succ]
        have HFD := Lib.hid (refFold37 A8 c8 (xs.length + 1) (xs ++ [(v, s, data)]) rr (by simp) HFO.out HPL.out w8 hSl8 (by omega))
        clear hown8 hat8 hg8 hSl8
        obtain ⟨xn1, hxn1⟩ : ∃ n, xs.length + 1 = n := ⟨_, rfl⟩
        rw [hxn1] at HFD ⊢
        clear hxn1
        refine wpAnyU_op (i := 11) (by kernel_rfl) rfl rfl (fun K hK => ?_)
        go_wp2_with fail
        refine (HFD.out).mono ?_
        rintro e w9 ⟨A9, c9, rfl, f1, f2, f3, hb9⟩
        refine hK.out _ _ (fun _ => (hS8.trans (hb9.mono hS8.size))) ?_
        clear hK K
        try simp only [Act.put, List.setIfInBounds_toArray, List.set_cons_zero, List.set_cons_succ]
        have hS9 : Below w3.heap.size w3 w9 := hS8.trans (hb9.mono hS8.size)
        refine wpAnyU_op (i := 12) (by kernel_rfl) rfl rfl (fun K hK => ?_)
        go_simp
        refine hK.out _ _ (fun _ => hS9) ?_
        clear hK K
        try simp only [Act.put, List.setIfInBounds_toArray, List.set_cons_zero, List.set_cons_succ]
        clear hSw
        have hSw := hS9
        refine wpAnyU_takeD (i := 13) (v := ?_) rfl rfl (by kernel_rfl) (by kernel_rfl) (by kernel_rfl) (by kernel_rfl) (fun _ _ _ h => h) (by rfl) ?_ hSw ?_
        rotate_left 1
        · intro W9 hW9
          try dsimp only at hW9
          obtain _ := trivial
          go_simp
          try with_reducible rfl
        try simp only [List.setIfInBounds_toArray, List.set_cons_zero, List.set_cons_succ]
        refine wpAnyU_takeD (i := 14) (v := ?_) rfl rfl (by kernel_rfl) (by kernel_rfl) (by kernel_rfl) (by kernel_rfl) (fun _ _ _ h => h) (by rfl) ?_ hSw ?_
        rotate_left 1
        · intro W9 hW9
          try dsimp only at hW9
          obtain _ := trivial
          go_simp
          try with_reducible rfl
        try simp only [List.setIfInBounds_toArray, List.set_cons_zero, List.set_cons_succ]
        refine wpAnyU_op (i := 15) (by kernel_rfl) rfl rfl (fun K hK => ?_)
        go_simp
        refine hK.out _ _ (fun _ => hS9) ?_
        clear hK K
        try simp only [Act.put, List.setIfInBounds_toArray, List.set_cons_zero, List.set_cons_succ]
        refine wpAnyU_op (i := 16) (by kernel_rfl) rfl rfl (fun K hK => ?_)
        go_simp
        refine hK.out _ _ (fun _ => hS9) ?_
        clear hK K
        try simp only [Act.put, List.setIfInBounds_toArray, List.set_cons_zero, List.set_cons_succ]
        refine wpAnyU_done (by kernel_rfl) ?_ _
        go_wp2
        go_meet
        exact ⟨rfl, A9, c9, rfl, f1, f2, f3.more (fun b hb => ⟨by have := hb.1; have := hS8.size; have := HB3.out.size; have := HN2.out; omega, hb.2⟩), HB3.out.trans (hS9.mono (by have := HB3.out.size; have := HN2.out; omega))⟩
    · have hSA : Below w3.heap.size w3 (w3.drew.alloc (.cells #[.int .i64 v, .int .i64 s, .slice Dw data.length dw] 45)) := hSw.alloc hSw.size _
      have hrA : (w3.drew.alloc (.cells #[.int .i64 v, .int .i64 s, .slice Dw data.length dw] 45)).heap[w3.heap.size]? = some (.cells #[.int .i64 v, .int .i64 s, .slice Dw data.length dw] 45 (0, 0)) := heap_alloc_new w3.drew _
      have hkA : ∀ x, x < w3.heap.size → (w3.drew.alloc (.cells #[.int .i64 v, .int .i64 s, .slice Dw data.length dw] 45)).heap[x]? = w3.drew.heap[x]? := fun x hx => Below.heap_alloc w3.drew _ x hx
      have hzA : w3.heap.size < (w3.drew.alloc (.cells #[.int .i64 v, .int .i64 s, .slice Dw data.length dw] 45)).heap.size := (Array.getElem?_eq_some_iff.1 hrA).1
      go_simp
      refine hK.out _ _ (fun _ => hSA) ?_
      clear hK K
      try simp only [Act.put, List.setIfInBounds_toArray, List.set_cons_zero, List.set_cons_succ]
      change wpAnyU _ _ _ _ _ _ _ _ _ (w3.drew.alloc (.cells #[.int .i64 v, .int .i64 s, .slice Dw data.length dw] 45))
      generalize w3.drew.alloc (.cells #[.int .i64 v, .int .i64 s, .slice Dw data.length dw] 45) = WA at hSA hrA hkA hzA ⊢
      -- the empty slice has been laid at W
      have hSe : Below w3.heap.size w3 (WA.alloc (.cells #[] 45)) := hSA.alloc hSA.size _
      have hOe : Own encWr (WA.alloc (.cells #[] 45)) w3.heap.size 45 (fun q => q < w3.heap.size) (.slice (some ⟨WA.heap.size, 0, none⟩) 0 0) [] := Own.make0 (w := WA) (cur := #[]) hSA.size (by unfold maxLen; omega) rfl (fun h => by have h2 : WA.heap.size < w3.heap.size := h; have := hSA.size; omega)
      have hze : WA.heap.size < (WA.alloc (.cells #[] 45)).heap.size ∧ w3.heap.size ≤ WA.heap.size := ⟨by show WA.heap.size < _; simp, hSA.size⟩
      have hrE := (Below.heap_alloc WA (.cells #[] 45) w3.heap.size hzA).trans hrA
      refine wpAnyU_op (i := 0) (by kernel_rfl) rfl rfl (fun K hK => ?_)
      go_simp
      refine hK.out _ _ (fun _ => hSe) ?_
      clear hK K
      try simp only [Act.put, List.setIfInBounds_toArray, List.set_cons_zero, List.set_cons_succ]
      change wpAnyU _ _ _ _ _ _ _ _ _ (WA.alloc (.cells #[] 45))
      generalize WA.alloc (.cells #[] 45) = We at hSe hOe hze hrE ⊢
      have hlO := hOe.lt
      refine wpAnyU_op (i := 7) (by kernel_rfl) rfl rfl (fun K hK => ?_)
      refine wp_appAll (E := encWr) tyWrs rfl _ _ rfl rfl hOe (news := xs) rfl rfl (HXS3.out _ hSe) (fun b hb => by have : b < w3.heap.size := hb; have := hSe.size; omega) (hSe.size) (by unfold maxLen; simp; omega) (by simp; omega) ?_
      intro A7 c7 w7 hown7 hg7 hat7
      simp only [List.length_nil, Nat.zero_add, List.nil_append] at hown7
      have hS7 : Below w3.heap.size w3 w7 := hSe.grown hg7 (hSe.size) (fun b hb => (Own.lt hOe b hb).1)
      refine hK.out _ _ (fun _ => hS7) ?_
      clear hK K
      try simp only [Act.put, List.setIfInBounds_toArray, List.set_cons_zero, List.set_cons_succ]
      simp only [List.length_nil, Nat.zero_add]
      have hrB := (hg7.block w3.heap.size (by omega) (fun e => by have e' : WA.heap.size = w3.heap.size := (Option.some.inj e).symm; omega)).trans hrE
      clear hg7 hat7 hOe hkA hlO hrE
      have HOB := Lib.hid hown7
      clear hown7
      refine wpAnyU_op (i := 10) (by kernel_rfl) rfl rfl (fun K hK => ?_)
      refine wp_app1 (E := encWr) tyWrs rfl _ _ rfl rfl HOB.out (v, s, data) [.int .i64 v, .int .i64 s, .slice Dw data.length dw] rfl (wr_mk (x := (v, s, data)) hvs.1 hvs.2 hdc.1 hdc.2 (HD3.out _ hS7)) hrB (fun b hb => by have : b < w3.heap.size := hb; have := hS7.size; omega) (hS7.size) (by unfold maxLen; omega) (by omega) ?_
      intro A8 c8 w8 hown8 hg8 hat8
      have hS8 : Below w3.heap.size w3 w8 := hS7.grown hg8 (hS7.size) (fun b hb => (Own.lt HOB.out b hb).1)
      have hSl8 : SlAt encWr w8 (Bl w8.heap.size) A8 (xs ++ [(v, s, data)]) := by
        obtain ⟨A', c', he, _, _, h3⟩ := hown8.reads (S' := Bl w8.heap.size) (fun b hb => by have : b < w3.heap.size := hb; have := hS8.size; show b < w8.heap.size; omega) (fun b hb => (hown8.lt b hb).2)
        simp only [List.cons.injEq, Value.slice.injEq, and_true] at he
        obtain ⟨rfl, _, _⟩ := he
        exact h3
      refine hK.out _ _ (fun _ => hS8) ?_
      clear hK K
      try simp only [Act.put, List.setIfInBounds_toArray, List.set_cons_zero, List.set_cons_succ]
      have HFD := Lib.hid (refFold37 A8 c8 (xs.length + 1) (xs ++ [(v, s, data)]) rr (by simp) HFO.out HPL.out w8 hSl8 (by omega))
      clear hown8 hat8 hg8 hSl8
      obtain ⟨xn1, hxn1⟩ : ∃ n, xs.length + 1 = n := ⟨_, rfl⟩
      rw [hxn1] at HFD ⊢
      clear hxn1
      refine wpAnyU_op (i := 11) (by kernel_rfl) rfl rfl (fun K hK => ?_)
      go_wp2_with fail
      refine (HFD.out).mono ?_
      rintro e w9 ⟨A9, c9, rfl, f1, f2, f3, hb9⟩
      refine hK.out _ _ (fun _ => (hS8.trans (hb9.mono hS8.size))) ?_
      clear hK K
      try simp only [Act.put, List.setIfInBounds_toArray, List.set_cons_zero, List.set_cons_succ]
      have hS9 : Below w3.heap.size w3 w9 := hS8.trans (hb9.mono hS8.size)
      refine wpAnyU_op (i := 12) (by kernel_rfl) rfl rfl (fun K hK => ?_)
      go_simp
      refine hK.out _ _ (fun _ => hS9) ?_
      clear hK K
      try simp only [Act.put, List.setIfInBounds_toArray, List.set_cons_zero, List.set_cons_succ]
      clear hSw
      have hSw := hS9
      refine wpAnyU_takeD (i := 13) (v := ?_) rfl rfl (by kernel_rfl) (by kernel_rfl) (by kernel_rfl) (by kernel_rfl) (fun _ _ _ h => h) (by rfl) ?_ hSw ?_
      rotate_left 1
      · intro W9 hW9
        try dsimp only at hW9
        obtain _ := trivial
        go_simp
        try with_reducible rfl
      try simp only [List.setIfInBounds_toArray, List.set_cons_zero, List.set_cons_succ]
      refine wpAnyU_takeD (i := 14) (v := ?_) rfl rfl (by kernel_rfl) (by kernel_rfl) (by kernel_rfl) (by kernel_rfl) (fun _ _ _ h => h) (by rfl) ?_ hSw ?_
      rotate_left 1
      · intro W9 hW9
        try dsimp only at hW9
        obtain _ := trivial
        go_simp
        try with_reducible rfl
      try simp only [List.setIfInBounds_toArray, List.set_cons_zero, List.set_cons_succ]
      refine wpAnyU_op (i := 15) (by kernel_rfl) rfl rfl (fun K hK => ?_)
      go_simp
      refine hK.out _ _ (fun _ => hS9) ?_
      clear hK K
      try simp only [Act.put, List.setIfInBounds_toArray, List.set_cons_zero, List.set_cons_succ]
      refine wpAnyU_op (i := 16) (by kernel_rfl) rfl rfl (fun K hK => ?_)
      go_simp
      refine hK.out _ _ (fun _ => hS9) ?_
      clear hK K
      try simp only [Act.put, List.setIfInBounds_toArray, List.set_cons_zero, List.set_cons_succ]
      refine wpAnyU_done (by kernel_rfl) ?_ _
      go_wp2
      go_meet
      exact ⟨rfl, A9, c9, rfl, f1, f2, f3.more (fun b hb => ⟨by have := hb.1; have := hS8.size; have := HB3.out.size; have := HN2.out; omega, hb.2⟩), HB3.out.trans (hS9.mono (by have := HB3.out.size; have := HN2.out; omega))⟩
  case rest =>
    obtain ⟨rfl, A8, c8, rfl, f1, f2, f3, hbx⟩ := hcut
    have HWI := Lib.hid (rcWith_any (fun q => q ≠ n0 + 1 + 1) A A2 (some ⟨b3, off3, none⟩) A8 c c2 c3 im.length l.length cl.length c8 rr.length k (k : Int) im l cl rr wc rfl rfl rfl rfl rfl hkl (by omega) hc hc2 ⟨f1, f2⟩
      ((HK1.out wc (HBW.out wc hbx)).more (fun g hg => by have : g < w.heap.size := hg; have := (HBW.out wc hbx).size; exact ⟨by show g ≠ n0 + 1 + 1; omega, by omega⟩))
      ((HK2.out wc (HBW.out wc hbx)).more (fun g hg => by have : g < w.heap.size := hg; have := (HBW.out wc hbx).size; exact ⟨by show g ≠ n0 + 1 + 1; omega, by omega⟩))
      ((HK3.out wc (HBW.out wc hbx)).more (fun g hg => by have : g < w.heap.size := hg; have := (HBW.out wc hbx).size; exact ⟨by show g ≠ n0 + 1 + 1; omega, by omega⟩))
      (f3.more (fun g hg => ⟨by have := hg.1; show g ≠ n0 + 1 + 1; omega, hg.2⟩))
      (fun q hq => by have := hbx.size; have := HN2.out; show q ≠ n0 + 1 + 1; omega) xn xnum xs HXV.out)
    obtain ⟨xl, hxl2⟩ : ∃ xl, cl.set k (xn, xnum, rr) = xl := ⟨_, rfl⟩
    have HT : Hid (wrS ((im, l), cl) nm (v, s, data) = ((im, l), xl)) := by
      rw [Hid, wrS, if_pos HE2.out, HCN.out]
      show ((im, l), setOv cl k fun d => foldL (d ++ [(v, s, data)])) = _
      rw [setOv_at hkl HXV.out, HFO.out, hxl2]
    rw [hxl2] at HWI
    clear hxl2 f3
    obtain ⟨p0, p1, p2⟩ := HC.out wc hbx
    have HBX2 := Lib.hid hbx
    go_wp2_with fail
    refine HWI.out.mono ?_
    rintro e w4 ⟨A', c', D', d', G', g', rfl, hat, hb4⟩
    have hbb4 : Below n2 W0 w4 := HBX2.out.trans (hb4.mono (by have := HBX2.out.size; have := HN2.out; omega))
    have hr4 := HRR.out w4 hbb4
    have HCL : Hid (ClAt (((im, l), xl) : Cls) A' c' D' d' G' g' (fun q => True ∧ q < w4.heap.size ∧ q ≠ n0 + 1 + 1) w4) := hat.keep (fun _ _ => rfl) (fun q hq => ⟨trivial, hq.2, hq.1⟩)
    clear p0 p1 p2 HWI hat
    obtain ⟨v0, v1, v2, vf⟩ := blk3 hr4
    go_wp2_with fail
    have hend := rd_end (w := w) (x := (((im, l), xl) : Cls)) (A := A') (c := c') (D := D') (d := d') (G := G') (g := g') hr4 (by omega) (HBW.out w4 hbb4) HCL.out 0
    obtain ⟨hz, hret⟩ := hend
    change bodyPost _ _ _ _ _ (sw3 w4 (n0 + 1 + 1) (.slice A' ((((im, l), xl) : Cls)).1.1.length c') (.slice D' ((((im, l), xl) : Cls)).1.2.length d') (.slice G' ((((im, l), xl) : Cls)).2.length g'))
    generalize sw3 w4 (n0 + 1 + 1) (.slice A' ((((im, l), xl) : Cls)).1.1.length c') (.slice D' ((((im, l), xl) : Cls)).1.2.length d') (.slice G' ((((im, l), xl) : Cls)).2.length g') = W3 at hz hret ⊢
    obtain ⟨z0, z1, z2, _⟩ := blk3 hz
    refine bodyPost_ret (v := .tuple #[.agg #[.slice A' ((((im, l), xl) : Cls)).1.1.length c', .slice D' ((((im, l), xl) : Cls)).1.2.length d', .slice G' ((((im, l), xl) : Cls)).2.length g'], .int .i64 0]) ?_ rfl ?_
    · simp [results, Tryz.results20, Tryz.f20, go_sem, z0, z1, z2, zCls, zSns]
    rw [HT.out, HE2.out]; exact hret
end Go.Proofs.YtgndgkjefgjamaaGreat
namespace Go.Proofs.YtgndgkjefgjamaaGreat
open Go.RowKit Go.Shelf
attribute [local go_sem] Oper.semAt_some

section
variable {t t' : Nat} {x x' : Cls} {A D G A' D' G' : Option Addr} {c d g c' d' g' : Nat} {W W' : World} {n' : Int} {S : Nat → Prop}
theorem riWrite (h : ClI t x A c D d G g W) (hf : fewC x = true) {nm : ByteArray} {v s : Int} {data : List Sec} {Dw : Option Addr} {dw wl : Nat} (hwl : data.length = wl) (ha : wrS x nm (v, s, data) = x' ∧ wrE x nm (v, s, data) = n') (h4 : SlAt encSec W (Bl W.heap.size) Dw data) (hvs : I64 v ∧ I64 s) (hdl : wl ≤ 1000000) (hdc : wl ≤ dw ∧ dw ≤ maxLen) :
    Calls Tryz.prog 20 #[.agg #[.slice A x.1.1.length c, .slice D x.1.2.length d, .slice G x.2.length g], .string nm, .agg #[.int .i64 v, .int .i64 s, .slice Dw wl dw]] W (RdCl (fun _ => True) x' n' W) := by
  have h1 := h.at_.im; have h2 := h.at_.sn; have h3 := h.at_.cl
  obtain ⟨⟨im, l⟩, cl⟩ := x
  obtain ⟨rfl, rfl⟩ := ha
  exact rcWrite_any A D G Dw c d g _ _ _ dw wl im l cl nm v s data W rfl rfl rfl hwl ⟨h1.1, h1.2.1⟩ ⟨h2.1, h2.2.1⟩ ⟨h3.1, h3.2.1⟩ h.im h.sn h.cl h4 (fewC_lim hf).1.1 hvs hdl hdc
theorem riImage (h : ClI t x A c D d G g W) (hf : fewC x = true) {nm : ByteArray} {r : Img} (hr : cIm x nm = r) (he : cfE x nm = n') :
    Calls Tryz.prog 22 #[.agg #[.slice A x.1.1.length c, .slice D x.1.2.length d, .slice G x.2.length g], .string nm] W fun e w' => ∃ B vc, e = .returned (.tuple #[.slice B r.length vc, .int .i64 n']) ∧ r.length ≤ vc ∧ vc ≤ maxLen ∧ SlAt (encSl encSec) w' (Nw W.heap.size w'.heap.size) B r ∧ Below W.heap.size W w' := by
  have h3 := h.at_.cl
  obtain ⟨⟨im, l⟩, cl⟩ := x
  exact rcImage_any A D G c d g _ _ _ im l cl nm W rfl rfl rfl h3.1 h.im h.sn h.cl (fewC_lim hf).1.1 r hr n' he
end
end Go.Proofs.YtgndgkjefgjamaaGreat
namespace Go.Proofs.YtgndgkjefgjamaaGreat
open Go.RowKit Go.ChangeShapes Go.WideShapes Go.ChangeAt

section
variable {H : Type} {enc : TypeId × Value → H} {W : World} {base b0 : Nat} {spare : Nat → Bool} {held : Bool} {r : Reach} {v : Value} {d : DataW H} {p : List MemPlace}
set_option maxRecDepth 100000 in
theorem arg_wr37 (hv : Value.okWide Tryz.prog W r b0 45 v) (h : DataW.Trod enc Tryz.prog W base spare held 45 v d p) :
    ∃ vol st A c data, v = .agg #[.int .i64 vol, .int .i64 st, .slice A (data : List Sec).length c] ∧ I64 vol ∧ I64 st ∧ data.length ≤ c ∧ c ≤ maxLen ∧ SlAt encSec W (Bl W.heap.size) A data := by
  obtain ⟨cs, x, rfl, hr⟩ := arg_struct Tryz.underlying45 op_wr hv h
  obtain ⟨D, c, he, h1, h2, h3, h4, h5⟩ := wr_cs hr
  refine ⟨x.1, x.2.1, D, c, x.2.2, ?_, h1, h2, h3, h4, h5⟩
  congr 1
  exact Array.toList_inj.1 (by simpa using he)
end
end Go.Proofs.YtgndgkjefgjamaaGreat
