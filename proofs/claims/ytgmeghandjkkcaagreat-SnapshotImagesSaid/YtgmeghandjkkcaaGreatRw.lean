/-
  The reference's over, imageAt, Image.
-/
import Derived.Test.YtgmeghandjkkcaaGreatRs
import Derived.Test.YtgmeghandjkkcaaGreatRn
set_option linter.unusedVariables false
set_option linter.unusedSimpArgs false
set_option linter.unusedSectionVars false
set_option linter.unnecessarySimpa false
namespace Go.Proofs.YtgmeghandjkkcaaGreat
open Go.RowKit Go.Shelf
attribute [local go_sem] Oper.semAt_some

set_option maxHeartbeats 2000000 in
set_option maxRecDepth 100000 in
theorem refOver_any (A D : Option Addr) (c d n m : Nat) (a b : List Wr) (w : World) (hn : a.length = n) (hm : b.length = m) (h1 : SlAt encWr w (Bl w.heap.size) A a) (h2 : SlAt encWr w (Bl w.heap.size) D b) (hl : n + m ≤ 100000) (hd : ∀ x ∈ a, 0 < x.2.2.length ∧ x.2.2.length ≤ 1000000) :
    Calls Tryz.prog 42 #[.slice A n c, .slice D m d] w (RetSl encWr (foldL (a ++ b)) w) := by
  subst hn hm
  have H2 : Hid (∀ w', Below w.heap.size w w' → SlAt encWr w' (Bl w.heap.size) D b) := fun w' hb => h2.below hb
  have HCW := Lib.hid (refCopyWrites_any A c a.length a w rfl h1 (by omega) hd)
  clear h1 h2 hd
  obtain ⟨cat, hcat⟩ : ∃ cat, Hid (a ++ b = cat) := ⟨_, rfl⟩
  have hcl : Hid (cat.length = a.length + b.length) := by rw [← hcat.out, Hid, List.length_append]
  obtain ⟨rr, hrr⟩ : ∃ rr, Hid (foldL cat = rr) := ⟨_, rfl⟩
  rw [hcat.out, hrr.out]
  go_enter Tryz.func42, Tryz.ntmps42
  go_wp2_with fail
  refine HCW.out.mono ?_
  rintro e w1 ⟨B, vc, xs, rfl, ho, hb1⟩
  have hlt1 := ho.own.lt
  have hO : Hid (Own encWr w1 w.heap.size 70 (fun g => g < w1.heap.size ∧ (Value.slice B a.length vc).ownBlock ≠ some g) (.slice B a.length vc) a) := ho.own.more (fun g hg => ⟨hg.1.2, hg.2⟩) (fun g hg hS => hS.2 hg)
  have hD : Hid (SlAt encWr w1 (fun g => g < w1.heap.size ∧ (Value.slice B a.length vc).ownBlock ≠ some g) D b) := (H2.out w1 hb1).more (fun g hg => ⟨Nat.lt_of_lt_of_le hg hb1.size, fun e => by have := (hlt1 g e).1; have h5 : g < w.heap.size := hg; omega⟩)
  clear ho HCW
  have hz1 := hb1.size
  go_wp2_with (at_builtin; refine Hid.out ?_)
  change wpList _ _ _ _ _ _
  refine wpList_appAll (E := encWr) tyWrs rfl _ _ rfl rfl hO.out (news := b) rfl rfl hD.out (fun _ h => h.1) hz1 (by unfold maxLen; omega) (by omega) ?_
  intro A2 c2 w2 hown2 hg2 hat2
  rw [hcat.out] at hown2
  have hb2 : Below w.heap.size w w2 := hb1.grown hg2 hz1 (fun g h => (hlt1 g h).1)
  obtain ⟨A', c', he, k1, k2, k3⟩ := hown2.reads (S' := Bl w2.heap.size) (fun g hg => Nat.lt_of_lt_of_le hg.1 hg2.size) (fun g hg => (hown2.lt g hg).2)
  simp only [List.cons.injEq, Value.slice.injEq, and_true] at he
  obtain ⟨rfl, hh, rfl⟩ := he
  clear hh
  have HF := Lib.hid (refFold_any A2 c2 cat w2 k3 (by rw [hcl.out]; omega))
  obtain ⟨en, hen⟩ : ∃ en, Hid (errOf placedN cat = en) := ⟨_, rfl⟩
  rw [hrr.out, hcl.out, hen.out] at HF
  clear k1 k2 hown2 hg2 hat2 k3 hlt1
  go_wp2_with fail
  refine HF.out.mono ?_
  rintro e w3 ⟨A3, c3, rfl, t1, t2, t3, hb3⟩
  have hz2 := hb2.size
  go_wp2
  go_ret
  exact ⟨A3, c3, rfl, t1, t2, t3.more (fun g hg => ⟨by have := hg.1; omega, hg.2⟩), ext_trans hb2 hb3⟩

theorem atL_step {im : Img} {l : List Snp} {k : Nat} (hk : k < l.length) : atL im (l.drop k) = putAll (atL im (l.drop (k + 1))) l[k].2.2 := by
  unfold atL
  rw [List.drop_eq_getElem_cons hk, List.reverse_cons, List.foldl_append]; rfl
theorem atL_end {im : Img} {l : List Snp} : atL im (l.drop l.length) = im := by rw [List.drop_length]; rfl
theorem atL_lens {im : Img} : ∀ {l : List Snp}, (∀ x ∈ l, ∀ y ∈ x.2.2, fitsN (lens im) y = 0) → lens (atL im l) = lens im
  | [], _ => rfl
  | x :: l, h => by
    have h1 : atL im (x :: l) = putAll (atL im l) x.2.2 := atL_step (l := x :: l) (k := 0) (by simp)
    have h2 := atL_lens (l := l) (fun y hy => h y (List.mem_cons_of_mem _ hy))
    rw [h1, putAll_lens (by rw [h2]; exact h x (List.mem_cons_self)), h2]
theorem applyL_ok {im : Img} {l : List Wr} (hz : sizesN (lens im) = 0) (hf : ∀ x ∈ l, fitsN (lens im) x = 0) : applyErr im l = 0 ∧ applyL im l = putAll im l := by
  have e1 : applyErr im l = 0 := by unfold applyErr; rw [if_neg (by rw [hz]; simp), errOf_zero hf]
  exact ⟨e1, by unfold applyL; rw [e1, if_pos rfl]⟩

set_option maxHeartbeats 4000000 in
set_option maxRecDepth 100000 in
theorem refImageAt_any (A A2 : Option Addr) (c c2 n m at' : Nat) (im : Img) (l : List Snp) (w : World) (hn : im.length = n) (hm : l.length = m) (h1 : SlAt (encSl encSec) w (Bl w.heap.size) A im) (h2 : SlAt encSnp w (Bl w.heap.size) A2 l) (hL : SnLim im l) (hk : at' < m) (hsz : sizesN (lens im) = 0) (hfit : ∀ x ∈ l, ∀ y ∈ x.2.2, fitsN (lens im) y = 0) (r : Img) (hr : atL im (l.drop at') = r) :
    Calls Tryz.prog 49 #[.agg #[.slice A n c, .slice A2 m c2], .int .i64 at'] w fun e w' => ∃ B vc, e = .returned (.slice B n vc) ∧ n ≤ vc ∧ vc ≤ maxLen ∧ r.length = n ∧ SlAt (encSl encSec) w' (Nw w.heap.size w'.heap.size) B r ∧ Below w.heap.size w w' := by
  subst hn hm
  have H1 : Hid (∀ w', Below w.heap.size w w' → SlAt (encSl encSec) w' (Bl w.heap.size) A im) := fun w' hb => h1.below hb
  have H2 : Hid (∀ w', Below w.heap.size w w' → SlAt encSnp w' (Bl w.heap.size) A2 l) := fun w' hb => h2.below hb
  have HLM := Lib.hid hL
  have HFIT := Lib.hid hfit
  have HSZ := Lib.hid hsz
  have HR := Lib.hid hr
  have hl1 := hL.ims
  have hl2 := hL.its
  have HIL : Hid (∀ j, lens (atL im (l.drop j)) = lens im ∧ (atL im (l.drop j)).length = im.length) := fun j => by
    have h := atL_lens (im := im) (l := l.drop j) (fun x hx => hfit x (List.mem_of_mem_drop hx))
    exact ⟨h, by have := congrArg List.length h; simpa [lens] using this⟩
  clear h1 h2 hL hfit hsz hr
  obtain ⟨W0, hW0⟩ : ∃ W0, w.alloc (.cells #[.slice A im.length c, .slice A2 l.length c2] 26) = W0 := ⟨_, rfl⟩
  have hB0 : Below w.heap.size w W0 := by rw [← hW0]; exact ext_alloc (Below.refl _ _)
  have hr0 : W0.heap[w.heap.size]? = some (.cells #[.slice A im.length c, .slice A2 l.length c2] 26 (0, 0)) := by rw [← hW0]; exact heap_alloc_new _ _
  have hs0 : W0.heap.size = w.heap.size + 1 := by rw [← hW0]; simp
  have HCC : Hid (∀ W, Below W0.heap.size W0 W → W.cell? ⟨w.heap.size, 0, none⟩ = some (.slice A im.length c) ∧ W.cell? ⟨w.heap.size, 1, none⟩ = some (.slice A2 l.length c2)) := fun W hb => by
    obtain ⟨a, b, _⟩ := blk2 ((hb.block w.heap.size (by omega)).trans hr0)
    exact ⟨a, b⟩
  have HCP := Lib.hid (refCopy07_any A c im.length im W0 rfl ((H1.out W0 hB0).more (Bl.mono hB0.size)) hl1 HLM.out.row)
  obtain ⟨c0, c1⟩ := HCC.out W0 (Below.refl _ _)
  clear hr0
  have hsz0 : Hid (W0.heap.size = w.heap.size + 1) := hs0
  have hs0' : w.heap.size ≤ W0.heap.size := by omega
  clear hs0
  go_enter Tryz.func49, Tryz.ntmps49
  go_wp2_with fail
  refine HCP.out.mono ?_
  rintro e w1 ⟨B, vc, rfl, p1, p2, p3, hb1⟩
  have HP3 := Lib.hid p3
  have hvc : Hid (im.length ≤ vc ∧ vc ≤ maxLen) := ⟨p1, p2⟩
  clear p1 p2 p3 HCP c0 c1
  obtain ⟨c0, c1⟩ := HCC.out w1 hb1
  go_wp2_with fail
  go_loopw [5, 6] (fun v i wr => ∃ (k : Nat) (Bk : Option Addr) (vk : Nat), at' ≤ k ∧ k ≤ l.length ∧ i = .int .i64 ((k : Int) - 1) ∧ v = .slice Bk im.length vk ∧ Below W0.heap.size W0 wr ∧ Hid (im.length ≤ vk ∧ vk ≤ maxLen) ∧ Hid (SlAt (encSl encSec) wr (Nw W0.heap.size wr.heap.size) Bk (atL im (l.drop k)))) (fun _ i _ => (intOf i + 1).toNat)
  case atStart => exact ⟨l.length, B, vc, by omega, Nat.le_refl _, by go_num, rfl, hb1, hvc.out, by rw [Hid, atL_end]; exact HP3.out⟩
  case round =>
    obtain ⟨wo, rfl⟩ : ∃ wo : World, wo = wr := ⟨_, rfl⟩
    obtain ⟨k, Bk, vk, hka, hkl, rfl, rfl, hB, hvk, hIM⟩ := hrel
    obtain ⟨c0, c1⟩ := HCC.out wo hB
    have hbw : Below w.heap.size w wo := hB0.trans (hB.mono hs0')
    have hzo := hB.size
    by_cases hlt : at' < k
    · obtain ⟨j, rfl⟩ : ∃ j, k = j + 1 := ⟨k - 1, by omega⟩
      have ej : ((j + 1 : Nat) : Int) - 1 = j := by omega
      rw [ej]
      clear ej
      have hjl : j < l.length := by omega
      have hji : (j : Int) < l.length := by omega
      have hnn : (0 : Int) ≤ j := by omega
      have hja : (at' : Int) ≤ j := by omega
      obtain ⟨b, off, D, dd, rfl, hb, g0, g1, g2, hD, hd1, hd2, _, _⟩ := (H2.out wo hbw).snp hjl
      have hstep := Lib.hid (atL_step (im := im) hjl)
      have hfx := HFIT.out l[j] (List.getElem_mem hjl)
      have hsvl := (HLM.out.sav l[j] (List.getElem_mem hjl)).1
      obtain ⟨hle, hln⟩ := HIL.out (j + 1)
      obtain ⟨_, hln2⟩ := HIL.out j
      obtain ⟨cur, hcur⟩ : ∃ cur, atL im (l.drop (j + 1)) = cur := ⟨_, rfl⟩
      rw [hcur] at hIM hstep hle hln
      obtain ⟨nx, hnx⟩ : ∃ nx, Hid (atL im (l.drop j) = nx) := ⟨_, rfl⟩
      rw [hnx.out] at hstep hln2
      obtain ⟨sv, hsv⟩ : ∃ sv, l[j].2.2 = sv := ⟨_, rfl⟩
      rw [hsv] at g2 hD hd1 hfx hstep hsvl
      obtain ⟨ap1, ap2⟩ := applyL_ok (im := cur) (l := sv) (by rw [hle]; exact HSZ.out) (by rw [hle]; exact hfx)
      have HAP := Lib.hid (refApply07_any Bk D vk dd im.length sv.length cur sv wo hln rfl (hIM.out.more (fun g hg => hg.2)) hl1 (hD.more (Bl.mono hbw.size)) (by omega))
      rw [ap1, ap2, ← hstep.out] at HAP
      have hnl : Hid (nx.length = im.length) := hln2
      clear hcur hsv ap1 ap2 hle hln hln2 hfx hD hIM hsvl g0 g1 hd1 hd2
      go_wp2_with fail
      refine HAP.out.mono ?_
      rintro e w2 ⟨A4, c4, ix, rfl, a1, a2, a3, hb2⟩
      have HA3 := Lib.hid a3
      rw [hnl.out] at a1 ⊢
      have hB2 : Below W0.heap.size W0 w2 := ext_trans hB hb2
      have ha : Hid (im.length ≤ c4 ∧ c4 ≤ maxLen) := ⟨a1, a2⟩
      clear HAP a3 g2 c0 c1 a1 a2
      go_wp2
      go_roundw
      case rel => exact ⟨j, A4, c4, by omega, by omega, by go_num, rfl, hB2, ha.out, by rw [Hid, hnx.out]; exact HA3.out.more (fun g hg => ⟨by have := hg.1; omega, hg.2⟩)⟩
      case measure => simp [intOf]
    · have hkk : k = at' := by omega
      subst hkk
      have ho := hIM.out
      rw [HR.out] at ho
      have HO := Lib.hid ho
      have hrl : Hid (r.length = im.length) := by rw [Hid, ← HR.out]; exact (HIL.out k).2
      obtain ⟨v1, v2⟩ := hvk.out
      have hng : ¬ (k : Int) ≤ (k : Int) - 1 := by omega
      clear ho hIM
      go_wp2
      go_ret
      exact ⟨Bk, vk, rfl, v1, v2, hrl.out, HO.out.more (fun g hg => ⟨by have := hg.1; omega, hg.2⟩), hbw⟩
set_option maxRecDepth 100000 in
set_option maxHeartbeats 4000000 in
theorem refImage_any (A A2 : Option Addr) (c c2 n m : Nat) (im : Img) (l : List Snp) (num : Int) (w : World) (hn : im.length = n) (hm : l.length = m) (h1 : SlAt (encSl encSec) w (Bl w.heap.size) A im) (h2 : SlAt encSnp w (Bl w.heap.size) A2 l) (hL : SnLim im l) (r : Img) (hr : sImage (im, l) num = r) (en : Int) (he : findE (im, l) num = en) :
    Calls Tryz.prog 20 #[.agg #[.slice A n c, .slice A2 m c2], .int .i64 num] w fun e w' => ∃ B vc, e = .returned (.tuple #[.slice B r.length vc, .int .i64 en]) ∧ r.length ≤ vc ∧ vc ≤ maxLen ∧ SlAt (encSl encSec) w' (Nw w.heap.size w'.heap.size) B r ∧ Below w.heap.size w w' := by
  subst hn hm
  have H1 : Hid (∀ w', Below w.heap.size w w' → SlAt (encSl encSec) w' (Bl w.heap.size) A im) := fun w' hb => h1.below hb
  have H2 : Hid (∀ w', Below w.heap.size w w' → SlAt encSnp w' (Bl w.heap.size) A2 l) := fun w' hb => h2.below hb
  have HL := Lib.hid hL; have HR := Lib.hid hr; have HE := Lib.hid he
  have hl1 := hL.ims
  have hl2 := hL.its
  clear h1 h2 hL hr he
  obtain ⟨n0, hn0⟩ : ∃ n0, w.heap.size = n0 := ⟨_, rfl⟩
  obtain ⟨W0, hW0⟩ : ∃ W0, w.alloc (.cells #[.slice A im.length c, .slice A2 l.length c2] 26) = W0 := ⟨_, rfl⟩
  have hB0 : Below n0 w W0 := by rw [← hW0, ← hn0]; exact ext_alloc (Below.refl _ _)
  have hr0 : W0.heap[n0]? = some (.cells #[.slice A im.length c, .slice A2 l.length c2] 26 (0, 0)) := by rw [← hW0, ← hn0]; exact heap_alloc_new _ _
  have hs0 : n0 < W0.heap.size := (Array.getElem?_eq_some_iff.1 hr0).1
  have hBL : Hid (∀ (W : World), Below n0 w W → ∀ g, Bl w.heap.size g → Bl W.heap.size g) := fun W hb g hg => by have h := hb.size; have : g < w.heap.size := hg; show g < W.heap.size; omega
  have HF := Lib.hid (refFind_any A A2 c c2 im.length l.length im l num W0 rfl rfl ((H1.out W0 (by rw [hn0]; exact hB0)).more (hBL.out W0 hB0)) ((H2.out W0 (by rw [hn0]; exact hB0)).more (hBL.out W0 hB0)) hl1 (by omega))
  rw [HE.out] at HF
  obtain ⟨p0, p1, _⟩ := blk2 hr0
  go_enter Tryz.func20, Tryz.ntmps20
  go_wp2_with fail
  refine HF.out.mono ?_
  rintro e w1 ⟨rfl, hb1⟩
  have hbw1 : Below n0 w w1 := hB0.trans (hb1.mono (by omega))
  have hz1 := hb1.size
  obtain ⟨k, hk⟩ : ∃ k, Hid (findN (im, l) num = k) := ⟨_, rfl⟩
  rw [hk.out]
  by_cases hx0 : en = 0
  · have hx0' : (en != 0) = false := by simp [hx0]
    have hEZ : Hid (findE (im, l) num = 0) := by rw [Hid, HE.out, hx0]
    obtain ⟨e1, e2⟩ := findE_ok hEZ.out
    obtain ⟨e3, e4⟩ := snE_ok e1
    rw [hk.out] at e2
    have hrr : Hid (atL im (l.drop k) = r) := by rw [Hid, ← HR.out, sImage, if_pos hEZ.out, hk.out]
    have HAT := Lib.hid (refImageAt_any A A2 c c2 im.length l.length k im l w1 rfl rfl ((H1.out w1 (by rw [hn0]; exact hbw1)).more (hBL.out w1 hbw1)) ((H2.out w1 (by rw [hn0]; exact hbw1)).more (hBL.out w1 hbw1)) HL.out e2 e3 e4 r hrr.out)
    obtain ⟨q0, q1, _⟩ := blk2 ((hb1.block n0 hs0).trans hr0)
    subst hx0
    clear p0 p1 e3 e4 HF e1
    go_wp2_with fail
    refine HAT.out.mono ?_
    rintro e w2 ⟨B, vc, rfl, a1, a2, a3, a4, hb2⟩
    have HA4 := Lib.hid a4
    have ha3 := Lib.hid a3
    clear a4 a3 q0 q1 HAT
    go_wp2
    go_ret2
    rw [← ha3.out] at a1 ⊢
    exact ⟨B, vc, rfl, a1, a2, HA4.out.more (fun g hg => ⟨by have := hg.1; omega, hg.2⟩), by rw [hn0]; exact hbw1.trans (hb2.mono (by omega))⟩
  · have hx0' : (en != 0) = true := by simp [hx0]
    have hrr : Hid (r = []) := by rw [Hid, ← HR.out, sImage, if_neg (by rw [HE.out]; exact hx0)]
    clear hx0 p0 p1 HF
    go_wp2_with fail
    go_ret2
    rw [hrr.out]
    exact ⟨none, 0, rfl, by simp, by simp, SlAt.nil_, by rw [hn0]; exact hbw1⟩
end Go.Proofs.YtgmeghandjkkcaaGreat
