/-
  The law of New, Check, Cost: the walk.
-/
import Derived.Test.YtgmeghandjkkcaaLw
set_option linter.unusedVariables false
set_option linter.unusedSimpArgs false
set_option linter.unusedSectionVars false
set_option linter.unnecessarySimpa false
namespace Go.Proofs.Ytgmeghandjkkcaa
open Go.RowKit Go.Shelf
attribute [local go_sem] Oper.semAt_some

set_option maxHeartbeats 4000000 in
set_option maxRecDepth 100000 in
theorem checks36_any (A A2 : Option Addr) (c c2 n m : Nat) (im : Img) (l : List Snp) (w : World) (hn : im.length = n) (hm : l.length = m) (h1 : SlAt (encSl encSec) w (Bl w.heap.size) A im) (h2 : SlAt encSnp w (Bl w.heap.size) A2 l) (hl1 : n ≤ 9223372036854775807) (hl2 : m ≤ 9223372036854775807) :
    Calls Try.prog 3 #[.agg #[.slice A n c, .slice A2 m c2]] w (LawRet w) := by
  subst hn hm
  have H1 := Lib.hid h1; have H2 := Lib.hid h2; clear h1 h2
  obtain ⟨q, hq⟩ : ∃ q, Hid (fewS (im, l) = q) := ⟨_, Lib.hid rfl⟩
  obtain ⟨W0, hW0⟩ : ∃ W0, w.alloc (.cells #[.slice A im.length c, .slice A2 l.length c2] 26) = W0 := ⟨_, rfl⟩
  have hB0 : Below w.heap.size w W0 := by rw [← hW0]; exact ext_alloc (Below.refl _ _)
  have hr0 : W0.heap[w.heap.size]? = some (.cells #[.slice A im.length c, .slice A2 l.length c2] 26 (0, 0)) := by rw [← hW0]; exact heap_alloc_new _ _
  have hs0 : w.heap.size < W0.heap.size := (Array.getElem?_eq_some_iff.1 hr0).1
  obtain ⟨c0, c1, _⟩ := blk2 hr0
  have HFW := Lib.hid (snFew_any A A2 c c2 im.length l.length im l q W0 rfl rfl hq.out (H1.out.fwd hB0) (H2.out.fwd hB0) hl1 hl2)
  go_enter Try.func3, Try.ntmps3
  go_wp2_with fail
  refine HFW.out.mono ?_
  rintro e w1 ⟨rfl, hb1⟩
  have hr1 := (hb1.block w.heap.size hs0).trans hr0
  have hbw1 : Below w.heap.size w w1 := ext_trans hB0 hb1
  clear HFW c0 c1 hr0 hW0
  cases q with
  | false =>
    go_wp2_with fail
    refine (awake36_any _).mono ?_
    rintro e wz ⟨rfl, hbz⟩
    go_wp2
    go_ret
    exact ⟨rfl, ext_trans hbw1 hbz⟩
  | true =>
    obtain ⟨HL, hk1, hk2⟩ := fewS_lim hq.out
    have HLM := Lib.hid HL
    have HLN : Hid (SnLim im []) := ⟨HL.ims, HL.row, by simp, fun x hx => by cases hx⟩
    clear HL
    obtain ⟨⟨im', l'⟩, hs⟩ : ∃ s, newS im = s := ⟨_, rfl⟩
    obtain ⟨x, hx⟩ : ∃ x, sizesN (lens im) = x := ⟨_, rfl⟩
    have hk3 : im'.length ≤ 9 ∧ l'.length ≤ 9 := by
      unfold newS at hs
      split at hs <;> (obtain ⟨rfl, rfl⟩ := Prod.mk.inj hs; first | exact ⟨hk2, by simp⟩ | exact ⟨by simp [zSns], by simp [zSns]⟩)
    obtain ⟨c0, c1, _⟩ := blk2 hr1
    have HNW := Lib.hid (snNew_any A c im.length im w1 rfl (H1.out.fwd hbw1) HLN.out)
    rw [hs, hx] at HNW
    go_wp2_with fail
    refine HNW.out.mono ?_
    rintro e w2 ⟨B2, vc2, D2, dc2, mid2, rfl, hs2, hb2⟩
    obtain ⟨⟨_, _, r1⟩, _, _, r2⟩ := hs2.read
    simp only at r1 r2
    obtain ⟨W2, hW2⟩ : ∃ W2, w2.alloc (.cells #[.slice B2 im'.length vc2, .slice D2 l'.length dc2] 26) = W2 := ⟨_, rfl⟩
    have hb2' : Below w2.heap.size w2 W2 := by rw [← hW2]; exact ext_alloc (Below.refl _ _)
    have hrt : W2.heap[w2.heap.size]? = some (.cells #[.slice B2 im'.length vc2, .slice D2 l'.length dc2] 26 (0, 0)) := by rw [← hW2]; exact heap_alloc_new _ _
    obtain ⟨t2, ht2⟩ : ∃ t, w2.heap.size = t := ⟨_, rfl⟩
    have hx12 : Below w1.heap.size w1 W2 := ext_trans hb2 hb2'
    have hr2 := (hx12.block w.heap.size (by have := hb1.size; omega)).trans hr1
    have hbw2 : Below w.heap.size w W2 := ext_trans hbw1 hx12
    have R1 := Lib.hid (show SlAt (encSl encSec) W2 (Bl W2.heap.size) B2 im' from (show SlAt (encSl encSec) w2 (Bl w2.heap.size) B2 im' from r1.more (fun g hg => hg.2)).fwd hb2')
    have R2 := Lib.hid (show SlAt encSnp W2 (Bl W2.heap.size) D2 l' from (show SlAt encSnp w2 (Bl w2.heap.size) D2 l' from r2.more (fun g hg => hg.2)).fwd hb2')
    have htl2 : t2 < W2.heap.size := by rw [← ht2]; exact (Array.getElem?_eq_some_iff.1 hrt).1
    have hwl2 : w.heap.size < W2.heap.size := (Array.getElem?_eq_some_iff.1 hr2).1
    rw [ht2] at hrt
    have HN2 := Lib.hid (refSnNew_any A c im.length im W2 rfl (H1.out.fwd hbw2) HLN.out)
    rw [hs, hx] at HN2
    clear HNW hs2 r1 r2 hb2 hb2' c0 c1
    obtain ⟨c0, c1, _⟩ := blk2 hr2
    obtain ⟨e0, e1, _⟩ := blk2 hrt
    go_upto_region 4 with (fail)
    try rw [hW2]
    try rw [ht2]
    clear hW2
    go_wp2_with fail
    refine HN2.out.mono ?_
    rintro e w3 ⟨B3, vc3, D3, dc3, mid3, rfl, hs3, hb3⟩
    obtain ⟨⟨_, _, r1⟩, _, _, r2⟩ := hs3.read
    simp only at r1 r2
    obtain ⟨W3, hW3⟩ : ∃ W3, w3.alloc (.cells #[.slice B3 im'.length vc3, .slice D3 l'.length dc3] 26) = W3 := ⟨_, rfl⟩
    have hb3' : Below w3.heap.size w3 W3 := by rw [← hW3]; exact ext_alloc (Below.refl _ _)
    have hru : W3.heap[w3.heap.size]? = some (.cells #[.slice B3 im'.length vc3, .slice D3 l'.length dc3] 26 (0, 0)) := by rw [← hW3]; exact heap_alloc_new _ _
    obtain ⟨t3, ht3⟩ : ∃ t, w3.heap.size = t := ⟨_, rfl⟩
    have hx23 : Below W2.heap.size W2 W3 := ext_trans hb3 hb3'
    have hbw3 : Below w.heap.size w W3 := ext_trans hbw2 hx23
    have Q1 := Lib.hid (show SlAt (encSl encSec) W3 (Bl W3.heap.size) B3 im' from (show SlAt (encSl encSec) w3 (Bl w3.heap.size) B3 im' from r1.more (fun g hg => hg.2)).fwd hb3')
    have Q2 := Lib.hid (show SlAt encSnp W3 (Bl W3.heap.size) D3 l' from (show SlAt encSnp w3 (Bl w3.heap.size) D3 l' from r2.more (fun g hg => hg.2)).fwd hb3')
    rw [ht3] at hru
    have hz23 := hx23.size
    have hr3 := (hx23.block _ hwl2).trans hr2
    have hrt3 := (hx23.block _ htl2).trans hrt
    have HC : Hid (∀ W, Below W3.heap.size W3 W → (W.cell? ⟨w.heap.size, 0, none⟩ = some (.slice A im.length c) ∧ W.cell? ⟨w.heap.size, 1, none⟩ = some (.slice A2 l.length c2)) ∧ (W.cell? ⟨t2, 0, none⟩ = some (.slice B2 im'.length vc2) ∧ W.cell? ⟨t2, 1, none⟩ = some (.slice D2 l'.length dc2)) ∧ W.cell? ⟨t3, 0, none⟩ = some (.slice B3 im'.length vc3) ∧ W.cell? ⟨t3, 1, none⟩ = some (.slice D3 l'.length dc3)) := fun W hb => by
      obtain ⟨a, b, _⟩ := blk2 ((hb.block _ (by omega)).trans hr3)
      obtain ⟨a', b', _⟩ := blk2 ((hb.block _ (by omega)).trans hrt3)
      obtain ⟨a'', b'', _⟩ := blk2 ((hb.block _ (Array.getElem?_eq_some_iff.1 hru).1).trans hru)
      exact ⟨⟨a, b⟩, ⟨a', b'⟩, a'', b''⟩
    obtain ⟨y, hy⟩ : ∃ y, Hid (snE (im, l) = y) := ⟨_, rfl⟩
    have K1 := Lib.hid (fun W (hb : Below W3.heap.size W3 W) => snSame_true B2 D2 B3 D3 vc2 dc2 vc3 dc3 im'.length l'.length im' l' W rfl rfl (R1.out.fwd (hx23.trans (hb.mono hz23))) (R2.out.fwd (hx23.trans (hb.mono hz23))) (Q1.out.fwd hb) (Q2.out.fwd hb) (by omega) (by omega))
    have K2 := Lib.hid (fun W (hb : Below W3.heap.size W3 W) => snCheck_any A A2 c c2 im.length l.length im l y W rfl rfl hy.out (H1.out.fwd (ext_trans hbw3 hb)) (H2.out.fwd (ext_trans hbw3 hb)) (by omega) (by omega))
    have K3 := Lib.hid (fun W (hb : Below W3.heap.size W3 W) => refSnCheck_any A A2 c c2 im.length l.length im l y W rfl rfl hy.out (H1.out.fwd (ext_trans hbw3 hb)) (H2.out.fwd (ext_trans hbw3 hb)) (by omega) (by omega))
    obtain ⟨z, hz⟩ : ∃ z : Nat, Hid (sCost (im, l) = z) := ⟨_, rfl⟩
    have K4 := Lib.hid (fun W (hb : Below W3.heap.size W3 W) => snCost_any A A2 c c2 im.length l.length im l W rfl rfl (H1.out.fwd (ext_trans hbw3 hb)) (H2.out.fwd (ext_trans hbw3 hb)) HLM.out)
    have K5 := Lib.hid (fun W (hb : Below W3.heap.size W3 W) => refSnCost_any A A2 c c2 im.length l.length im l W rfl rfl (H1.out.fwd (ext_trans hbw3 hb)) (H2.out.fwd (ext_trans hbw3 hb)) HLM.out)
    rw [hz.out] at K4 K5
    have hc0 := HC.out W3.drew (Below.refl _ _).drew
    clear HN2 hs3 r1 r2 hb3 hb3' c0 c1 e0 e1
    go_upto_region 5 with (fail)
    try rw [hW3]
    try rw [ht3]
    clear hW3 hr3 hrt3 hru hrt hr2 hr1
    go_region_held3 (fun W => (W.cell? ⟨w.heap.size, 0, none⟩ = some (.slice A im.length c) ∧ W.cell? ⟨w.heap.size, 1, none⟩ = some (.slice A2 l.length c2)) ∧ (W.cell? ⟨t2, 0, none⟩ = some (.slice B2 im'.length vc2) ∧ W.cell? ⟨t2, 1, none⟩ = some (.slice D2 l'.length dc2)) ∧ W.cell? ⟨t3, 0, none⟩ = some (.slice B3 im'.length vc3) ∧ W.cell? ⟨t3, 1, none⟩ = some (.slice D3 l'.length dc3)) (first | exact hc0 | exact HC.out _ hx9 | exact HC.out _ hx8 | exact HC.out _ hx7 | exact HC.out _ hx6 | exact HC.out _ hx5 | exact HC.out _ hx4 | go_keep) (first | (go_at_call 15; refine (K5.out w8 hx8).mono ?_; rintro e w9 ⟨rfl, hb9⟩; have hx9 : Below W3.heap.size W3 w9 := ext_trans hx8 hb9) | (go_at_call 14; refine (K4.out w7 hx7).mono ?_; rintro e w8 ⟨rfl, hb8⟩; have hx8 : Below W3.heap.size W3 w8 := ext_trans hx7 hb8) | (go_at_call 13; refine (K3.out w6 hx6).mono ?_; rintro e w7 ⟨rfl, hb7⟩; have hx7 : Below W3.heap.size W3 w7 := ext_trans hx6 hb7) | (go_at_call 12; refine (K2.out w5 hx5).mono ?_; rintro e w6 ⟨rfl, hb6⟩; have hx6 : Below W3.heap.size W3 w6 := ext_trans hx5 hb6) | (go_at_call 11; refine (K1.out w4 hx4).mono ?_; rintro e w5 ⟨rfl, hb5⟩; have hx5 : Below W3.heap.size W3 w5 := ext_trans hx4 hb5) | (go_at_call 8; refine (awake36_any W3.drew).mono ?_; rintro e w4 ⟨rfl, hb4⟩; have hx4 : Below W3.heap.size W3 w4 := bUn hb4))
    go_wp2_with fail
    go_ret
    exact ⟨rfl, ext_trans hbw3 hx9⟩
end Go.Proofs.Ytgmeghandjkkcaa
