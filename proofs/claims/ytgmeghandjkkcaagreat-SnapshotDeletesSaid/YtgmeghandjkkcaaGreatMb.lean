/-
  The law of Delete and Revert: the walk.
-/
import Derived.Test.YtgmeghandjkkcaaGreatLw
import Derived.Test.YtgmeghandjkkcaaGreatRm
set_option linter.unusedVariables false
set_option linter.unusedSimpArgs false
set_option linter.unusedSectionVars false
set_option linter.unnecessarySimpa false
namespace Go.Proofs.YtgmeghandjkkcaaGreat
open Go.RowKit Go.Shelf
attribute [local go_sem] Oper.semAt_some

theorem fewS_sav {im : Img} {l : List Snp} (h : fewS (im, l) = true) : ∀ x ∈ l, x.2.2.length ≤ 40 := by
  unfold fewS at h
  rw [Bool.and_eq_true, List.all_eq_true] at h
  intro x hx
  have := h.1 x hx
  unfold fewL at this
  rw [Bool.and_eq_true, decide_eq_true_eq] at this
  exact this.1
theorem sDelete_len (im : Img) (l : List Snp) (n : Int) : (sDelete (im, l) n).1.length ≤ im.length ∧ (sDelete (im, l) n).2.length ≤ l.length := by
  by_cases h : findE (im, l) n = 0
  · have hk := (findE_ok h).2
    unfold sDelete
    rw [if_pos h]
    refine ⟨Nat.le_refl _, ?_⟩
    show (delL l (findN (im, l) n)).length ≤ l.length
    rw [delL_dSt hk, ← dSt_len (l := l) (a := findN (im, l) n)]
    exact List.length_eraseIdx_le _ _
  · unfold sDelete
    rw [if_neg h]
    exact ⟨by simp [zSns], by simp [zSns]⟩
theorem sRevert_len (im : Img) (l : List Snp) (n : Int) : (sRevert (im, l) n).1.length ≤ im.length ∧ (sRevert (im, l) n).2.length ≤ l.length := by
  by_cases h : findE (im, l) n = 0
  · obtain ⟨h1, hk⟩ := findE_ok h
    unfold sRevert
    rw [if_pos h]
    refine ⟨?_, ?_⟩
    · have h2 := atL_lens (im := im) (l := l.drop (findN (im, l) n)) (fun x hx => (snE_ok h1).2 x (List.mem_of_mem_drop hx))
      have := congrArg List.length h2
      have h3 : (atL im (l.drop (findN (im, l) n))).length = im.length := by simpa [lens] using this
      exact Nat.le_of_eq h3
    · show (setLast (l.take (findN (im, l) n + 1)) fun _ => []).length ≤ l.length
      rw [setLast_take hk, List.length_take, List.length_set]
      exact Nat.min_le_right _ _
  · unfold sRevert
    rw [if_neg h]
    exact ⟨by simp [zSns], by simp [zSns]⟩
set_option maxHeartbeats 4000000 in
set_option maxRecDepth 100000 in
theorem deletes36_any (A A2 : Option Addr) (c c2 n m : Nat) (im : Img) (l : List Snp) (num : Int) (w : World) (hn : im.length = n) (hm : l.length = m) (h1 : SlAt (encSl encSec) w (Bl w.heap.size) A im) (h2 : SlAt encSnp w (Bl w.heap.size) A2 l) (hl1 : n ≤ 9223372036854775807) (hl2 : m ≤ 9223372036854775807) (hc2 : m ≤ c2) :
    Calls Tryz.prog 4 #[.agg #[.slice A n c, .slice A2 m c2], .int .i64 num] w (LawRet w) := by
  subst hn hm
  have H1 := Lib.hid h1; have H2 := Lib.hid h2; clear h1 h2
  have HC2 := Lib.hid hc2
  clear hc2
  obtain ⟨q, hq⟩ : ∃ q, Hid (fewS (im, l) = q) := ⟨_, Lib.hid rfl⟩
  obtain ⟨n0, hn0⟩ : ∃ n0, w.heap.size = n0 := ⟨_, rfl⟩
  obtain ⟨W0, hW0⟩ : ∃ W0, w.alloc (.cells #[.slice A im.length c, .slice A2 l.length c2] 26) = W0 := ⟨_, rfl⟩
  have hB0 : Below w.heap.size w W0 := by rw [← hW0]; exact ext_alloc (Below.refl _ _)
  have hr0 : W0.heap[n0]? = some (.cells #[.slice A im.length c, .slice A2 l.length c2] 26 (0, 0)) := by rw [← hW0, ← hn0]; exact heap_alloc_new _ _
  have hs0 : n0 < W0.heap.size := (Array.getElem?_eq_some_iff.1 hr0).1
  have HCB : Hid (∀ W, Below W0.heap.size W0 W → (W.cell? ⟨n0, 0, none⟩ = some (.slice A im.length c) ∧ W.cell? ⟨n0, 1, none⟩ = some (.slice A2 l.length c2))) := fun W hb => by
    obtain ⟨a, b, _⟩ := blk2 ((hb.block n0 (by omega)).trans hr0)
    exact ⟨a, b⟩
  have HFW := Lib.hid (snFew_any A A2 c c2 im.length l.length im l q W0 rfl rfl hq.out (H1.out.fwd hB0) (H2.out.fwd hB0) hl1 hl2)
  obtain ⟨c0, c1⟩ := HCB.out W0 (Below.refl _ _)
  clear hr0
  go_enter Tryz.func4, Tryz.ntmps4
  go_wp2_with fail
  refine HFW.out.mono ?_
  rintro e W1 ⟨rfl, hbb1⟩
  clear HFW c0 c1 hW0
  cases q with
  | false =>
    go_upto_region 2 with (fail)
    go_wp2_with fail
    refine (awake36_any _).mono ?_
    rintro e wz ⟨rfl, hbz⟩
    go_wp2
    go_ret
    exact ⟨rfl, ext_trans hB0 (ext_trans hbb1 hbz)⟩
  | true =>
    obtain ⟨HL, hk1, hk2⟩ := fewS_lim hq.out
    have HLM := Lib.hid HL
    have HSV := Lib.hid (fewS_sav hq.out)
    clear HL
    have hla := sDelete_len im l num
    have hlb := sRevert_len im l num
    obtain ⟨⟨ima, la⟩, hs⟩ : ∃ s, sDelete (im, l) num = s := ⟨_, rfl⟩
    obtain ⟨x, hx⟩ : ∃ x, findE (im, l) num = x := ⟨_, rfl⟩
    obtain ⟨⟨imb, lb⟩, ht⟩ : ∃ s, sRevert (im, l) num = s := ⟨_, rfl⟩
    rw [hs] at hla
    rw [ht] at hlb
    have hka : ima.length ≤ 9 ∧ la.length ≤ 31 := ⟨Nat.le_trans hla.1 hk2, Nat.le_trans hla.2 (by omega)⟩
    have hkb : imb.length ≤ 9 ∧ lb.length ≤ 31 := ⟨Nat.le_trans hlb.1 hk2, Nat.le_trans hlb.2 (by omega)⟩
    have hE := Lib.hid (And.intro (And.intro hs hx) ht)
    clear hla hlb hs hx ht
    obtain ⟨c0, c1⟩ := HCB.out W1 hbb1
    have HN := Lib.hid ((snDelete_any A A2 c c2 im.length l.length im l num W1 rfl rfl (H1.out.fwd (ext_trans hB0 hbb1)) (H2.out.fwd (ext_trans hB0 hbb1)) HLM.out (fun x hx => Nat.le_trans (HSV.out x hx) (by omega))).mono (fun _ _ h => h.rd))
    rw [hE.out.1.1, hE.out.1.2] at HN
    go_wp2_with fail
    refine HN.out.mono ?_
    rintro e w2 ⟨B2, vc2, D2, dc2, rfl, ⟨_, _, r1⟩, ⟨_, _, r2⟩, hb2⟩
    simp only at r1 r2
    obtain ⟨W2, hW2⟩ : ∃ W, w2.alloc (.cells #[.slice B2 ima.length vc2, .slice D2 la.length dc2] 26) = W := ⟨_, rfl⟩
    have hb' : Below w2.heap.size w2 W2 := by rw [← hW2]; exact ext_alloc (Below.refl _ _)
    have hrt : W2.heap[w2.heap.size]? = some (.cells #[.slice B2 ima.length vc2, .slice D2 la.length dc2] 26 (0, 0)) := by rw [← hW2]; exact heap_alloc_new _ _
    obtain ⟨t2, ht2⟩ : ∃ t, w2.heap.size = t := ⟨_, rfl⟩
    have hx2 : Below W1.heap.size W1 W2 := ext_trans hb2 hb'
    have hbb2 : Below W0.heap.size W0 W2 := ext_trans hbb1 hx2
    have R12 := Lib.hid (show SlAt (encSl encSec) W2 (Bl W2.heap.size) B2 ima from (show SlAt (encSl encSec) w2 (Bl w2.heap.size) B2 ima from r1.more (fun g hg => hg.2)).fwd hb')
    have R22 := Lib.hid (show SlAt encSnp W2 (Bl W2.heap.size) D2 la from (show SlAt encSnp w2 (Bl w2.heap.size) D2 la from r2.more (fun g hg => hg.2)).fwd hb')
    rw [ht2] at hrt
    have htl2 : t2 < W2.heap.size := (Array.getElem?_eq_some_iff.1 hrt).1
    have HT2 := Lib.hid hrt
    clear HN r1 r2 hb2 hb' c0 c1 hrt
    go_upto_region 4 with (fail)
    try rw [hW2]
    try rw [ht2]
    clear hW2
    obtain ⟨c0, c1⟩ := HCB.out W2 hbb2
    have HN := Lib.hid ((refSnDelete_any A A2 c c2 im.length l.length im l num W2 rfl rfl (H1.out.fwd (ext_trans hB0 hbb2)) (H2.out.fwd (ext_trans hB0 hbb2)) HLM.out (fun x hx => Nat.le_trans (HSV.out x hx) (by omega))).mono (fun _ _ h => h.rd))
    rw [hE.out.1.1, hE.out.1.2] at HN
    go_wp2_with fail
    refine HN.out.mono ?_
    rintro e w3 ⟨B3, vc3, D3, dc3, rfl, ⟨_, _, r1⟩, ⟨_, _, r2⟩, hb3⟩
    simp only at r1 r2
    obtain ⟨W3, hW3⟩ : ∃ W, w3.alloc (.cells #[.slice B3 ima.length vc3, .slice D3 la.length dc3] 26) = W := ⟨_, rfl⟩
    have hb' : Below w3.heap.size w3 W3 := by rw [← hW3]; exact ext_alloc (Below.refl _ _)
    have hrt : W3.heap[w3.heap.size]? = some (.cells #[.slice B3 ima.length vc3, .slice D3 la.length dc3] 26 (0, 0)) := by rw [← hW3]; exact heap_alloc_new _ _
    obtain ⟨t3, ht3⟩ : ∃ t, w3.heap.size = t := ⟨_, rfl⟩
    have hx3 : Below W2.heap.size W2 W3 := ext_trans hb3 hb'
    have hbb3 : Below W0.heap.size W0 W3 := ext_trans hbb2 hx3
    have R13 := Lib.hid (show SlAt (encSl encSec) W3 (Bl W3.heap.size) B3 ima from (show SlAt (encSl encSec) w3 (Bl w3.heap.size) B3 ima from r1.more (fun g hg => hg.2)).fwd hb')
    have R23 := Lib.hid (show SlAt encSnp W3 (Bl W3.heap.size) D3 la from (show SlAt encSnp w3 (Bl w3.heap.size) D3 la from r2.more (fun g hg => hg.2)).fwd hb')
    rw [ht3] at hrt
    have htl3 : t3 < W3.heap.size := (Array.getElem?_eq_some_iff.1 hrt).1
    have HT3 := Lib.hid hrt
    clear HN r1 r2 hb3 hb' c0 c1 hrt
    go_upto_region 5 with (fail)
    try rw [hW3]
    try rw [ht3]
    clear hW3
    obtain ⟨c0, c1⟩ := HCB.out W3 hbb3
    have HN := Lib.hid ((snRevert_any A A2 c c2 im.length l.length im l num W3 rfl rfl (H1.out.fwd (ext_trans hB0 hbb3)) (H2.out.fwd (ext_trans hB0 hbb3)) HLM.out HC2.out))
    rw [hE.out.2, hE.out.1.2] at HN
    go_wp2_with fail
    refine HN.out.mono ?_
    rintro e w4 ⟨B4, vc4, D4, dc4, rfl, ⟨_, _, r1⟩, ⟨_, _, r2⟩, hb4⟩
    simp only at r1 r2
    obtain ⟨W4, hW4⟩ : ∃ W, w4.alloc (.cells #[.slice B4 imb.length vc4, .slice D4 lb.length dc4] 26) = W := ⟨_, rfl⟩
    have hb' : Below w4.heap.size w4 W4 := by rw [← hW4]; exact ext_alloc (Below.refl _ _)
    have hrt : W4.heap[w4.heap.size]? = some (.cells #[.slice B4 imb.length vc4, .slice D4 lb.length dc4] 26 (0, 0)) := by rw [← hW4]; exact heap_alloc_new _ _
    obtain ⟨t4, ht4⟩ : ∃ t, w4.heap.size = t := ⟨_, rfl⟩
    have hx4 : Below W3.heap.size W3 W4 := ext_trans hb4 hb'
    have hbb4 : Below W0.heap.size W0 W4 := ext_trans hbb3 hx4
    have R14 := Lib.hid (show SlAt (encSl encSec) W4 (Bl W4.heap.size) B4 imb from (show SlAt (encSl encSec) w4 (Bl w4.heap.size) B4 imb from r1.more (fun g hg => hg.2)).fwd hb')
    have R24 := Lib.hid (show SlAt encSnp W4 (Bl W4.heap.size) D4 lb from (show SlAt encSnp w4 (Bl w4.heap.size) D4 lb from r2.more (fun g hg => hg.2)).fwd hb')
    rw [ht4] at hrt
    have htl4 : t4 < W4.heap.size := (Array.getElem?_eq_some_iff.1 hrt).1
    have HT4 := Lib.hid hrt
    clear HN r1 r2 hb4 hb' c0 c1 hrt
    go_upto_region 6 with (fail)
    try rw [hW4]
    try rw [ht4]
    clear hW4
    obtain ⟨c0, c1⟩ := HCB.out W4 hbb4
    have HN := Lib.hid ((refSnRevert_any A A2 c c2 im.length l.length im l num W4 rfl rfl (H1.out.fwd (ext_trans hB0 hbb4)) (H2.out.fwd (ext_trans hB0 hbb4)) HLM.out))
    rw [hE.out.2, hE.out.1.2] at HN
    go_wp2_with fail
    refine HN.out.mono ?_
    rintro e w5 ⟨B5, vc5, D5, dc5, rfl, ⟨_, _, r1⟩, ⟨_, _, r2⟩, hb5⟩
    simp only at r1 r2
    obtain ⟨W5, hW5⟩ : ∃ W, w5.alloc (.cells #[.slice B5 imb.length vc5, .slice D5 lb.length dc5] 26) = W := ⟨_, rfl⟩
    have hb' : Below w5.heap.size w5 W5 := by rw [← hW5]; exact ext_alloc (Below.refl _ _)
    have hrt : W5.heap[w5.heap.size]? = some (.cells #[.slice B5 imb.length vc5, .slice D5 lb.length dc5] 26 (0, 0)) := by rw [← hW5]; exact heap_alloc_new _ _
    obtain ⟨t5, ht5⟩ : ∃ t, w5.heap.size = t := ⟨_, rfl⟩
    have hx5 : Below W4.heap.size W4 W5 := ext_trans hb5 hb'
    have hbb5 : Below W0.heap.size W0 W5 := ext_trans hbb4 hx5
    have R15 := Lib.hid (show SlAt (encSl encSec) W5 (Bl W5.heap.size) B5 imb from (show SlAt (encSl encSec) w5 (Bl w5.heap.size) B5 imb from r1.more (fun g hg => hg.2)).fwd hb')
    have R25 := Lib.hid (show SlAt encSnp W5 (Bl W5.heap.size) D5 lb from (show SlAt encSnp w5 (Bl w5.heap.size) D5 lb from r2.more (fun g hg => hg.2)).fwd hb')
    rw [ht5] at hrt
    have htl5 : t5 < W5.heap.size := (Array.getElem?_eq_some_iff.1 hrt).1
    have HT5 := Lib.hid hrt
    clear HN r1 r2 hb5 hb' c0 c1 hrt
    go_upto_region 7 with (fail)
    try rw [hW5]
    try rw [ht5]
    clear hW5
    have hz3 := hx3.size
    have hz4 := hx4.size
    have hz5 := hx5.size
    have HC : Hid (∀ W, Below W5.heap.size W5 W → (W.cell? ⟨t2, 0, none⟩ = some (.slice B2 ima.length vc2) ∧ W.cell? ⟨t2, 1, none⟩ = some (.slice D2 la.length dc2)) ∧ (W.cell? ⟨t3, 0, none⟩ = some (.slice B3 ima.length vc3) ∧ W.cell? ⟨t3, 1, none⟩ = some (.slice D3 la.length dc3)) ∧ (W.cell? ⟨t4, 0, none⟩ = some (.slice B4 imb.length vc4) ∧ W.cell? ⟨t4, 1, none⟩ = some (.slice D4 lb.length dc4)) ∧ W.cell? ⟨t5, 0, none⟩ = some (.slice B5 imb.length vc5) ∧ W.cell? ⟨t5, 1, none⟩ = some (.slice D5 lb.length dc5)) := fun W hb => by
      obtain ⟨a, b, _⟩ := blk2 ((hb.block t2 (by omega)).trans ((hx5.block t2 (by omega)).trans ((hx4.block t2 (by omega)).trans ((hx3.block t2 htl2).trans HT2.out))))
      obtain ⟨a', b', _⟩ := blk2 ((hb.block t3 (by omega)).trans ((hx5.block t3 (by omega)).trans ((hx4.block t3 htl3).trans HT3.out)))
      obtain ⟨a2, b2, _⟩ := blk2 ((hb.block t4 (by omega)).trans ((hx5.block t4 htl4).trans HT4.out))
      obtain ⟨a3, b3, _⟩ := blk2 ((hb.block t5 htl5).trans HT5.out)
      exact ⟨⟨a, b⟩, ⟨a', b'⟩, ⟨a2, b2⟩, a3, b3⟩
    have hx25 : Below W2.heap.size W2 W5 := ext_trans hx3 (ext_trans hx4 hx5)
    have hx35 : Below W3.heap.size W3 W5 := ext_trans hx4 hx5
    have K1 := Lib.hid (fun W (hb : Below W5.heap.size W5 W) => snSame_true B2 D2 B3 D3 vc2 dc2 vc3 dc3 ima.length la.length ima la W rfl rfl (R12.out.fwd (ext_trans hx25 hb)) (R22.out.fwd (ext_trans hx25 hb)) (R13.out.fwd (ext_trans hx35 hb)) (R23.out.fwd (ext_trans hx35 hb)) (by omega) (by omega))
    have K2 := Lib.hid (fun W (hb : Below W5.heap.size W5 W) => snSame_true B4 D4 B5 D5 vc4 dc4 vc5 dc5 imb.length lb.length imb lb W rfl rfl (R14.out.fwd (ext_trans hx5 hb)) (R24.out.fwd (ext_trans hx5 hb)) (R15.out.fwd hb) (R25.out.fwd hb) (by omega) (by omega))
    go_wp2_with fail
    refine (awake36_any _).mono ?_
    rintro e w6 ⟨rfl, hx6⟩
    obtain ⟨⟨p0, p1⟩, ⟨p2, p3⟩, ⟨p4, p5⟩, p6, p7⟩ := HC.out w6 hx6
    go_wp2_with fail
    refine (K1.out w6 hx6).mono ?_
    rintro e w7 ⟨rfl, hb7⟩
    have hx7 : Below W5.heap.size W5 w7 := ext_trans hx6 hb7
    clear p0 p1 p2 p3 p4 p5 p6 p7
    obtain ⟨⟨p0, p1⟩, ⟨p2, p3⟩, ⟨p4, p5⟩, p6, p7⟩ := HC.out w7 hx7
    go_wp2_with fail
    refine (K2.out w7 hx7).mono ?_
    rintro e w8 ⟨rfl, hb8⟩
    have hx8 : Below W5.heap.size W5 w8 := ext_trans hx7 hb8
    go_wp2_with fail
    go_ret
    exact ⟨rfl, ext_trans hB0 (ext_trans hbb5 hx8)⟩
end Go.Proofs.YtgmeghandjkkcaaGreat
