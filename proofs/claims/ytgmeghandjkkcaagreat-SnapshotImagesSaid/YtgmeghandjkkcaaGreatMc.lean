/-
  The law of Image and Between: the walk.
-/
import Derived.Test.YtgmeghandjkkcaaGreatLw
import Derived.Test.YtgmeghandjkkcaaGreatRw
import Derived.Test.YtgmeghandjkkcaaGreatNm
set_option linter.unusedVariables false
set_option linter.unusedSimpArgs false
set_option linter.unusedSectionVars false
set_option linter.unnecessarySimpa false
namespace Go.Proofs.YtgmeghandjkkcaaGreat
open Go.RowKit Go.Shelf
attribute [local go_sem] Oper.semAt_some

theorem betS_len (im : Img) (l : List Snp) (a b : Int) : (betS (im, l) a b).length ≤ im.length := by
  unfold betS
  split
  · rw [List.length_map, List.length_range]; exact Nat.le_refl _
  · simp
theorem sImage_len (im : Img) (l : List Snp) (n : Int) : (sImage (im, l) n).length ≤ im.length := by
  by_cases h : findE (im, l) n = 0
  · unfold sImage
    rw [if_pos h]
    have h2 := atL_lens (im := im) (l := l.drop (findN (im, l) n)) (fun x hx => (snE_ok (findE_ok h).1).2 x (List.mem_of_mem_drop hx))
    have := congrArg List.length h2
    have h3 : (atL im (l.drop (findN (im, l) n))).length = im.length := by simpa [lens] using this
    exact Nat.le_of_eq h3
  · unfold sImage
    rw [if_neg h]
    simp
set_option maxHeartbeats 4000000 in
set_option maxRecDepth 100000 in
theorem images36_any (A A2 : Option Addr) (c c2 n m : Nat) (im : Img) (l : List Snp) (na nb : Int) (w : World) (hn : im.length = n) (hm : l.length = m) (h1 : SlAt (encSl encSec) w (Bl w.heap.size) A im) (h2 : SlAt encSnp w (Bl w.heap.size) A2 l) (hl1 : n ≤ 9223372036854775807) (hl2 : m ≤ 9223372036854775807) (hc2 : m ≤ c2) :
    Calls Tryz.prog 5 #[.agg #[.slice A n c, .slice A2 m c2], .int .i64 na, .int .i64 nb] w (LawRet w) := by
  subst hn hm
  have H1 := Lib.hid h1; have H2 := Lib.hid h2; clear h1 h2
  have HC2 := Lib.hid hc2
  clear hc2
  obtain ⟨q, hq⟩ : ∃ q, Hid (fewS (im, l) = q) := ⟨_, Lib.hid rfl⟩
  obtain ⟨n0, hn0⟩ : ∃ n0, w.heap.size = n0 := ⟨_, rfl⟩
  obtain ⟨W0, hW0⟩ : ∃ W0, w.alloc (.cells #[.slice A im.length c, .slice A2 l.length c2] 26) = W0 := ⟨_, rfl⟩
  have hB0 : Below w.heap.size w W0 := by rw [← hW0]; exact ext_alloc (Below.refl _ _)
  have hr0 : W0.heap[n0]? = some (.cells #[.slice A im.length c, .slice A2 l.length c2] 26 (0, 0)) := by rw [← hW0, ← hn0]; exact heap_alloc_new _ _
  have hs0 : n0 < W0.heap.size := (Array.getElem?_eq_some_iff.1 hr0).1
  have HCB : Hid (∀ W, Below W0.heap.size W0 W → (W.cell? ⟨n0, 0, none⟩ = some (.slice A im.length c) ∧ W.cell? ⟨n0, 1, none⟩ = some (.slice A2 l.length c2))) := fun W hb => by
    obtain ⟨a, b, _⟩ := blk2 ((hb.block n0 (by omega)).trans hr0)
    exact ⟨a, b⟩
  have HFW := Lib.hid (snFew_any A A2 c c2 im.length l.length im l q W0 rfl rfl hq.out (H1.out.fwd hB0) (H2.out.fwd hB0) hl1 hl2)
  obtain ⟨c0, c1⟩ := HCB.out W0 (Below.refl _ _)
  clear hr0
  go_enter Tryz.func5, Tryz.ntmps5
  go_wp2_with fail
  refine HFW.out.mono ?_
  rintro e W1 ⟨rfl, hbb1⟩
  clear HFW c0 c1 hW0
  cases q with
  | false =>
    go_upto_region 2 with (fail)
    go_wp2_with fail
    refine (awake36_any _).mono ?_
    rintro e wz ⟨rfl, hbz⟩
    go_wp2
    go_ret
    exact ⟨rfl, ext_trans hB0 (ext_trans hbb1 hbz)⟩
  | true =>
    obtain ⟨HL, hk1, hk2⟩ := fewS_lim hq.out
    have HLM := Lib.hid HL
    clear HL
    have hra := sImage_len im l na
    have hrb := betS_len im l na nb
    obtain ⟨ra, hs⟩ : ∃ s, sImage (im, l) na = s := ⟨_, rfl⟩
    obtain ⟨x, hx⟩ : ∃ x, findE (im, l) na = x := ⟨_, rfl⟩
    obtain ⟨rb, ht⟩ : ∃ s, betS (im, l) na nb = s := ⟨_, rfl⟩
    obtain ⟨y, hy⟩ : ∃ y, betE (im, l) na nb = y := ⟨_, rfl⟩
    rw [hs] at hra
    rw [ht] at hrb
    have hra' : ra.length ≤ 9 := Nat.le_trans hra hk2
    have hrb' : rb.length ≤ 9 := Nat.le_trans hrb hk2
    have hE := Lib.hid (And.intro (And.intro hs hx) (And.intro ht hy))
    clear hra hrb hs hx ht hy
    obtain ⟨c0, c1⟩ := HCB.out W1 hbb1
    have HN := Lib.hid (snImage_any A A2 c c2 im.length l.length im l na W1 rfl rfl (H1.out.fwd (ext_trans hB0 hbb1)) (H2.out.fwd (ext_trans hB0 hbb1)) HLM.out HC2.out ra hE.out.1.1 x hE.out.1.2)
    go_wp2_with fail
    refine HN.out.mono ?_
    rintro e W2 ⟨B2, vc2, rfl, _, _, r1, hx2⟩
    have hbb2 : Below W0.heap.size W0 W2 := ext_trans hbb1 hx2
    have R2 := Lib.hid (show SlAt (encSl encSec) W2 (Bl W2.heap.size) B2 ra from r1.more (fun g hg => hg.2))
    clear HN r1 c0 c1
    obtain ⟨c0, c1⟩ := HCB.out W2 hbb2
    have HN := Lib.hid (refImage_any A A2 c c2 im.length l.length im l na W2 rfl rfl (H1.out.fwd (ext_trans hB0 hbb2)) (H2.out.fwd (ext_trans hB0 hbb2)) HLM.out ra hE.out.1.1 x hE.out.1.2)
    go_wp2_with fail
    refine HN.out.mono ?_
    rintro e W3 ⟨B3, vc3, rfl, _, _, r1, hx3⟩
    have hbb3 : Below W0.heap.size W0 W3 := ext_trans hbb2 hx3
    have R3 := Lib.hid (show SlAt (encSl encSec) W3 (Bl W3.heap.size) B3 ra from r1.more (fun g hg => hg.2))
    clear HN r1 c0 c1
    obtain ⟨c0, c1⟩ := HCB.out W3 hbb3
    have HN := Lib.hid (snBetween_any A A2 c c2 im.length l.length im l na nb W3 rfl rfl (H1.out.fwd (ext_trans hB0 hbb3)) (H2.out.fwd (ext_trans hB0 hbb3)) HLM.out HC2.out rb hE.out.2.1 y hE.out.2.2)
    go_wp2_with fail
    refine HN.out.mono ?_
    rintro e W4 ⟨B4, vc4, rfl, _, _, r1, hx4⟩
    have hbb4 : Below W0.heap.size W0 W4 := ext_trans hbb3 hx4
    have R4 := Lib.hid (show SlAt (encSl encExt) W4 (Bl W4.heap.size) B4 rb from r1.more (fun g hg => hg.2))
    clear HN r1 c0 c1
    obtain ⟨c0, c1⟩ := HCB.out W4 hbb4
    have HN := Lib.hid (refBetween_any A A2 c c2 im.length l.length im l na nb W4 rfl rfl (H1.out.fwd (ext_trans hB0 hbb4)) (H2.out.fwd (ext_trans hB0 hbb4)) HLM.out rb hE.out.2.1 y hE.out.2.2)
    go_wp2_with fail
    refine HN.out.mono ?_
    rintro e W5 ⟨B5, vc5, rfl, _, _, r1, hx5⟩
    have hbb5 : Below W0.heap.size W0 W5 := ext_trans hbb4 hx5
    have R5 := Lib.hid (show SlAt (encSl encExt) W5 (Bl W5.heap.size) B5 rb from r1.more (fun g hg => hg.2))
    clear HN r1 c0 c1
    have hx25 : Below W2.heap.size W2 W5 := ext_trans hx3 (ext_trans hx4 hx5)
    have hx35 : Below W3.heap.size W3 W5 := ext_trans hx4 hx5
    go_wp2_with fail
    refine (awake36_any _).mono ?_
    rintro e w6 ⟨rfl, hx6⟩
    have K1 := Lib.hid (sameImg07_any B2 B3 vc2 vc3 _ _ ra ra w6 (R2.out.fwd (ext_trans hx25 hx6)) (R3.out.fwd (ext_trans hx35 hx6)) (by omega) (by omega))
    go_wp2_with fail
    refine K1.out.mono ?_
    rintro e w7 ⟨he, hd7⟩
    have he' : e = .returned (.bool true) := by rw [he]; simp
    subst he'
    have K2 := Lib.hid (sameExts_true B4 B5 vc4 vc5 rb.length _ _ rb w7 rfl ((R4.out.fwd (ext_trans hx5 hx6)).drew hd7) ((R5.out.fwd hx6).drew hd7) (by omega))
    clear he
    go_wp2_with fail
    refine K2.out.mono ?_
    rintro e w8 ⟨rfl, hd8⟩
    have hx8 : Below W5.heap.size W5 w8 := ext_trans hx6 ((hd7.trans hd8).below _)
    go_wp2_with fail
    go_ret
    exact ⟨rfl, ext_trans hB0 (ext_trans hbb5 hx8)⟩
end Go.Proofs.YtgmeghandjkkcaaGreat
