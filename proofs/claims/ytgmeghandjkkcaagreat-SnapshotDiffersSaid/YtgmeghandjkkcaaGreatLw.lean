/-
  The examples of the chapter: the walk.
-/
import Derived.Test.YtgmeghandjkkcaaGreatKy
set_option linter.unusedVariables false
set_option linter.unusedSimpArgs false
set_option linter.unusedSectionVars false
set_option linter.unnecessarySimpa false
namespace Go.Proofs.YtgmeghandjkkcaaGreat
open Go.RowKit Go.Shelf
attribute [local go_sem] Oper.semAt_some

theorem zsec_sB : zsec = sB 0 := by decide
set_option maxHeartbeats 8000000 in
set_option maxRecDepth 100000 in
theorem awake36_any (w : World) : Calls Tryz.prog 9 #[] w fun e w' => e = .returned (.bool true) ∧ Below w.heap.size w w' := by
  obtain ⟨n0, hn0⟩ : ∃ n0, w.heap.size = n0 := ⟨_, rfl⟩
  rw [hn0]
  obtain ⟨cur, hcs, hcz, hmk⟩ := makeSecs 4 (by omega) w
  have h4 : ((4 : Nat) : Int) = 4 := rfl
  rw [h4, hn0] at hmk
  go_enter Tryz.func9, Tryz.ntmps9
  go_wp2_with fail
  try rw [hn0]
  obtain ⟨W1, hW1⟩ : ∃ W1, (w.alloc (.cells cur 65)).alloc (.cells #[.slice (some ⟨n0, 0, none⟩) 4 4] 66) = W1 := ⟨_, rfl⟩
  try rw [hW1]
  have hs1 : W1.heap.size = n0 + 2 := by rw [← hW1, ← hn0]; simp
  have hB1 : Below n0 w W1 := by rw [← hW1, ← hn0]; exact ext_alloc (ext_alloc (Below.refl _ _))
  have hI1 : SlAt (encSl encSec) W1 (Bl W1.heap.size) (some ⟨n0 + 1, 0, none⟩) (imgB [0, 0, 0, 0]) := by
    have r1 : W1.heap[n0]? = some (.cells cur 65 (0, 0)) := by rw [← hW1, ← hn0]; exact (Below.heap_alloc _ _ _ (by simp)).trans (heap_alloc_new _ _)
    have r2 : W1.heap[n0 + 1]? = some (.cells #[.slice (some ⟨n0, 0, none⟩) 4 4] 66 (0, 0)) := by rw [← hW1, ← hn0]; exact heap_new2 _ _ _
    have k1 : SlAt encSec W1 (fun g => g = n0) (some ⟨n0, 0, none⟩) (List.replicate 4 zsec) := zsecs_at r1 rfl hcz
    exact litS (E := encSl encSec) (S0 := fun g => g = n0) (css := [[.slice (some ⟨n0, 0, none⟩) 4 4]]) r2 rfl ⟨⟨_, 4, rfl, by simp, by decide, k1⟩, trivial⟩ (fun g hg => by show g < W1.heap.size; omega) (by show n0 + 1 < W1.heap.size; omega) (by omega)
  refine (snNew_any (some ⟨n0 + 1, 0, none⟩) 1 1 (imgB [0, 0, 0, 0]) W1 rfl hI1 (fewS_lim aw_few.1).1).mono ?_
  rintro e w2 he
  obtain ⟨B2, vc2, D2, dc2, mid2, rfl, hn2, hs2, hb2⟩ := AwR.of (n := 1) (m := 0) he aw_1.1 aw_1.2 ⟨rfl, rfl⟩
  have hA2 := AwI.made hs2 hn2 hb2.size
  have hz2 := hb2.size
  clear he hI1 hmk hcz hcs h4 hs2
  go_upto_region 2 with (fail)
  have hB3 : Below n0 w (w2.alloc (.cells #[.slice B2 1 vc2, .slice D2 0 dc2] 26)) := (hB1.trans (hb2.mono (by omega))).alloc (by omega) _
  obtain ⟨t, ht⟩ : ∃ t, w2.heap.size = t := ⟨_, rfl⟩
  generalize w2.alloc (.cells #[.slice B2 1 vc2, .slice D2 0 dc2] 26) = W3 at hA2 hB3 ⊢
  rw [ht] at hA2 ⊢
  have hnt : n0 ≤ t := by omega
  have hA := Lib.hid hA2
  clear hA2 hW1 hB1 hs1 hz2 hb2 ht hn2
  go_cut [3] (fun e wx => e = .int .i64 0 ∧ (∃ B vc D dc, AwI t B vc D dc 1 0 aw2 wx) ∧ Below n0 w wx)
  case first =>
    obtain ⟨c0, c1, cf⟩ := blk2 hA.out.1
    have htl : t < W3.heap.size := hA.out.lt
    have hzw : n0 ≤ W3.heap.size := by omega
    have hst : I64 0 := by unfold I64; omega
    have hrb : ((W3.alloc (.cells #[.int .u8 97] 5)).drew).heap[W3.heap.size]? = some (.cells #[.int .u8 97] 5 (0, 0)) := heap_alloc_new _ _
    have hbd : Below W3.heap.size W3 ((W3.alloc (.cells #[.int .u8 97] 5)).drew) := (ext_alloc (Below.refl _ _)).drew
    go_region_law (first | (go_simp; go_at_call 10; refine HAP.out.mono ?_; rintro e w5 ⟨B5, vc5, D5, dc5, mid5, rfl, hn5, hs5, hb5⟩; have hA5 := Lib.hid (hA4.out.below hb5); obtain ⟨v0, v1, vf⟩ := blk2 hA5.out.1) | (go_simp; go_at_call 31; refine (awWrite (bs := [97]) 0 hrb rfl (by decide) rfl (by decide) hst).mono ?_; rintro e w4 ⟨D4, rfl, hs4, hb4⟩; have hx4 : Below W3.heap.size W3 w4 := ext_trans hbd hb4; have hA4 := Lib.hid (hA.out.below hx4); obtain ⟨u0, u1, _⟩ := blk2 hA4.out.1; have HAP := Lib.hid (awApply (c3 := 1) (s' := aw2) (n' := 1) (m' := 0) hA4.out (hs4.more (fun g hg => hg.2)) aw_few.1 aw_2 ⟨rfl, rfl⟩)))
    all_goals
      go_wp2
      go_meet
      have hz4 := hx4.size
      refine ⟨rfl, ⟨B5, vc5, D5, dc5, AwI.store hs5 hA5.out.1 (by omega) hn5⟩, (((hB3.trans (hx4.mono hzw)).trans (hb5.mono (by omega))).setCell (p := ⟨t, 0, none⟩) hnt _).setCell (p := ⟨t, 1, none⟩) hnt _⟩
  case rest =>
  obtain ⟨rfl, ⟨B3, vc3, D3, dc3, hA'⟩, hB3'⟩ := hcut
  have hAB := And.intro hA' hB3'
  clear hA hB3 hA' hB3'
  revert wc
  intro W3 hAB
  have hA := Lib.hid hAB.1
  have hB3 := hAB.2
  clear hAB
  go_upto_region 3 with (fail)
  obtain ⟨c0, c1, cf⟩ := blk2 hA.out.1
  have htl : t < W3.heap.size := hA.out.lt
  have HTK := Lib.hid (awTake (s' := aw3) (n' := 1) (m' := 1) hA.out (num := 1) (tm := 5) ⟨by unfold I64; omega, by unfold I64; omega⟩ aw_few.2.1 aw_3 ⟨rfl, rfl⟩)
  go_wp2_with fail
  refine HTK.out.mono ?_
  rintro e w5 ⟨B5, vc5, D5, dc5, mid5, rfl, hn5, hs5, hb5⟩
  have hA5 := Lib.hid (hA.out.below hb5)
  clear c0 c1 cf HTK
  obtain ⟨v0, v1, vf⟩ := blk2 hA5.out.1
  have hA6 := AwI.store hs5 hA5.out.1 htl hn5
  have hB6 : Below n0 w ((w5.setCell ⟨t, 0, none⟩ (.slice B5 1 vc5)).setCell ⟨t, 1, none⟩ (.slice D5 1 dc5)) := (((hB3.trans (hb5.mono (by omega))).setCell (p := ⟨t, 0, none⟩) hnt (.slice B5 1 vc5)).setCell (p := ⟨t, 1, none⟩) hnt (.slice D5 1 dc5))
  have HA6 := Lib.hid hA6
  have HB6 := Lib.hid hB6
  clear hA6 hB6 hs5 hn5 hb5
  go_upto_region 4 with (fail)
  have hA6 := HA6.out
  have hB6 := HB6.out
  clear hA hB3 hA5 htl HA6 HB6 v0 v1 vf
  generalize (w5.setCell ⟨t, 0, none⟩ (.slice B5 1 vc5)).setCell ⟨t, 1, none⟩ (.slice D5 1 dc5) = W6 at hA6 hB6 ⊢
  have hAB := And.intro hA6 hB6
  clear hA6 hB6
  revert W6
  intro W3 hAB
  have hA := Lib.hid hAB.1
  have hB3 := hAB.2
  clear hAB
  go_cut [5] (fun e wx => e = .int .i64 0 ∧ (∃ B vc D dc, AwI t B vc D dc 1 1 aw4 wx) ∧ Below n0 w wx)
  case first =>
    obtain ⟨c0, c1, cf⟩ := blk2 hA.out.1
    have htl : t < W3.heap.size := hA.out.lt
    have hzw : n0 ≤ W3.heap.size := by omega
    have hst : I64 0 := by unfold I64; omega
    have hrb : ((W3.alloc (.cells #[.int .u8 98, .int .u8 98] 5)).drew).heap[W3.heap.size]? = some (.cells #[.int .u8 98, .int .u8 98] 5 (0, 0)) := heap_alloc_new _ _
    have hbd : Below W3.heap.size W3 ((W3.alloc (.cells #[.int .u8 98, .int .u8 98] 5)).drew) := (ext_alloc (Below.refl _ _)).drew
    go_region_law (first | (go_simp; go_at_call 10; refine HAP.out.mono ?_; rintro e w5 ⟨B5, vc5, D5, dc5, mid5, rfl, hn5, hs5, hb5⟩; have hA5 := Lib.hid (hA4.out.below hb5); obtain ⟨v0, v1, vf⟩ := blk2 hA5.out.1) | (go_simp; go_at_call 31; refine (awWrite (bs := [98, 98]) 0 hrb rfl (by decide) rfl (by decide) hst).mono ?_; rintro e w4 ⟨D4, rfl, hs4, hb4⟩; have hx4 : Below W3.heap.size W3 w4 := ext_trans hbd hb4; have hA4 := Lib.hid (hA.out.below hx4); obtain ⟨u0, u1, _⟩ := blk2 hA4.out.1; have HAP := Lib.hid (awApply (c3 := 1) (s' := aw4) (n' := 1) (m' := 1) hA4.out (hs4.more (fun g hg => hg.2)) aw_few.2.2.1 aw_4 ⟨rfl, rfl⟩)))
    all_goals
      go_wp2
      go_meet
      have hz4 := hx4.size
      refine ⟨rfl, ⟨B5, vc5, D5, dc5, AwI.store hs5 hA5.out.1 (by omega) hn5⟩, (((hB3.trans (hx4.mono hzw)).trans (hb5.mono (by omega))).setCell (p := ⟨t, 0, none⟩) hnt _).setCell (p := ⟨t, 1, none⟩) hnt _⟩
  case rest =>
  obtain ⟨rfl, ⟨B3, vc3, D3, dc3, hA'⟩, hB3'⟩ := hcut
  have hAB := And.intro hA' hB3'
  clear hA hB3 hA' hB3'
  revert wc
  intro W3 hAB
  have hA := Lib.hid hAB.1
  have hB3 := hAB.2
  clear hAB
  go_upto_region 5 with (fail)
  obtain ⟨c0, c1, cf⟩ := blk2 hA.out.1
  have htl : t < W3.heap.size := hA.out.lt
  have HTK := Lib.hid (awTake (s' := aw5) (n' := 1) (m' := 2) hA.out (num := 2) (tm := 6) ⟨by unfold I64; omega, by unfold I64; omega⟩ aw_few.2.2.2.1 aw_5 ⟨rfl, rfl⟩)
  go_wp2_with fail
  refine HTK.out.mono ?_
  rintro e w5 ⟨B5, vc5, D5, dc5, mid5, rfl, hn5, hs5, hb5⟩
  have hA5 := Lib.hid (hA.out.below hb5)
  clear c0 c1 cf HTK
  obtain ⟨v0, v1, vf⟩ := blk2 hA5.out.1
  have hA6 := AwI.store hs5 hA5.out.1 htl hn5
  have hB6 : Below n0 w ((w5.setCell ⟨t, 0, none⟩ (.slice B5 1 vc5)).setCell ⟨t, 1, none⟩ (.slice D5 2 dc5)) := (((hB3.trans (hb5.mono (by omega))).setCell (p := ⟨t, 0, none⟩) hnt (.slice B5 1 vc5)).setCell (p := ⟨t, 1, none⟩) hnt (.slice D5 2 dc5))
  have HA6 := Lib.hid hA6
  have HB6 := Lib.hid hB6
  clear hA6 hB6 hs5 hn5 hb5
  go_upto_region 6 with (fail)
  have hA6 := HA6.out
  have hB6 := HB6.out
  clear hA hB3 hA5 htl HA6 HB6 v0 v1 vf
  generalize (w5.setCell ⟨t, 0, none⟩ (.slice B5 1 vc5)).setCell ⟨t, 1, none⟩ (.slice D5 2 dc5) = W6 at hA6 hB6 ⊢
  have hAB := And.intro hA6 hB6
  clear hA6 hB6
  revert W6
  intro W3 hAB
  have hA := Lib.hid hAB.1
  have hB3 := hAB.2
  clear hAB
  go_cut [7] (fun e wx => e = .int .i64 0 ∧ (∃ B vc D dc, AwI t B vc D dc 1 2 aw6 wx) ∧ Below n0 w wx)
  case first =>
    obtain ⟨c0, c1, cf⟩ := blk2 hA.out.1
    have htl : t < W3.heap.size := hA.out.lt
    have hzw : n0 ≤ W3.heap.size := by omega
    have hst : I64 1 := by unfold I64; omega
    have hrb : ((W3.alloc (.cells #[.int .u8 99] 5)).drew).heap[W3.heap.size]? = some (.cells #[.int .u8 99] 5 (0, 0)) := heap_alloc_new _ _
    have hbd : Below W3.heap.size W3 ((W3.alloc (.cells #[.int .u8 99] 5)).drew) := (ext_alloc (Below.refl _ _)).drew
    go_region_law (first | (go_simp; go_at_call 10; refine HAP.out.mono ?_; rintro e w5 ⟨B5, vc5, D5, dc5, mid5, rfl, hn5, hs5, hb5⟩; have hA5 := Lib.hid (hA4.out.below hb5); obtain ⟨v0, v1, vf⟩ := blk2 hA5.out.1) | (go_simp; go_at_call 31; refine (awWrite (bs := [99]) 1 hrb rfl (by decide) rfl (by decide) hst).mono ?_; rintro e w4 ⟨D4, rfl, hs4, hb4⟩; have hx4 : Below W3.heap.size W3 w4 := ext_trans hbd hb4; have hA4 := Lib.hid (hA.out.below hx4); obtain ⟨u0, u1, _⟩ := blk2 hA4.out.1; have HAP := Lib.hid (awApply (c3 := 1) (s' := aw6) (n' := 1) (m' := 2) hA4.out (hs4.more (fun g hg => hg.2)) aw_few.2.2.2.2.1 aw_6 ⟨rfl, rfl⟩)))
    all_goals
      go_wp2
      go_meet
      have hz4 := hx4.size
      refine ⟨rfl, ⟨B5, vc5, D5, dc5, AwI.store hs5 hA5.out.1 (by omega) hn5⟩, (((hB3.trans (hx4.mono hzw)).trans (hb5.mono (by omega))).setCell (p := ⟨t, 0, none⟩) hnt _).setCell (p := ⟨t, 1, none⟩) hnt _⟩
  case rest =>
  obtain ⟨rfl, ⟨B3, vc3, D3, dc3, hA'⟩, hB3'⟩ := hcut
  have hAB := And.intro hA' hB3'
  clear hA hB3 hA' hB3'
  revert wc
  intro W3 hAB
  have hA := Lib.hid hAB.1
  have hB3 := hAB.2
  clear hAB
  go_upto_region 7 with (fail)
  have htl : t < W3.heap.size := hA.out.lt
  have hnW : n0 ≤ W3.heap.size := by omega
  obtain ⟨b, off, D0, d0, he, hb, _, _, g2, hD0, _, _, _, _⟩ := hA.out.2.2.2.2.snp (k := 0) (by decide)
  obtain ⟨b', off', D1, d1, he', _, _, _, g5, hD1, _, _, _, _⟩ := hA.out.2.2.2.2.snp (k := 1) (by decide)
  subst he
  injection he' with he'
  injection he' with e1 e2
  subst e1 e2
  have hg2 : W3.cell? ⟨b, off + 2, none⟩ = some (.slice D0 1 d0) := g2
  have hg5 : W3.cell? ⟨b, off + 5, none⟩ = some (.slice D1 1 d1) := g5
  have HC : Hid (∀ W, Below W3.heap.size W3 W → (W.cell? ⟨t, 0, none⟩ = some (.slice B3 1 vc3) ∧ W.cell? ⟨t, 1, none⟩ = some (.slice (some ⟨b, off, none⟩) 2 dc3)) ∧ W.cell? ⟨b, off + 2, none⟩ = some (.slice D0 1 d0) ∧ W.cell? ⟨b, off + 5, none⟩ = some (.slice D1 1 d1)) := fun W hbW => by
    obtain ⟨c0, c1, _⟩ := blk2 (hA.out.below hbW).1
    exact ⟨⟨c0, c1⟩, (hbW.cell (p := ⟨b, off + 2, none⟩) hb.2).trans hg2, (hbW.cell (p := ⟨b, off + 5, none⟩) hb.2).trans hg5⟩
  have hD0' : SlAt encWr W3 (Bl W3.heap.size) D0 [wrB 0 [97, 0]] := hD0.more (fun g hg => hg.2)
  have hD1' : SlAt encWr W3 (Bl W3.heap.size) D1 [wrB 1 [98]] := hD1.more (fun g hg => hg.2)
  have HD0 := Lib.hid hD0'
  have HD1 := Lib.hid hD1'
  have hrb : ((W3.alloc (.cells #[.int .u8 97, .int .u8 0] 5)).drew).heap[W3.heap.size]? = some (.cells #[.int .u8 97, .int .u8 0] 5 (0, 0)) := heap_alloc_new _ _
  have hbd : Below W3.heap.size W3 ((W3.alloc (.cells #[.int .u8 97, .int .u8 0] 5)).drew) := (ext_alloc (Below.refl _ _)).drew
  have hi0 : I64 0 := by unfold I64; omega
  have hi1 : I64 1 := by unfold I64; omega
  have hc0 := HC.out W3.drew (Below.refl _ _).drew
  clear g2 g5 hD0 hD1 hD0' hD1' hg2 hg5
  go_region_held3 (fun W => (W.cell? ⟨t, 0, none⟩ = some (.slice B3 1 vc3) ∧ W.cell? ⟨t, 1, none⟩ = some (.slice (some ⟨b, off, none⟩) 2 dc3)) ∧ W.cell? ⟨b, off + 2, none⟩ = some (.slice D0 1 d0) ∧ W.cell? ⟨b, off + 5, none⟩ = some (.slice D1 1 d1)) (first | exact hc0 | exact HC.out _ hx9 | exact HC.out _ hx8 | exact HC.out _ hx7 | exact HC.out _ (ext_alloc hx6) | exact HC.out _ (ext_alloc hx6).drew | exact HC.out _ hx6 | exact HC.out _ hx5 | exact HC.out _ hbd | exact HC.out _ (ext_alloc (Below.refl _ _)) | go_keep) (first | (go_at_call 33; refine HCO.out.mono ?_; rintro e w9 ⟨rfl, hb9⟩; have hx9 : Below W3.heap.size W3 w9 := ext_trans hx8 hb9) | (go_at_call 32; refine HS2.out.mono ?_; rintro e w8 ⟨rfl, hb8⟩; have hx8 : Below W3.heap.size W3 w8 := ext_trans hx7 hb8; have HCO := Lib.hid (awCost (hA.out.below hx8) aw_few.2.2.2.2.2.1 aw_c.1)) | (go_at_call 31; refine (awWrite (W := w6.alloc (.cells #[.int .u8 98] 5)) (bs := [98]) 1 (heap_alloc_new _ _) rfl (by decide) rfl (by decide) hi1).mono ?_; rintro e w7 ⟨D7, rfl, hs7, hb7⟩; have hx7 : Below W3.heap.size W3 w7 := ext_trans (ext_alloc hx6) hb7; have HS2 := Lib.hid (same_any D1 D7 d1 1 _ _ [wrB 1 [98]] [wrB 1 [98]] w7 (HD1.out.fwd hx7) hs7 (by decide) (by decide) true (by decide))) | (go_at_call 32; refine HS1.out.mono ?_; rintro e w6 ⟨rfl, hb6⟩; have hx6 : Below W3.heap.size W3 w6 := ext_trans hx5 hb6) | (go_at_call 31; refine (awWrite (bs := [97, 0]) 0 hrb rfl (by decide) rfl (by decide) hi0).mono ?_; rintro e w5 ⟨D5, rfl, hs5, hb5⟩; have hx5 : Below W3.heap.size W3 w5 := ext_trans hbd hb5; have HS1 := Lib.hid (same_any D0 D5 d0 1 _ _ [wrB 0 [97, 0]] [wrB 0 [97, 0]] w5 (HD0.out.fwd hx5) hs5 (by decide) (by decide) true (by decide))))
  have hA9 := Lib.hid (hA.out.below hx9)
  have hB9 : Below n0 w w9 := hB3.trans (hx9.mono hnW)
  have hz9 := hx9.size
  clear HC HD0 HD1 HS1 HS2 HCO hb5 hs5 hb6 hs7 hb7 hb8 hb9 hx5 hx6 hx7 hx8 hrb hbd hc0 hA hB3 hb
  have HI1 := Lib.hid (awImage (r := imgB [97, 0, 0, 0]) (k := 1) (num := 1) hA9.out aw_few.2.2.2.2.2.1 aw_i.1 rfl)
  obtain ⟨c0, c1, _⟩ := blk2 hA9.out.1
  go_wp2_with fail
  refine HI1.out.mono ?_
  rintro e w10 ⟨A10, c10, rfl, hs10, hb10⟩
  have hA10 := Lib.hid (hA9.out.below hb10)
  have hI10 := Lib.hid (show SlAt (encSl encSec) w10 (Bl w10.heap.size) A10 (imgB [97, 0, 0, 0]) from hs10.more (fun g hg => hg.2))
  clear c0 c1 hs10 HI1
  have HI2 := Lib.hid (awImage (r := imgB [98, 98, 0, 0]) (k := 1) (num := 2) hA10.out aw_few.2.2.2.2.2.1 ⟨aw_i.2, aw_7.2⟩ rfl)
  obtain ⟨c0, c1, _⟩ := blk2 hA10.out.1
  go_wp2_with fail
  refine HI2.out.mono ?_
  rintro e w11 ⟨A11, c11, rfl, hs11, hb11⟩
  have hA11 := Lib.hid (hA10.out.below hb11)
  have hI11 := Lib.hid (show SlAt (encSl encSec) w11 (Bl w11.heap.size) A11 (imgB [98, 98, 0, 0]) from hs11.more (fun g hg => hg.2))
  clear c0 c1 hs11 HI2
  have HDL := Lib.hid (awDelete (s' := aw7) (n' := 1) (m' := 1) (num := 2) hA11.out aw_few.2.2.2.2.2.1 aw_7 ⟨rfl, rfl⟩)
  obtain ⟨c0, c1, _⟩ := blk2 hA11.out.1
  go_wp2_with fail
  refine HDL.out.mono ?_
  rintro e w12 ⟨B12, vc12, D12, dc12, mid12, rfl, hn12, hs12, hb12⟩
  have hA12 := Lib.hid (AwI.made hs12 hn12 hb12.size)
  have hbW : Below w12.heap.size w12 (w12.alloc (.cells #[.slice B12 1 vc12, .slice D12 1 dc12] 26)) := ext_alloc (Below.refl _ _)
  clear c0 c1 hs12 hn12 HDL
  go_upto_region 12 with (fail)
  obtain ⟨u, hu⟩ : ∃ u, w12.heap.size = u := ⟨_, rfl⟩
  generalize w12.alloc (.cells #[.slice B12 1 vc12, .slice D12 1 dc12] 26) = W3 at hA12 hbW ⊢
  rw [hu] at hA12 ⊢
  have hx3 : Below w10.heap.size w10 W3 := ext_trans (ext_trans hb11 hb12) hbW
  have hx11 : Below w11.heap.size w11 W3 := ext_trans hb12 hbW
  have htl3 : u < W3.heap.size := hA12.out.lt
  obtain ⟨b12, off12, D0, d0, he, hb, _, _, g2, hD0, _, _, _, _⟩ := hA12.out.2.2.2.2.snp (k := 0) (by decide)
  subst he
  have hg2 : W3.cell? ⟨b12, off12 + 2, none⟩ = some (.slice D0 1 d0) := g2
  have HC : Hid (∀ W, Below W3.heap.size W3 W → (W.cell? ⟨u, 0, none⟩ = some (.slice B12 1 vc12) ∧ W.cell? ⟨u, 1, none⟩ = some (.slice (some ⟨b12, off12, none⟩) 1 dc12)) ∧ W.cell? ⟨b12, off12 + 2, none⟩ = some (.slice D0 1 d0)) := fun W hbW => by
    obtain ⟨c0, c1, _⟩ := blk2 (hA12.out.below hbW).1
    exact ⟨⟨c0, c1⟩, (hbW.cell (p := ⟨b12, off12 + 2, none⟩) hb.2).trans hg2⟩
  have hD0' : SlAt encWr W3 (Bl W3.heap.size) D0 [wrB 0 [97, 0]] := hD0.more (fun g hg => hg.2)
  have HD0 := Lib.hid hD0'
  have hrb : ((W3.alloc (.cells #[.int .u8 97, .int .u8 0] 5)).drew).heap[W3.heap.size]? = some (.cells #[.int .u8 97, .int .u8 0] 5 (0, 0)) := heap_alloc_new _ _
  have hbd : Below W3.heap.size W3 ((W3.alloc (.cells #[.int .u8 97, .int .u8 0] 5)).drew) := (ext_alloc (Below.refl _ _)).drew
  have hc0 := HC.out W3.drew (Below.refl _ _).drew
  clear g2 hD0 hD0' hg2 hbW hu
  go_region_held3 (fun W => (W.cell? ⟨u, 0, none⟩ = some (.slice B12 1 vc12) ∧ W.cell? ⟨u, 1, none⟩ = some (.slice (some ⟨b12, off12, none⟩) 1 dc12)) ∧ W.cell? ⟨b12, off12 + 2, none⟩ = some (.slice D0 1 d0)) (first | exact hc0 | exact HC.out _ hx7 | exact HC.out _ hx6 | exact HC.out _ hx5 | exact HC.out _ hbd | exact HC.out _ (ext_alloc (Below.refl _ _)) | go_keep) (first | (go_at_call 33; refine HCO.out.mono ?_; rintro e w7 ⟨rfl, hb7⟩; have hx7 : Below W3.heap.size W3 w7 := ext_trans hx6 hb7) | (go_at_call 32; refine HS1.out.mono ?_; rintro e w6 ⟨rfl, hb6⟩; have hx6 : Below W3.heap.size W3 w6 := ext_trans hx5 hb6; have HCO := Lib.hid (awCost (hA12.out.below hx6) aw_few.2.2.2.2.2.2 aw_c.2)) | (go_at_call 31; refine (awWrite (bs := [97, 0]) 0 hrb rfl (by decide) rfl (by decide) hi0).mono ?_; rintro e w5 ⟨D5, rfl, hs5, hb5⟩; have hx5 : Below W3.heap.size W3 w5 := ext_trans hbd hb5; have HS1 := Lib.hid (same_any D0 D5 d0 1 _ _ [wrB 0 [97, 0]] [wrB 0 [97, 0]] w5 (HD0.out.fwd hx5) hs5 (by decide) (by decide) true (by decide))))
  have hx17 : Below w10.heap.size w10 w7 := ext_trans hx3 hx7
  have hy17 : Below w11.heap.size w11 w7 := ext_trans hx11 hx7
  have hA17 := Lib.hid (hA11.out.below hy17)
  clear HC HD0 HS1 HCO hb5 hs5 hb6 hb7 hx5 hx6 hrb hbd hc0 hb
  go_upto_region 14 with (fail)
  go_wp2_with fail
  obtain ⟨W20, hW20⟩ : ∃ W, (w7.alloc (.cells #[.int .u8 97, .int .u8 0, .int .u8 0, .int .u8 0, .int .u8 0, .int .u8 0, .int .u8 0, .int .u8 0, .int .u8 0, .int .u8 0, .int .u8 0, .int .u8 0, .int .u8 0, .int .u8 0, .int .u8 0, .int .u8 0, .int .u8 0, .int .u8 0, .int .u8 0, .int .u8 0, .int .u8 0, .int .u8 0, .int .u8 0, .int .u8 0, .int .u8 0, .int .u8 0, .int .u8 0, .int .u8 0, .int .u8 0, .int .u8 0, .int .u8 0, .int .u8 0] 65)).alloc (.cells #[.slice (some ⟨w7.heap.size, 0, none⟩) 4 4] 66) = W := ⟨_, rfl⟩
  try rw [hW20]
  have hb20 : Below w7.heap.size w7 W20 := by rw [← hW20]; exact ext_alloc (ext_alloc (Below.refl _ _))
  have hl20 : SlAt (encSl encSec) W20 (fun g => g = w7.heap.size ∨ g = w7.heap.size + 1) (some ⟨w7.heap.size + 1, 0, none⟩) (imgB [97, 0, 0, 0]) := litImg (cs := #[.int .u8 97, .int .u8 0, .int .u8 0, .int .u8 0, .int .u8 0, .int .u8 0, .int .u8 0, .int .u8 0, .int .u8 0, .int .u8 0, .int .u8 0, .int .u8 0, .int .u8 0, .int .u8 0, .int .u8 0, .int .u8 0, .int .u8 0, .int .u8 0, .int .u8 0, .int .u8 0, .int .u8 0, .int .u8 0, .int .u8 0, .int .u8 0, .int .u8 0, .int .u8 0, .int .u8 0, .int .u8 0, .int .u8 0, .int .u8 0, .int .u8 0, .int .u8 0]) (n := 4) (c := 4) (by rw [← hW20]; exact (Below.heap_alloc _ _ _ (by simp)).trans (heap_alloc_new _ _)) rfl (by decide) (by rw [← hW20]; exact heap_new2 _ _ _) rfl (by decide) (by omega)
  refine (sameImg07_any A10 _ c10 1 _ _ (imgB [97, 0, 0, 0]) (imgB [97, 0, 0, 0]) W20 (hI10.out.fwd (ext_trans hx17 hb20)) hl20 (by decide) (by decide)).mono ?_
  rw [beq_self_eq_true]
  rintro e w20 ⟨rfl, hd20⟩
  have hbq20 : Below w7.heap.size w7 w20 := hb20.trans (hd20.below _)
  clear hl20 hW20 hb20 hd20
  have hy20 : Below w11.heap.size w11 w20 := ext_trans hy17 hbq20
  go_wp2_with fail
  obtain ⟨W21, hW21⟩ : ∃ W, (w20.alloc (.cells #[.int .u8 98, .int .u8 0, .int .u8 0, .int .u8 0, .int .u8 0, .int .u8 0, .int .u8 0, .int .u8 0, .int .u8 98, .int .u8 0, .int .u8 0, .int .u8 0, .int .u8 0, .int .u8 0, .int .u8 0, .int .u8 0, .int .u8 0, .int .u8 0, .int .u8 0, .int .u8 0, .int .u8 0, .int .u8 0, .int .u8 0, .int .u8 0, .int .u8 0, .int .u8 0, .int .u8 0, .int .u8 0, .int .u8 0, .int .u8 0, .int .u8 0, .int .u8 0] 65)).alloc (.cells #[.slice (some ⟨w20.heap.size, 0, none⟩) 4 4] 66) = W := ⟨_, rfl⟩
  try rw [hW21]
  have hb21 : Below w20.heap.size w20 W21 := by rw [← hW21]; exact ext_alloc (ext_alloc (Below.refl _ _))
  have hl21 : SlAt (encSl encSec) W21 (fun g => g = w20.heap.size ∨ g = w20.heap.size + 1) (some ⟨w20.heap.size + 1, 0, none⟩) (imgB [98, 98, 0, 0]) := litImg (cs := #[.int .u8 98, .int .u8 0, .int .u8 0, .int .u8 0, .int .u8 0, .int .u8 0, .int .u8 0, .int .u8 0, .int .u8 98, .int .u8 0, .int .u8 0, .int .u8 0, .int .u8 0, .int .u8 0, .int .u8 0, .int .u8 0, .int .u8 0, .int .u8 0, .int .u8 0, .int .u8 0, .int .u8 0, .int .u8 0, .int .u8 0, .int .u8 0, .int .u8 0, .int .u8 0, .int .u8 0, .int .u8 0, .int .u8 0, .int .u8 0, .int .u8 0, .int .u8 0]) (n := 4) (c := 4) (by rw [← hW21]; exact (Below.heap_alloc _ _ _ (by simp)).trans (heap_alloc_new _ _)) rfl (by decide) (by rw [← hW21]; exact heap_new2 _ _ _) rfl (by decide) (by omega)
  refine (sameImg07_any A11 _ c11 1 _ _ (imgB [98, 98, 0, 0]) (imgB [98, 98, 0, 0]) W21 (hI11.out.fwd (ext_trans hy20 hb21)) hl21 (by decide) (by decide)).mono ?_
  rw [beq_self_eq_true]
  rintro e w21 ⟨rfl, hd21⟩
  have hbq21 : Below w20.heap.size w20 w21 := hb21.trans (hd21.below _)
  clear hl21 hW21 hb21 hd21
  have hA21 := Lib.hid ((hA17.out.below hbq20).below hbq21)
  obtain ⟨c0, c1, _⟩ := blk2 hA21.out.1
  go_wp2_with fail
  obtain ⟨W22, hW22⟩ : ∃ W, (w21.alloc (.cells #[.int .u8 98, .int .u8 0, .int .u8 0, .int .u8 0, .int .u8 0, .int .u8 0, .int .u8 0, .int .u8 0, .int .u8 99, .int .u8 0, .int .u8 0, .int .u8 0, .int .u8 0, .int .u8 0, .int .u8 0, .int .u8 0, .int .u8 0, .int .u8 0, .int .u8 0, .int .u8 0, .int .u8 0, .int .u8 0, .int .u8 0, .int .u8 0, .int .u8 0, .int .u8 0, .int .u8 0, .int .u8 0, .int .u8 0, .int .u8 0, .int .u8 0, .int .u8 0] 65)).alloc (.cells #[.slice (some ⟨w21.heap.size, 0, none⟩) 4 4] 66) = W := ⟨_, rfl⟩
  try rw [hW22]
  have hb22 : Below w21.heap.size w21 W22 := by rw [← hW22]; exact ext_alloc (ext_alloc (Below.refl _ _))
  have hl22 : SlAt (encSl encSec) W22 (fun g => g = w21.heap.size ∨ g = w21.heap.size + 1) (some ⟨w21.heap.size + 1, 0, none⟩) (imgB [98, 99, 0, 0]) := litImg (cs := #[.int .u8 98, .int .u8 0, .int .u8 0, .int .u8 0, .int .u8 0, .int .u8 0, .int .u8 0, .int .u8 0, .int .u8 99, .int .u8 0, .int .u8 0, .int .u8 0, .int .u8 0, .int .u8 0, .int .u8 0, .int .u8 0, .int .u8 0, .int .u8 0, .int .u8 0, .int .u8 0, .int .u8 0, .int .u8 0, .int .u8 0, .int .u8 0, .int .u8 0, .int .u8 0, .int .u8 0, .int .u8 0, .int .u8 0, .int .u8 0, .int .u8 0, .int .u8 0]) (n := 4) (c := 4) (by rw [← hW22]; exact (Below.heap_alloc _ _ _ (by simp)).trans (heap_alloc_new _ _)) rfl (by decide) (by rw [← hW22]; exact heap_new2 _ _ _) rfl (by decide) (by omega)
  refine (sameImg07_any B3 _ vc3 1 _ _ (imgB [98, 99, 0, 0]) (imgB [98, 99, 0, 0]) W22 ((hA21.out.below hb22).img) hl22 (by decide) (by decide)).mono ?_
  rw [beq_self_eq_true]
  rintro e w22 ⟨rfl, hd22⟩
  have hbq22 : Below w21.heap.size w21 w22 := hb22.trans (hd22.below _)
  clear hl22 hW22 hb22 hd22
  go_wp2_with fail
  go_ret
  refine ⟨rfl, ?_⟩
  have hz10 := hb10.size
  exact hB9.trans ((ext_trans (ext_trans (ext_trans (ext_trans hb10 hx17) hbq20) hbq21) hbq22).mono (by omega))
end Go.Proofs.YtgmeghandjkkcaaGreat
