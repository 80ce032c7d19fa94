/-
  compare.Learn: the walk.; slices.Chunk over pairs of ints; appends of whole slices at a step of a drawn region in a fence.
-/
import Derived.Test.YtjehedfdikdfpaaZL04
import Derived.Test.YtjehedfdikdfpaaZL06
import Derived.Test.YtjehedfdikdfpaaZL07
import Derived.Test.YtjehedfdikdfpaaZL08
import Derived.Test.YtjehedfdikdfpaaZL09
set_option linter.unusedVariables false
set_option linter.unusedSimpArgs false
set_option linter.unusedSectionVars false
set_option linter.unnecessarySimpa false
namespace Go.Proofs.Ytjehedfdikdfpaa
open Go.RowKit Go.Shelf
attribute [local go_sem] Oper.semAt_some

set_option maxHeartbeats 8000000 in
set_option maxRecDepth 100000 in
theorem learn_any (s lf lv sent kind fr tt num val ep : Int) (done : Bool) (A P F V Bd : Option Addr) (c pc fc n pn fn vn vc bn bc : Nat) (l : List (List Int)) (p f : List Ext) (vals body : List Int) (w : World) (hn : l.length = n) (hpn : p.length = pn) (hfn : f.length = fn) (hvn : vals.length = vn) (hbn : body.length = bn)
    (h1 : SlAt (encSl encU64) w (Bl w.heap.size) A l) (hP : SlAt encExt w (Bl w.heap.size) P p) (hF : SlAt encExt w (Bl w.heap.size) F f) (hV : SlAt encInt w (Bl w.heap.size) V vals) (hBd : SlAt encU8 w (Bl w.heap.size) Bd body)
    (hs : n ≤ 100000) (hc : n ≤ c ∧ c ≤ maxLen) (hpl : pn ≤ 100000) (hpc : pn ≤ pc ∧ pc ≤ maxLen) (hfl : fn ≤ 100000) (hfc : fn ≤ fc ∧ fc ≤ maxLen) (hvl : vn ≤ 100000000) (hbc : bn ≤ bc ∧ bc ≤ maxLen) (hI : I64 s ∧ I64 lf ∧ I64 lv ∧ I64 sent) (hlv : ∀ row ∈ l, row.length ≤ 1000000) :
    Calls Try.prog 24 #[.agg #[.int .i64 s, .int .i64 lf, .slice A n c, .slice P pn pc, .int .i64 lv, .slice F fn fc, .int .i64 sent, .bool done], .agg #[.int .i64 kind, .int .i64 fr, .int .i64 tt, .int .i64 num, .int .i64 val, .int .i64 ep, .slice V vn vc, .slice Bd bn bc]] w
      (RetW (learnW ((s, lf, l), p, lv, f, sent, done) (kind, fr, tt, num, val, ep, vals, body)) (learnM ((s, lf, l), p, lv, f, sent, done) (kind, fr, tt, num, val, ep, vals, body)) (learnE ((s, lf, l), p, lv, f, sent, done) (kind, fr, tt, num, val, ep, vals, body)) w) := by
  subst hn hpn hfn hvn hbn
  obtain ⟨n0, hn0⟩ : ∃ n0, w.heap.size = n0 := ⟨_, rfl⟩
  obtain ⟨W0, hW0⟩ : ∃ W0, ((w.alloc (.cells #[.int .i64 s, .int .i64 lf, .slice A l.length c, .slice P p.length pc, .int .i64 lv, .slice F f.length fc, .int .i64 sent, .bool done] 27)).alloc (.cells #[.int .i64 kind, .int .i64 fr, .int .i64 tt, .int .i64 num, .int .i64 val, .int .i64 ep, .slice V vals.length vc, .slice Bd body.length bc] 45)).alloc (.cells #[.int .i64 0, .int .i64 0, .slice none 0 0, .slice none 0 0, .int .i64 0, .slice none 0 0, .int .i64 0, .bool false] 27) = W0 := ⟨_, rfl⟩
  have hB0 : Below n0 w W0 := by rw [← hW0, ← hn0]; exact ext_alloc (ext_alloc (ext_alloc (Below.refl _ _)))
  have hs0 : W0.heap.size = n0 + 3 := by rw [← hW0, ← hn0]; simp
  have hr0 : W0.heap[n0]? = some (.cells #[.int .i64 s, .int .i64 lf, .slice A l.length c, .slice P p.length pc, .int .i64 lv, .slice F f.length fc, .int .i64 sent, .bool done] 27 (0, 0)) := by
    rw [← hW0, ← hn0]; exact (Below.heap_alloc _ _ _ (by simp; omega)).trans ((Below.heap_alloc _ _ _ (by simp)).trans (heap_alloc_new _ _))
  have hr1 : W0.heap[n0 + 1]? = some (.cells #[.int .i64 kind, .int .i64 fr, .int .i64 tt, .int .i64 num, .int .i64 val, .int .i64 ep, .slice V vals.length vc, .slice Bd body.length bc] 45 (0, 0)) := by
    rw [← hW0, ← hn0]; exact (Below.heap_alloc _ _ _ (by simp)).trans (heap_new2 _ _ _)
  have hr2 : W0.heap[n0 + 1 + 1]? = some (.cells #[.int .i64 0, .int .i64 0, .slice none 0 0, .slice none 0 0, .int .i64 0, .slice none 0 0, .int .i64 0, .bool false] 27 (0, 0)) := by
    rw [← hW0, ← hn0]; exact heap_new3 _ _ _ _
  obtain ⟨n2, hn2⟩ : ∃ n2, W0.heap.size = n2 := ⟨_, rfl⟩
  have hn02 : n0 + 3 ≤ n2 := by omega
  have HRW : Hid (∀ W, Below n2 W0 W → W.heap[n0]? = some (.cells #[.int .i64 s, .int .i64 lf, .slice A l.length c, .slice P p.length pc, .int .i64 lv, .slice F f.length fc, .int .i64 sent, .bool done] 27 (0, 0))) := fun W hb => (hb.block _ (by omega)).trans hr0
  have up : ∀ {α : Type} {E : Enc α} {A : Option Addr} {l : List α}, SlAt E w (Bl w.heap.size) A l → ∀ W : World, (∀ g, g < n0 → W.heap[g]? = W0.heap[g]?) → SlAt E W (Bl n0) A l := fun h W hb => by
    rw [hn0] at h
    exact h.blk (fun g hg => (hb g hg).trans (hB0.block g hg))
  have H1 := Lib.hid (up h1)
  have HP := Lib.hid (up hP)
  have HF := Lib.hid (up hF)
  have HV := Lib.hid (up hV)
  have HBD := Lib.hid (up hBd)
  have HM : Hid (∀ W : World, W.heap[n0 + 1]? = W0.heap[n0 + 1]? → W.heap[n0 + 1]? = some (.cells #[.int .i64 kind, .int .i64 fr, .int .i64 tt, .int .i64 num, .int .i64 val, .int .i64 ep, .slice V vals.length vc, .slice Bd body.length bc] 45 (0, 0))) := fun W hb => hb.trans hr1
  have HR0 : Hid (∀ W : World, W.heap[n0 + 1 + 1]? = W0.heap[n0 + 1 + 1]? → W.heap[n0 + 1 + 1]? = some (.cells #[.int .i64 0, .int .i64 0, .slice none 0 0, .slice none 0 0, .int .i64 0, .slice none 0 0, .int .i64 0, .bool false] 27 (0, 0))) := fun W hb => hb.trans hr2
  have HR := Lib.hid (fun W (hb : Below n2 W0 W) => HR0.out W (hb.block _ (by omega)))
  have mo : ∀ {W : World} {g : Nat}, n0 ≤ W.heap.size → Bl n0 g → Bl W.heap.size g := fun h hg => Nat.lt_of_lt_of_le hg h
  obtain ⟨x, hx⟩ : ∃ x, wkE ((s, lf, l), p, lv, f, sent, done) = x := ⟨_, rfl⟩
  have HCH := Lib.hid (fun W (hb : Below n2 W0 W) => wkCheck_any s lf lv sent done A P F c pc fc l.length p.length f.length l p f x W rfl rfl rfl hx ((H1.out W (fun g hg => hb.block g (by omega))).more (fun g hg => mo (by have := hb.size; omega) hg)) ((HP.out W (fun g hg => hb.block g (by omega))).more (fun g hg => mo (by have := hb.size; omega) hg)) ((HF.out W (fun g hg => hb.block g (by omega))).more (fun g hg => mo (by have := hb.size; omega) hg)) hs hc hI (by omega) (by omega) hlv)
  have HX := Lib.hid hx
  have HZ : Hid (∀ q, q ≠ 0 → learnE ((s, lf, l), p, lv, f, sent, done) (kind, fr, tt, num, val, ep, vals, body) = q → learnW ((s, lf, l), p, lv, f, sent, done) (kind, fr, tt, num, val, ep, vals, body) = zWk ∧ learnM ((s, lf, l), p, lv, f, sent, done) (kind, fr, tt, num, val, ep, vals, body) = [] ∧ True) := fun q h0 h => ⟨by unfold learnW; rw [if_pos (by rw [h]; exact h0)], by unfold learnM; rw [if_pos (by rw [h]; exact h0)], trivial⟩
  have HB0 := Lib.hid hB0
  have HN0 := Lib.hid hn0
  have HN2 := Lib.hid hn2
  obtain ⟨p0, p1, p2, p3, p4, p5, p6, p7, _⟩ := blk8 (HRW.out W0 (Below.refl _ _))
  clear h1 hP hF hV hBd hr0 hr1 hr2 hs0 up hx
  go_enter Try.func24, Try.ntmps24
  go_wp2_with fail
  refine (HCH.out W0 (Below.refl _ _)).mono ?_
  rintro e w1 ⟨rfl, hb1⟩
  rw [hn2] at hb1
  clear p0 p1 p2 p3 p4 p5 p6 p7 hW0
  by_cases hx0 : x = 0
  · subst hx0
    obtain ⟨p0, p1, p2, p3, p4, p5, p6, p7, pf⟩ := blk8 (HRW.out w1 hb1)
    have HRow1 := Lib.hid (HRW.out w1 hb1)
    have HCP := Lib.hid (copied44_any s lf A c l.length l w1 rfl ((H1.out w1 (fun g hg => hb1.block g (by omega))).more (fun g hg => mo (by have := hb1.size; omega) hg)) hs hlv)
    go_wp2_with fail
    refine HCP.out.mono ?_
    rintro e w2 ⟨A', c', rfl, d1, d2, hA, hb2⟩
    have hb02 : Below n2 W0 w2 := hb1.trans (hb2.mono (by have := hb1.size; omega))
    clear p0 p1 p2 p3 p4 p5 p6 p7 pf
    obtain ⟨p0, p1, p2, p3, p4, p5, p6, p7, pf⟩ := blk8 (HRW.out w2 hb02)
    obtain ⟨W3, hW3⟩ : ∃ W3, ((w2.setCell ⟨n0, 0, none⟩ (.int .i64 s)).setCell ⟨n0, 1, none⟩ (.int .i64 lf)).setCell ⟨n0, 2, none⟩ (.slice A' l.length c') = W3 := ⟨_, rfl⟩
    go_upto_region 5 with (fail)
    have ho3 : ∀ g, g ≠ n0 → W3.heap[g]? = w2.heap[g]? := fun g hg => by rw [← hW3]; exact (heap_setCell_other _ ⟨n0, 2, none⟩ g _ hg).trans ((heap_setCell_other _ ⟨n0, 1, none⟩ g _ hg).trans (heap_setCell_other _ ⟨n0, 0, none⟩ g _ hg))
    have hB3 : Below n0 w2 W3 := by rw [← hW3]; exact (((Below.refl n0 w2).setCell (p := ⟨n0, 0, none⟩) (Nat.le_refl _) _).setCell (p := ⟨n0, 1, none⟩) (Nat.le_refl _) _).setCell (p := ⟨n0, 2, none⟩) (Nat.le_refl _) _
    obtain ⟨b, hb⟩ : ∃ b, w2.heap.size = b := ⟨_, rfl⟩
    have hz3 : W3.heap.size = b := by rw [← hW3, ← hb]; simp [World.setCell]
    have hr3 : W3.heap[n0]? = some (.cells #[.int .i64 s, .int .i64 lf, .slice A' l.length c', .slice P p.length pc, .int .i64 lv, .slice F f.length fc, .int .i64 sent, .bool done] 27 (0, 0)) := by
      have h := HRW.out w2 hb02
      rw [← hW3]; simp [World.setCell, Array.getElem?_modify, h]
    have hzw2 := hb02.size
    have hn2b : n2 ≤ b := by omega
    obtain ⟨W4, hW4⟩ : ∃ W4, W3.alloc (.cells #[.int .i64 s, .int .i64 lf, .slice A' l.length c', .slice P p.length pc, .int .i64 lv, .slice F f.length fc, .int .i64 sent, .bool done] 88) = W4 := ⟨_, rfl⟩
    have hwk4 : WkRow W4 b s lf A' l.length c' P p.length pc lv F f.length fc sent done := by rw [← hW4, ← hz3]; exact heap_alloc_new _ _
    have hz4 : W4.heap.size = b + 1 := by rw [← hW4, ← hz3]; simp
    have ho4 : ∀ g, g < b → g ≠ n0 → W4.heap[g]? = w2.heap[g]? := fun g h1 h2 => by rw [← hW4]; exact (Below.heap_alloc _ _ _ (by omega)).trans (ho3 g h2)
    have hl4 : ∀ g, g < n0 → W4.heap[g]? = W0.heap[g]? := fun g h => (ho4 g (by omega) (by omega)).trans (hb02.block g (by omega))
    have HRQ := Lib.hid (request_any b l.length c' pc f.length fc s lf lv A' P F sent done p W4 hpl ⟨hI.1, hI.2.1⟩ hwk4 ((HP.out W4 hl4).more (fun g hg => mo (by omega) hg)))
    obtain ⟨u0, u1, u2, u3, u4, u5, u6, u7, _⟩ := blk8 hr3
    have HW4 := Lib.hid hW4
    clear hW3 p0 p1 p2 p3 p4 p5 p6 p7 pf hr3
    go_upto_region 6 with (fail)
    try rw [HW4.out]
    clear u0 u1 u2 u3 u4 u5 u6 u7
    go_wp2_with fail
    refine HRQ.out.mono ?_
    rintro e w5 ⟨V9, vc9, rfl, ⟨v1, v2, v3⟩, hb5⟩
    rw [hz4] at hb5
    obtain ⟨n9, hn9⟩ : ∃ n9, w5.heap.size = n9 := ⟨_, rfl⟩
    have hz5 := hb5.size
    have hbn9 : b + 1 ≤ n9 := by omega
    obtain ⟨m9, hm9⟩ : ∃ m9, (reqL s lf p).length = m9 := ⟨_, rfl⟩
    rw [hm9] at v1 ⊢
    have HM9 := Lib.hid hm9
    obtain ⟨W6, hW6⟩ : ∃ W6, w5.alloc (.cells #[.int .i64 13, .int .i64 0, .int .i64 0, .int .i64 lv, .int .i64 0, .int .i64 0, .slice V9 m9 vc9, .slice none 0 0] 45) = W6 := ⟨_, rfl⟩
    have hb6 : Below n9 w5 W6 := by rw [← hW6, ← hn9]; exact ext_alloc (Below.refl _ _)
    have hr6 : W6.heap[n9]? = some (.cells #[.int .i64 13, .int .i64 0, .int .i64 0, .int .i64 lv, .int .i64 0, .int .i64 0, .slice V9 m9 vc9, .slice none 0 0] 45 (0, 0)) := by rw [← hW6, ← hn9]; exact heap_alloc_new _ _
    have hz6 : W6.heap.size = n9 + 1 := by rw [← hW6, ← hn9]; simp
    obtain ⟨n10, hn10⟩ : ∃ n10, n9 + 1 = n10 := ⟨_, rfl⟩
    have hb56 : Below (b + 1) W4 W6 := hb5.trans (hb6.mono (by omega))
    have hBn : Below n0 w W6 := HB0.out.trans ((hb02.mono (by omega)).trans (hB3.trans ((by rw [← HW4.out]; exact (Below.refl n0 W3).alloc (by omega) _ : Below n0 W3 W4).trans (hb56.mono (by omega)))))
    have HALL : Hid (∀ W, Below n10 W6 W → WkRow W b s lf A' l.length c' P p.length pc lv F f.length fc sent done ∧ W.heap[n9]? = some (.cells #[.int .i64 13, .int .i64 0, .int .i64 0, .int .i64 lv, .int .i64 0, .int .i64 0, .slice V9 m9 vc9, .slice none 0 0] 45 (0, 0)) ∧ W.heap[n0 + 1]? = some (.cells #[.int .i64 kind, .int .i64 fr, .int .i64 tt, .int .i64 num, .int .i64 val, .int .i64 ep, .slice V vals.length vc, .slice Bd body.length bc] 45 (0, 0)) ∧
        W.heap[n0 + 1 + 1]? = some (.cells #[.int .i64 0, .int .i64 0, .slice none 0 0, .slice none 0 0, .int .i64 0, .slice none 0 0, .int .i64 0, .bool false] 27 (0, 0)) ∧ Below w.heap.size w W ∧ (∀ g, g < n0 → W.heap[g]? = W0.heap[g]?)) := fun W hb => by
      have hlo : ∀ g, g < b → g ≠ n0 → W.heap[g]? = W0.heap[g]? ∨ n2 ≤ g := fun g h1 h2 => by
        by_cases hg : g < n2
        · exact Or.inl ((hb.block g (by omega)).trans ((hb56.block g (by omega)).trans ((ho4 g h1 h2).trans (hb02.block g hg))))
        · exact Or.inr (by omega)
      refine ⟨hwk4.of_blk ((hb.block b (by omega)).trans (hb56.block b (by omega))), (hb.block n9 (by omega)).trans hr6, HM.out W ?_, HR0.out W ?_, by rw [HN0.out]; exact hBn.trans (hb.mono (by omega)), fun g hg => ?_⟩
      · rcases hlo (n0 + 1) (by omega) (by omega) with h | h
        · exact h
        · omega
      · rcases hlo (n0 + 1 + 1) (by omega) (by omega) with h | h
        · exact h
        · omega
      · rcases hlo g (by omega) (by omega) with h | h
        · exact h
        · omega
    have HVR : Hid (∀ W, Below n10 W6 W → SlAt encInt W (Nw (b + 1) n9) V9 (reqL s lf p)) := fun W hb => (v3.blk (fun g hg => (hb.block g (by have := hg.2; omega)).trans (hb6.block g (by have := hg.2; omega)))).more (fun g hg => ⟨by have := hg.1; omega, by have := hg.2; omega⟩)
    have HAR : Hid (∀ W, Below n10 W6 W → SlAt (encSl encU64) W (Nw n2 b) A' l) := fun W hb => (hA.blk (fun g hg => (hb.block g (by have := hg.2; omega)).trans ((hb56.block g (by have := hg.2; omega)).trans (ho4 g (by have := hg.2; omega) (by have := hg.1; have := hb1.size; omega))))).more (fun g hg => ⟨by have := hg.1; have := hb1.size; omega, by have := hg.2; omega⟩)
    have HW6 := Lib.hid hW6
    have HZ6 := Lib.hid hz6
    have hn1064 : n9 + 1 ≤ n10 := by omega
    have hn1065 : n10 ≤ n9 + 1 := by omega
    clear hA v3 hb5 hb6 hb56 hr6 hwk4 ho3 ho4 hl4 hz3 hz4 hz5 hz6 hB3 hW6 hBn hb2 hzw2 hn10
    go_upto_region 7 with (fail)
    try rw [HW6.out]
    obtain ⟨hck, ⟨k, rfl, hk⟩, hs0, hs8, hnd⟩ := wkE_ok HX.out
    have HLE : Hid (∀ q, (if done = true then (12 : Int) else if kind ≠ 14 then 1 else if num ≠ (k : Int) ∨ vals ≠ reqL s lf p then 22 else if body.length ≠ 8 * (numsL p).length then 3 else 0) = q → learnE ((s, lf, l), p, (k : Int), f, sent, done) (kind, fr, tt, num, val, ep, vals, body) = q) := fun q h => by
      rw [← h, learnE, if_neg (by rw [HX.out]; simp)]; rfl
    have hb66 := Below.refl n10 W6
    obtain ⟨a0, a1, a2, a3, a4, a5, a6, a7, _⟩ := blk8 (HALL.out W6 hb66).1
    have HCK := Lib.hid hck
    clear hck
    cases done with
    | true =>
      have HE : Hid (learnE ((s, lf, l), p, (k : Int), f, sent, true) (kind, fr, tt, num, val, ep, vals, body) = 12) := HLE.out 12 (by rw [if_pos rfl])
      have hrow := Lib.hid ((HALL.out W6 hb66).2.2.2.1)
      have hBw := Lib.hid ((HALL.out W6 hb66).2.2.2.2.1)
      obtain ⟨z0, z1, z2, z3, z4, z5, z6, z7, zf⟩ := blk8 hrow.out
      go_wp2_with fail
      rw [(HZ.out 12 (by decide) HE.out).1, (HZ.out 12 (by decide) HE.out).2.1, HE.out]
      have hend := wk_end (w := w) (u0 := (.int .i64 0)) (u1 := (.int .i64 0)) (u2 := (.slice none 0 0)) (u3 := (.slice none 0 0)) (u4 := (.int .i64 0)) (u5 := (.slice none 0 0)) (u6 := (.int .i64 0)) (u7 := (.bool false)) hrow.out (by omega) hBw.out wkVal_zero (B := none) (n := 0) (bc := 0) (rfl : ([] : List Msg).length = 0) ⟨Nat.le_refl 0, Nat.zero_le _, SlAt.nil_⟩ 12
      obtain ⟨hz, hret⟩ := hend
      change bodyPost _ _ _ _ _ (set8 W6 (n0 + 1 + 1) (.int .i64 0) (.int .i64 0) (.slice none 0 0) (.slice none 0 0) (.int .i64 0) (.slice none 0 0) (.int .i64 0) (.bool false))
      generalize set8 W6 (n0 + 1 + 1) (.int .i64 0) (.int .i64 0) (.slice none 0 0) (.slice none 0 0) (.int .i64 0) (.slice none 0 0) (.int .i64 0) (.bool false) = W3 at hz hret ⊢
      obtain ⟨z0, z1, z2, z3, z4, z5, z6, z7, _⟩ := blk8 hz
      refine bodyPost_ret (v := .tuple #[.agg #[(.int .i64 0), (.int .i64 0), (.slice none 0 0), (.slice none 0 0), (.int .i64 0), (.slice none 0 0), (.int .i64 0), (.bool false)], .slice none 0 0, .int .i64 12]) ?_ rfl ?_
      · simp [results, Try.results24, Try.f24, go_sem, z0, z1, z2, z3, z4, z5, z6, z7]
      exact hret
    | false =>
      obtain ⟨hpne, hfe, hext⟩ := hnd rfl
      rw [levT_at hk] at hext
      have HEXT := Lib.hid hext
      subst hfe
      have hp0 : 0 < p.length := List.length_pos_iff.2 hpne
      clear hnd hpne hext
      obtain ⟨e0, e1, e2, e3, e4, e5, e6, e7, _⟩ := blk8 (HALL.out W6 hb66).2.2.1
      obtain ⟨q0, q1, q2, q3, q4, q5, q6, q7, _⟩ := blk8 (HALL.out W6 hb66).2.1
      by_cases hk14 : kind = 14
      · subst hk14
        by_cases hnum : num = (k : Int)
        · subst hnum
          obtain ⟨rq, hrq⟩ : ∃ rq, decide (vals = reqL s lf p) = rq := ⟨_, rfl⟩
          have HEQ := Lib.hid (eqInts44_any V V9 vc vc9 vals.length m9 (Bl n0) (Nw (b + 1) n9) vals (reqL s lf p) rq W6 rfl HM9.out hrq (HV.out W6 (HALL.out W6 hb66).2.2.2.2.2) (HVR.out W6 hb66) (by omega) (by have := HM9.out; rw [reqL_len] at this; omega))
          have HRQD := Lib.hid hrq
          clear hrq
          go_wp2_with fail
          refine HEQ.out.mono ?_
          rintro e w7 ⟨rfl, hd7⟩
          have hb7 : Below n10 W6 w7 := hd7.below _
          clear hd7 a0 a1 a2 a3 a4 a5 a6 a7 e0 e1 e2 e3 e4 e5 e6 e7 q0 q1 q2 q3 q4 q5 q6 q7
          cases rq with
          | false =>
            have HE : Hid (learnE ((s, lf, l), p, (k : Int), [], sent, false) (14, fr, tt, (k : Int), val, ep, vals, body) = 22) := HLE.out 22 (by rw [if_neg (by simp), if_neg (by simp), if_pos (Or.inr (of_decide_eq_false HRQD.out))])
            have hrow := Lib.hid ((HALL.out w7 hb7).2.2.2.1)
            have hBw := Lib.hid ((HALL.out w7 hb7).2.2.2.2.1)
            obtain ⟨z0, z1, z2, z3, z4, z5, z6, z7, zf⟩ := blk8 hrow.out
            go_wp2_with fail
            rw [(HZ.out 22 (by decide) HE.out).1, (HZ.out 22 (by decide) HE.out).2.1, HE.out]
            have hend := wk_end (w := w) (u0 := (.int .i64 0)) (u1 := (.int .i64 0)) (u2 := (.slice none 0 0)) (u3 := (.slice none 0 0)) (u4 := (.int .i64 0)) (u5 := (.slice none 0 0)) (u6 := (.int .i64 0)) (u7 := (.bool false)) hrow.out (by omega) hBw.out wkVal_zero (B := none) (n := 0) (bc := 0) (rfl : ([] : List Msg).length = 0) ⟨Nat.le_refl 0, Nat.zero_le _, SlAt.nil_⟩ 22
            obtain ⟨hz, hret⟩ := hend
            change bodyPost _ _ _ _ _ (set8 w7 (n0 + 1 + 1) (.int .i64 0) (.int .i64 0) (.slice none 0 0) (.slice none 0 0) (.int .i64 0) (.slice none 0 0) (.int .i64 0) (.bool false))
            generalize set8 w7 (n0 + 1 + 1) (.int .i64 0) (.int .i64 0) (.slice none 0 0) (.slice none 0 0) (.int .i64 0) (.slice none 0 0) (.int .i64 0) (.bool false) = W3 at hz hret ⊢
            obtain ⟨z0, z1, z2, z3, z4, z5, z6, z7, _⟩ := blk8 hz
            refine bodyPost_ret (v := .tuple #[.agg #[(.int .i64 0), (.int .i64 0), (.slice none 0 0), (.slice none 0 0), (.int .i64 0), (.slice none 0 0), (.int .i64 0), (.bool false)], .slice none 0 0, .int .i64 22]) ?_ rfl ?_
            · simp [results, Try.results24, Try.f24, go_sem, z0, z1, z2, z3, z4, z5, z6, z7]
            exact hret
          | true =>
            have hvr := of_decide_eq_true HRQD.out
            have HLE2 : Hid (∀ q, (if body.length ≠ 8 * (numsL p).length then (3 : Int) else 0) = q → learnE ((s, lf, l), p, (k : Int), [], sent, false) (14, fr, tt, (k : Int), val, ep, vals, body) = q) := fun q h => HLE.out q (by rw [if_neg (by simp), if_neg (by simp), if_neg (by rw [hvr]; simp)]; exact h)
            have HVR2 := Lib.hid hvr
            clear hvr
            obtain ⟨huc, hub, _⟩ := union_canon HEXT.out
            have hcn := sumC_nums p (fun e he => by have := hub e he; omega)
            have hcl := nums_canon HEXT.out
            have HCT := Lib.hid (fun W (hb : Below n10 W6 W) => count_any P pc p.length p p ((numsL p).length : Int) W rfl huc hcn ((HP.out W (HALL.out W hb).2.2.2.2.2).more (fun g hg => mo (by have := hb.size; have := HZ6.out; omega) hg)) hpl hpc)
            obtain ⟨cn, hcnn⟩ : ∃ cn, (numsL p).length = cn := ⟨_, rfl⟩
            rw [hcnn] at HCT hcl
            have HCN := Lib.hid hcnn
            obtain ⟨rb, hrb⟩ : ∃ rb, ((body.length : Int) != 8 * (cn : Int)) = rb := ⟨_, rfl⟩
            have HRB : Hid (rb = true ↔ body.length ≠ 8 * cn) := by rw [Hid, ← hrb, bne_iff_ne]; omega
            have HBB : Hid ((body.length : Int) != 8 * (cn : Int)) = Hid ((body.length : Int) != 8 * (cn : Int)) := rfl
            have HBE := Lib.hid hrb
            have HC : Hid (∀ W, Below n10 W6 W → W.cell? ⟨b, 3, none⟩ = some (.slice P p.length pc) ∧ W.cell? ⟨n0 + 1, 7, none⟩ = some (.slice Bd body.length bc)) := fun W hb => by
              obtain ⟨_, _, _, a3, _⟩ := blk8 (HALL.out W hb).1
              obtain ⟨_, _, _, _, _, _, _, e7, _⟩ := blk8 (HALL.out W hb).2.2.1
              exact ⟨a3, e7⟩
            clear huc hub hcn hcnn hrb HBB
            have hSw : Below n10 W6 w7.drew := hb7.drew
            go_upto_region 13 with (fail)
            refine wp_region_U (fun W' => Below n10 W6 W') 12 (by kernel_rfl) ?_
            refine wpAnyU_takeD (i := 0) (v := ?_) rfl rfl (by kernel_rfl) (by kernel_rfl) (by kernel_rfl) (by kernel_rfl) (fun _ _ _ h => h) (by rfl) ?_ hSw ?_
            rotate_left 1
            · intro W9 hW9
              try dsimp only at hW9
              obtain ⟨k0, k1⟩ := HC.out W9 hW9
              go_simp
              try with_reducible rfl
            try simp only [List.setIfInBounds_toArray, List.set_cons_zero, List.set_cons_succ]
            refine wpAnyU_takeD (i := 1) (v := ?_) rfl rfl (by kernel_rfl) (by kernel_rfl) (by kernel_rfl) (by kernel_rfl) (fun _ _ _ h => h) (by rfl) ?_ hSw ?_
            rotate_left 1
            · intro W9 hW9
              try dsimp only at hW9
              obtain ⟨k0, k1⟩ := HC.out W9 hW9
              go_simp
              try with_reducible rfl
            try simp only [List.setIfInBounds_toArray, List.set_cons_zero, List.set_cons_succ]
            refine wpAnyU_takeD (i := 2) (v := ?_) rfl rfl (by kernel_rfl) (by kernel_rfl) (by kernel_rfl) (by kernel_rfl) (fun _ _ _ h => h) (by rfl) ?_ hSw ?_
            rotate_left 1
            · intro W9 hW9
              try dsimp only at hW9
              obtain ⟨k0, k1⟩ := HC.out W9 hW9
              go_simp
              try with_reducible rfl
            try simp only [List.setIfInBounds_toArray, List.set_cons_zero, List.set_cons_succ]
            refine wpAnyU_op (i := 3) (by kernel_rfl) rfl rfl (fun K hK => ?_)
            go_simp
            refine hK.out _ _ (fun _ => hSw) ?_
            clear hK K
            try simp only [Act.put, List.setIfInBounds_toArray, List.set_cons_zero, List.set_cons_succ]
            refine wpAnyU_op (i := 4) (by kernel_rfl) rfl rfl (fun K hK => ?_)
            go_simp
            refine hK.out _ _ (fun _ => hSw) ?_
            clear hK K
            try simp only [Act.put, List.setIfInBounds_toArray, List.set_cons_zero, List.set_cons_succ]
            refine wpAnyU_op (i := 5) (by kernel_rfl) rfl rfl (fun K hK => ?_)
            go_simp
            refine hK.out _ _ (fun _ => hSw) ?_
            clear hK K
            try simp only [Act.put, List.setIfInBounds_toArray, List.set_cons_zero, List.set_cons_succ]
            refine wpAnyU_op (i := 6) (by kernel_rfl) rfl rfl (fun K hK => ?_)
            go_simp
            refine hK.out _ _ (fun _ => hSw) ?_
            clear hK K
            try simp only [Act.put, List.setIfInBounds_toArray, List.set_cons_zero, List.set_cons_succ]
            obtain ⟨k0, k1⟩ := HC.out _ hSw
            refine wpAnyU_op (i := 7) (by kernel_rfl) rfl rfl (fun K hK => ?_)
            go_simp
            refine hK.out _ _ (fun _ => hSw) ?_
            clear hK K
            try simp only [Act.put, List.setIfInBounds_toArray, List.set_cons_zero, List.set_cons_succ]
            clear k0 k1
            refine wpAnyU_op (i := 8) (by kernel_rfl) rfl rfl (fun K hK => ?_)
            go_wp2_with fail
            refine (HCT.out _ hSw).mono ?_
            rintro e w8 ⟨rfl, hb8'⟩; have hb8 : Below n10 W6 w8 := hSw.trans (hb8'.mono (by have := hSw.size; have := HZ6.out; omega))
            refine hK.out _ _ (fun _ => hb8) ?_
            clear hK K
            try simp only [Act.put, List.setIfInBounds_toArray, List.set_cons_zero, List.set_cons_succ]
            have hmu : IntKind.i64.wrap (8 * (cn : Int)) = 8 * cn := IntWalk.i64_in _ (by omega)
            refine wpAnyU_op (i := 9) (by kernel_rfl) rfl rfl (fun K hK => ?_)
            go_simp
            refine hK.out _ _ (fun _ => hb8) ?_
            clear hK K
            try simp only [Act.put, List.setIfInBounds_toArray, List.set_cons_zero, List.set_cons_succ]
            refine wpAnyU_op (i := 10) (by kernel_rfl) rfl rfl (fun K hK => ?_)
            go_simp
            refine hK.out _ _ (fun _ => hb8) ?_
            clear hK K
            try simp only [Act.put, List.setIfInBounds_toArray, List.set_cons_zero, List.set_cons_succ]
            refine wpAnyU_op (i := 11) (by kernel_rfl) rfl rfl (fun K hK => ?_)
            go_simp
            refine hK.out _ _ (fun _ => hb8) ?_
            clear hK K
            try simp only [Act.put, List.setIfInBounds_toArray, List.set_cons_zero, List.set_cons_succ]
            refine wpAnyU_done (by kernel_rfl) ?_ _
            try rw [hmu]
            try rw [HBE.out]
            cases rb with
            | true =>
              have HE : Hid (learnE ((s, lf, l), p, (k : Int), [], sent, false) (14, fr, tt, (k : Int), val, ep, vals, body) = 3) := HLE2.out 3 (by rw [HCN.out, if_pos (HRB.out.1 rfl)])
              have hrow := Lib.hid ((HALL.out w8 hb8).2.2.2.1)
              have hBw := Lib.hid ((HALL.out w8 hb8).2.2.2.2.1)
              obtain ⟨z0, z1, z2, z3, z4, z5, z6, z7, zf⟩ := blk8 hrow.out
              go_wp2_with fail
              rw [(HZ.out 3 (by decide) HE.out).1, (HZ.out 3 (by decide) HE.out).2.1, HE.out]
              have hend := wk_end (w := w) (u0 := (.int .i64 0)) (u1 := (.int .i64 0)) (u2 := (.slice none 0 0)) (u3 := (.slice none 0 0)) (u4 := (.int .i64 0)) (u5 := (.slice none 0 0)) (u6 := (.int .i64 0)) (u7 := (.bool false)) hrow.out (by omega) hBw.out wkVal_zero (B := none) (n := 0) (bc := 0) (rfl : ([] : List Msg).length = 0) ⟨Nat.le_refl 0, Nat.zero_le _, SlAt.nil_⟩ 3
              obtain ⟨hz, hret⟩ := hend
              change bodyPost _ _ _ _ _ (set8 w8 (n0 + 1 + 1) (.int .i64 0) (.int .i64 0) (.slice none 0 0) (.slice none 0 0) (.int .i64 0) (.slice none 0 0) (.int .i64 0) (.bool false))
              generalize set8 w8 (n0 + 1 + 1) (.int .i64 0) (.int .i64 0) (.slice none 0 0) (.slice none 0 0) (.int .i64 0) (.slice none 0 0) (.int .i64 0) (.bool false) = W3 at hz hret ⊢
              obtain ⟨z0, z1, z2, z3, z4, z5, z6, z7, _⟩ := blk8 hz
              refine bodyPost_ret (v := .tuple #[.agg #[(.int .i64 0), (.int .i64 0), (.slice none 0 0), (.slice none 0 0), (.int .i64 0), (.slice none 0 0), (.int .i64 0), (.bool false)], .slice none 0 0, .int .i64 3]) ?_ rfl ?_
              · simp [results, Try.results24, Try.f24, go_sem, z0, z1, z2, z3, z4, z5, z6, z7]
              exact hret
            | false =>
              have hbn : body.length = 8 * cn := Decidable.of_not_not (fun h => by have := HRB.out.2 h; cases this)
              have HE0 : Hid (learnE ((s, lf, l), p, (k : Int), [], sent, false) (14, fr, tt, (k : Int), val, ep, vals, body) = 0) := HLE2.out 0 (by rw [HCN.out, if_neg (by omega)])
              obtain ⟨n', m', rfl, rfl, tk⟩ := checkT_TOk HCK.out
              obtain ⟨hlk, _, _, hlk4⟩ := tk.at_ k hk
              have hin : ∀ i ∈ numsL p, i < l[k].length := fun i hi => by have := mem_nums HEXT.out i hi; omega
              have hub := (union_canon HEXT.out).2.1
              have hz8 := hb8.size
              have hbz8 : b < w8.heap.size := by have := HZ6.out; omega
              have hlow8 := (HALL.out w8 hb8).2.2.2.2.2
              have HDF := Lib.hid (differing_any b l.length c' p.length pc 0 fc bc body.length k (n' : Int) (m' : Int) A' P F Bd sent false l p body w8 rfl rfl rfl hk hs hpl (fun e he => by have := hub e he; omega) (by rw [HCN.out]; omega) hin (by rw [HCN.out]; exact hbn) hbc (by omega) (HALL.out w8 hb8).1 ((HAR.out w8 hb8).more (fun g hg => ⟨by have := hg.2; omega, by have := hg.2; omega⟩)) ((HP.out w8 hlow8).more (fun g hg => by have : g < n0 := hg; exact ⟨by omega, by omega⟩)) ((HBD.out w8 hlow8).more (fun g hg => by have : g < n0 := hg; exact ⟨by omega, by omega⟩)))
              have HT : Hid (∀ W, Below b w8 W → W.heap[n0 + 1 + 1]? = some (.cells #[.int .i64 0, .int .i64 0, .slice none 0 0, .slice none 0 0, .int .i64 0, .slice none 0 0, .int .i64 0, .bool false] 27 (0, 0)) ∧ SlAt (encSl encU64) W (Nw n2 b) A' l ∧ Below w.heap.size w W) := fun W hb =>
                ⟨(hb.block _ (by omega)).trans (HALL.out w8 hb8).2.2.2.1, (HAR.out w8 hb8).blk (fun g hg => hb.block g hg.2), by rw [HN0.out]; have h := (HALL.out w8 hb8).2.2.2.2.1; rw [HN0.out] at h; exact h.trans (hb.mono (by omega))⟩
              obtain ⟨is, his⟩ : ∃ is, dfr l[k] body (numsL p) = is := ⟨_, rfl⟩
              rw [his, HCN.out] at HDF
              have HIS : Hid (learnD (((n' : Int), (m' : Int), l), p, (k : Int), [], sent, false) (14, fr, tt, (k : Int), val, ep, vals, body) = is) := by
                rw [Hid, ← his]; unfold learnD; rw [levT_at hk]
              have hisl : is.length ≤ 4096 := by rw [← his]; have := dfr_len l[k] (numsL p) body; rw [HCN.out] at this; omega
              have HISM : Hid (∀ i ∈ is, i < l[k].length) := fun i hi => hin i (dfr_mem i (by rw [his]; exact hi))
              obtain ⟨e0, e1, e2, e3, e4, e5, e6, e7, _⟩ := blk8 (HALL.out w8 hb8).2.2.1
              have HIL : Hid (is.length ≤ 8192) := by rw [Hid]; omega
              clear his hin hub hlow8 hz8 hbn
              go_wp2_with fail
              refine HDF.out.mono ?_
              rintro e w9 ⟨D, dc, rfl, hd1, hd2, hD, hrow9, hb9⟩
              have hz9 := hb9.size
              have hrD : Hid (SlAt encInt w9 (fun g => g < w9.heap.size ∧ g ≠ b) D (toI is)) := hD.more (fun g hg => ⟨hg.2, by have := hg.1; omega⟩)
              have HROW9 := Lib.hid hrow9
              clear hD e0 e1 e2 e3 e4 e5 e6 e7
              obtain ⟨a0, a1, a2, a3, a4, a5, a6, a7, _⟩ := blk8 hrow9
              clear hrow9
              rcases k with _ | k'
              · have hlf : ∀ i ∈ is, i < leavesN n' m' := fun i hi => by have := HISM.out i hi; rw [hlk] at this; exact this
                obtain ⟨r, hr⟩ : ∃ r, opL or (is.map (leafE n' m')) [] = r := ⟨_, rfl⟩
                have HFI := Lib.hid (find_any b l.length c' p.length pc 0 fc is.length dc n' m' ((0 : Nat) : Int) A' P F D (sent + cn) false is r w9 (toI_len is) hisl tk.n2 ⟨tk.m1, tk.m2⟩ hlf hr HROW9.out hrD.out)
                have HLW : Hid (learnW (((n' : Int), (m' : Int), l), p, ((0 : Nat) : Int), [], sent, false) (14, fr, tt, ((0 : Nat) : Int), val, ep, vals, body) = (((n' : Int), (m' : Int), l), [], 0, r, sent + cn, true)) := by
                  rw [Hid, learnW, if_neg (by rw [HE0.out]; simp), if_pos (by simp), HIS.out, ← hr, ← HCN.out]; rfl
                have HLM : Hid (learnM (((n' : Int), (m' : Int), l), p, ((0 : Nat) : Int), [], sent, false) (14, fr, tt, ((0 : Nat) : Int), val, ep, vals, body) = []) := by
                  rw [Hid, learnM, if_neg (by rw [HE0.out]; simp), if_pos (Or.inl (by simp))]
                clear hr hlf
                go_wp2_with fail
                refine HFI.out.mono ?_
                rintro e w10 ⟨F2, fc2, rfl, f1, f2, hrow10, hF2, hb10⟩
                have HR10 := Lib.hid hrow10
                have hb810 : Below b w8 w10 := hb9.trans hb10
                have HF2 := Lib.hid hF2
                clear hrow10 a0 a1 a2 a3 a4 a5 a6 a7 hF2
                obtain ⟨hrow, hA9, hBw⟩ := HT.out w10 hb810
                have hrow' := Lib.hid hrow
                have hBw' := Lib.hid hBw
                have HA9 := Lib.hid hA9
                obtain ⟨z0, z1, z2, z3, z4, z5, z6, z7, zf⟩ := blk8 hrow
                have hbW : b < w10.heap.size := HR10.out.lt
                obtain ⟨a0, a1, a2, a3, a4, a5, a6, a7, _⟩ := blk8 HR10.out
                clear hrow hA9 hBw
                go_wp2_with fail
                rw [HLW.out, HLM.out, HE0.out]
                have hv : WkVal w10 (fun g => w.heap.size ≤ g ∧ g < w10.heap.size ∧ g ≠ n0 + 1 + 1) (((n' : Int), (m' : Int), l), [], 0, r, sent + cn, true) (.agg #[.int .i64 (n' : Int), .int .i64 (m' : Int), .slice A' l.length c', .slice none 0 0, .int .i64 0, .slice F2 r.length fc2, .int .i64 (sent + cn), .bool true]) :=
                  ⟨A', c', none, 0, F2, fc2, rfl, ⟨d1, d2, HA9.out.more (fun g hg => ⟨by have := hg.1; have := HN0.out; omega, by have := hg.2; omega, by have := hg.1; omega⟩)⟩, ⟨Nat.zero_le _, Nat.zero_le _, SlAt.nil_⟩, ⟨f1, f2, HF2.out.more (fun g hg => ⟨by have := hg.1; have := HN0.out; omega, hg.2, by have := hg.1; omega⟩)⟩, hI.1, hI.2.1, i64_small 0 (by omega), i64_small _ (by simp only; omega)⟩
                have hend := wk_end (w := w) (u0 := (.int .i64 (n' : Int))) (u1 := (.int .i64 (m' : Int))) (u2 := (.slice A' l.length c')) (u3 := (.slice none 0 0)) (u4 := (.int .i64 0)) (u5 := (.slice F2 r.length fc2)) (u6 := (.int .i64 (sent + cn))) (u7 := (.bool true)) hrow'.out (by omega) hBw'.out hv (B := none) (n := 0) (bc := 0) (rfl : ([] : List Msg).length = 0) ⟨Nat.le_refl 0, Nat.zero_le _, SlAt.nil_⟩ 0
                obtain ⟨hz, hret⟩ := hend
                change bodyPost _ _ _ _ _ (set8 w10 (n0 + 1 + 1) (.int .i64 (n' : Int)) (.int .i64 (m' : Int)) (.slice A' l.length c') (.slice none 0 0) (.int .i64 0) (.slice F2 r.length fc2) (.int .i64 (sent + cn)) (.bool true))
                generalize set8 w10 (n0 + 1 + 1) (.int .i64 (n' : Int)) (.int .i64 (m' : Int)) (.slice A' l.length c') (.slice none 0 0) (.int .i64 0) (.slice F2 r.length fc2) (.int .i64 (sent + cn)) (.bool true) = W3 at hz hret ⊢
                obtain ⟨z0, z1, z2, z3, z4, z5, z6, z7, _⟩ := blk8 hz
                refine bodyPost_ret (v := .tuple #[.agg #[(.int .i64 (n' : Int)), (.int .i64 (m' : Int)), (.slice A' l.length c'), (.slice none 0 0), (.int .i64 0), (.slice F2 r.length fc2), (.int .i64 (sent + cn)), (.bool true)], .slice none 0 0, .int .i64 0]) ?_ rfl ?_
                · simp [results, Try.results24, Try.f24, go_sem, z0, z1, z2, z3, z4, z5, z6, z7]
                exact hret
              · have hk0 : ¬ (((k' + 1 : Nat) : Int) = 0) := by omega
                have hkb : ((((k' + 1 : Nat) : Int)) == 0) = false := by rw [beq_eq_false_iff_ne]; exact hk0
                by_cases his0 : is.length = 0
                · have HFI := Lib.hid (finish_any b l.length c' p.length pc 0 fc (n' : Int) (m' : Int) ((k' + 1 : Nat) : Int) A' P F (sent + cn) false w9 HROW9.out)
                  have hisn : is = [] := List.eq_nil_of_length_eq_zero his0
                  have HLW : Hid (learnW (((n' : Int), (m' : Int), l), p, ((k' + 1 : Nat) : Int), [], sent, false) (14, fr, tt, ((k' + 1 : Nat) : Int), val, ep, vals, body) = (((n' : Int), (m' : Int), l), [], 0, [], sent + cn, true)) := by
                    rw [Hid, learnW, if_neg (by rw [HE0.out]; simp), if_neg hk0, if_pos (by rw [HIS.out]; exact hisn), ← HCN.out]
                  have HLM : Hid (learnM (((n' : Int), (m' : Int), l), p, ((k' + 1 : Nat) : Int), [], sent, false) (14, fr, tt, ((k' + 1 : Nat) : Int), val, ep, vals, body) = []) := by
                    rw [Hid, learnM, if_neg (by rw [HE0.out]; simp), if_pos (Or.inr (by rw [HIS.out]; exact hisn))]
                  clear hisn
                  go_wp2_with fail
                  refine HFI.out.mono ?_
                  rintro e w10 ⟨rfl, hrow10, hg10⟩
                  have HR10 := Lib.hid hrow10
                  have hb810 : Below b w8 w10 := hb9.trans ((Below.refl b w9).grown hg10 (by omega) (fun k e => by injection e with e; omega))
                  clear hrow10 a0 a1 a2 a3 a4 a5 a6 a7 hg10
                  obtain ⟨hrow, hA9, hBw⟩ := HT.out w10 hb810
                  have hrow' := Lib.hid hrow
                  have hBw' := Lib.hid hBw
                  have HA9 := Lib.hid hA9
                  obtain ⟨z0, z1, z2, z3, z4, z5, z6, z7, zf⟩ := blk8 hrow
                  have hbW : b < w10.heap.size := HR10.out.lt
                  obtain ⟨a0, a1, a2, a3, a4, a5, a6, a7, _⟩ := blk8 HR10.out
                  clear hrow hA9 hBw
                  go_wp2_with fail
                  rw [HLW.out, HLM.out, HE0.out]
                  have hv : WkVal w10 (fun g => w.heap.size ≤ g ∧ g < w10.heap.size ∧ g ≠ n0 + 1 + 1) (((n' : Int), (m' : Int), l), [], 0, [], sent + cn, true) (.agg #[.int .i64 (n' : Int), .int .i64 (m' : Int), .slice A' l.length c', .slice none 0 0, .int .i64 0, .slice F 0 fc, .int .i64 (sent + cn), .bool true]) :=
                    ⟨A', c', none, 0, F, fc, rfl, ⟨d1, d2, HA9.out.more (fun g hg => ⟨by have := hg.1; have := HN0.out; omega, by have := hg.2; omega, by have := hg.1; omega⟩)⟩, ⟨Nat.zero_le _, Nat.zero_le _, SlAt.nil_⟩, ⟨Nat.zero_le _, hfc.2, fun h => absurd rfl h⟩, hI.1, hI.2.1, i64_small 0 (by omega), i64_small _ (by simp only; omega)⟩
                  have hend := wk_end (w := w) (u0 := (.int .i64 (n' : Int))) (u1 := (.int .i64 (m' : Int))) (u2 := (.slice A' l.length c')) (u3 := (.slice none 0 0)) (u4 := (.int .i64 0)) (u5 := (.slice F 0 fc)) (u6 := (.int .i64 (sent + cn))) (u7 := (.bool true)) hrow'.out (by omega) hBw'.out hv (B := none) (n := 0) (bc := 0) (rfl : ([] : List Msg).length = 0) ⟨Nat.le_refl 0, Nat.zero_le _, SlAt.nil_⟩ 0
                  obtain ⟨hz, hret⟩ := hend
                  change bodyPost _ _ _ _ _ (set8 w10 (n0 + 1 + 1) (.int .i64 (n' : Int)) (.int .i64 (m' : Int)) (.slice A' l.length c') (.slice none 0 0) (.int .i64 0) (.slice F 0 fc) (.int .i64 (sent + cn)) (.bool true))
                  generalize set8 w10 (n0 + 1 + 1) (.int .i64 (n' : Int)) (.int .i64 (m' : Int)) (.slice A' l.length c') (.slice none 0 0) (.int .i64 0) (.slice F 0 fc) (.int .i64 (sent + cn)) (.bool true) = W3 at hz hret ⊢
                  obtain ⟨z0, z1, z2, z3, z4, z5, z6, z7, _⟩ := blk8 hz
                  refine bodyPost_ret (v := .tuple #[.agg #[(.int .i64 (n' : Int)), (.int .i64 (m' : Int)), (.slice A' l.length c'), (.slice none 0 0), (.int .i64 0), (.slice F 0 fc), (.int .i64 (sent + cn)), (.bool true)], .slice none 0 0, .int .i64 0]) ?_ rfl ?_
                  · simp [results, Try.results24, Try.f24, go_sem, z0, z1, z2, z3, z4, z5, z6, z7]
                  exact hret
                · have hcast : ((k' + 1 : Nat) : Int) = (k' : Int) + 1 := by omega
                  have HROW9' : Hid (WkRow w9 b (n' : Int) (m' : Int) A' l.length c' P p.length pc ((k' : Int) + 1) F 0 fc (sent + cn) false) := by have h := HROW9.out; rw [hcast] at h; exact h
                  obtain ⟨hlk', _, _, hlk4'⟩ := tk.at_ k' (by omega)
                  have hgd : l.getD k' [] = l[k']'(by omega) := by rw [List.getD_eq_getElem?_getD, List.getElem?_eq_getElem (by omega)]; rfl
                  obtain ⟨M, hM⟩ : ∃ M, (l.getD k' []).length = M := ⟨_, rfl⟩
                  have hM' : M = nk (leavesN n' m') k' := by rw [← hM, hgd, hlk']
                  have hki : ∀ i ∈ is, 2 * i < (l.getD k' []).length := fun i hi => by have := HISM.out i hi; rw [hlk, nk_succ, ← hM'] at this; rw [hM]; omega
                  have hM4 : M ≤ 4096 := by omega
                  have HDE := Lib.hid (descend_any b l.length c' p.length pc 0 fc is.length dc k' (n' : Int) (m' : Int) A' P F D (sent + cn) false l is w9 (toI_len is) hisl rfl hk hs hki (by rw [hM]; exact hM4) HROW9'.out ((HT.out w9 hb9).2.1.more (fun g hg => ⟨by have := hg.2; omega, by have := hg.2; omega⟩)) hrD.out)
                  obtain ⟨jl, hjl⟩ : ∃ jl, joinN (kids M is) = jl := ⟨_, rfl⟩
                  rw [hM, hjl] at HDE
                  have hjll : jl.length ≤ 10000 := by rw [← hjl]; have h1 := joinN_len (kids M is); have h2 := kids_len M is; omega
                  have hisn : is ≠ [] := fun h => his0 (by rw [h]; rfl)
                  have HLW : Hid (learnW (((n' : Int), (m' : Int), l), p, ((k' + 1 : Nat) : Int), [], sent, false) (14, fr, tt, ((k' + 1 : Nat) : Int), val, ep, vals, body) = (((n' : Int), (m' : Int), l), jl, (k' : Int), [], sent + cn, false)) := by
                    have hlt : levT ((n' : Int), (m' : Int), l) ((k' : Int)) = l.getD k' [] := by unfold levT; simp
                    have hm1 : ((k' + 1 : Nat) : Int) - 1 = (k' : Int) := by omega
                    rw [Hid, learnW, if_neg (by rw [HE0.out]; simp), if_neg hk0, if_neg (by rw [HIS.out]; exact hisn), HIS.out]
                    simp only
                    rw [hm1, hlt, hM, hjl, HCN.out]
                  have HLM : Hid (learnM (((n' : Int), (m' : Int), l), p, ((k' + 1 : Nat) : Int), [], sent, false) (14, fr, tt, ((k' + 1 : Nat) : Int), val, ep, vals, body) = [reqMsg (((n' : Int), (m' : Int), l), jl, (k' : Int), [], sent + cn, false)]) := by
                    rw [Hid, learnM, if_neg (by rw [HE0.out]; simp), if_neg (by rw [HIS.out]; intro h; rcases h with h | h; exact hk0 h; exact hisn h), HLW.out]
                  have hib : ((is.length : Int) == 0) = false := by rw [beq_eq_false_iff_ne]; omega
                  clear hki hM hM' hjl hgd hisn hlk' hcast
                  go_wp2_with fail
                  refine HDE.out.mono ?_
                  rintro e w10 ⟨P2, pc2, rfl, f1, f2, hrow10, hP2, hb10⟩
                  have hb810 : Below b w8 w10 := hb9.trans hb10
                  have HR10 := Lib.hid hrow10
                  have HP2 := Lib.hid hP2
                  obtain ⟨hrow, hA9, hBw⟩ := HT.out w10 hb810
                  have hrow' := Lib.hid hrow
                  have hBw' := Lib.hid hBw
                  have HA9 := Lib.hid hA9
                  have hbW : b < w10.heap.size := hrow10.lt
                  clear hrow10 hP2 hrow hA9 hBw a0 a1 a2 a3 a4 a5 a6 a7
                  have HRW2 := Lib.hid (fun W (hb : BelX (n0 + 1 + 1) w10 W) => HR10.out.of_blk (hb b hbW (by omega)))
                  have hSw : BelX (n0 + 1 + 1) w10 w10.drew := fun _ _ _ => rfl
                  go_upto_region 17 with (fail)
                  refine wp_region_U (fun W' => BelX (n0 + 1 + 1) w10 W') 10 (by kernel_rfl) ?_
                  refine wpAnyU_takeD (i := 0) (v := ?_) rfl rfl (by kernel_rfl) (by kernel_rfl) (by kernel_rfl) (by kernel_rfl) (fun _ _ _ h => h) (by rfl) ?_ hSw ?_
                  rotate_left 1
                  · intro W9 hW9
                    try dsimp only at hW9
                    obtain ⟨⟨k0, k1, k2⟩, k3, k4, k5, k6, k7⟩ := (HRW2.out W9 hW9).cells
                    go_simp
                    try with_reducible rfl
                  try simp only [List.setIfInBounds_toArray, List.set_cons_zero, List.set_cons_succ]
                  refine wpAnyU_takeD (i := 1) (v := ?_) rfl rfl (by kernel_rfl) (by kernel_rfl) (by kernel_rfl) (by kernel_rfl) (fun _ _ _ h => h) (by rfl) ?_ hSw ?_
                  rotate_left 1
                  · intro W9 hW9
                    try dsimp only at hW9
                    obtain ⟨⟨k0, k1, k2⟩, k3, k4, k5, k6, k7⟩ := (HRW2.out W9 hW9).cells
                    go_simp
                    try with_reducible rfl
                  try simp only [List.setIfInBounds_toArray, List.set_cons_zero, List.set_cons_succ]
                  refine wpAnyU_takeD (i := 2) (v := ?_) rfl rfl (by kernel_rfl) (by kernel_rfl) (by kernel_rfl) (by kernel_rfl) (fun _ _ _ h => h) (by rfl) ?_ hSw ?_
                  rotate_left 1
                  · intro W9 hW9
                    try dsimp only at hW9
                    obtain ⟨⟨k0, k1, k2⟩, k3, k4, k5, k6, k7⟩ := (HRW2.out W9 hW9).cells
                    go_simp
                    try with_reducible rfl
                  try simp only [List.setIfInBounds_toArray, List.set_cons_zero, List.set_cons_succ]
                  refine wpAnyU_takeD (i := 3) (v := ?_) rfl rfl (by kernel_rfl) (by kernel_rfl) (by kernel_rfl) (by kernel_rfl) (fun _ _ _ h => h) (by rfl) ?_ hSw ?_
                  rotate_left 1
                  · intro W9 hW9
                    try dsimp only at hW9
                    obtain ⟨⟨k0, k1, k2⟩, k3, k4, k5, k6, k7⟩ := (HRW2.out W9 hW9).cells
                    go_simp
                    try with_reducible rfl
                  try simp only [List.setIfInBounds_toArray, List.set_cons_zero, List.set_cons_succ]
                  refine wpAnyU_op (i := 4) (by kernel_rfl) rfl rfl (fun K hK => ?_)
                  go_simp
                  refine hK.out _ _ (fun _ => hSw) ?_
                  clear hK K
                  try simp only [Act.put, List.setIfInBounds_toArray, List.set_cons_zero, List.set_cons_succ]
                  refine wpAnyU_op (i := 5) (by kernel_rfl) rfl rfl (fun K hK => ?_)
                  go_wp2_with fail
                  refine ((request_any b l.length c' pc2 0 fc (n' : Int) (m' : Int) (k' : Int) A' P2 F (sent + cn) false jl _ (by omega) ⟨hI.1, hI.2.1⟩ (HRW2.out _ hSw) (HP2.out.more (fun g hg => hg.2)))).mono ?_
                  rintro e w3 ⟨V3, vc3, rfl, ⟨x1, x2, x3⟩, hb3'⟩; have hb3 : Below w10.heap.size w10 w3 := bUn hb3'
                  refine hK.out _ _ (fun _ => (belX_of hb3)) ?_
                  clear hK K
                  try simp only [Act.put, List.setIfInBounds_toArray, List.set_cons_zero, List.set_cons_succ]
                  have hrr := (hb3.block (n0 + 1 + 1) (by omega)).trans hrow'.out
                  obtain ⟨z0, z1, z2, z3, z4, z5, z6, z7, zf⟩ := blk8 hrr
                  have hsz3 := hb3.size
                  have hz10 := hb10.size
                  have hB3 : Below w.heap.size w w3 := hBw'.out.trans (hb3.mono (by have := hBw'.out.size; omega))
                  have hv3 : WkVal w3 (fun g => w.heap.size ≤ g ∧ g < w3.heap.size ∧ g ≠ n0 + 1 + 1) (((n' : Int), (m' : Int), l), jl, (k' : Int), [], sent + cn, false) (.agg #[.int .i64 (n' : Int), .int .i64 (m' : Int), .slice A' l.length c', .slice P2 jl.length pc2, .int .i64 (k' : Int), .slice F 0 fc, .int .i64 (sent + cn), .bool false]) :=
                    ⟨A', c', P2, pc2, F, fc, rfl, ⟨d1, d2, (HA9.out.blk (fun g hg => hb3.block g (by have := hg.2; omega))).more (fun g hg => ⟨by have := hg.1; have := HN0.out; omega, by have := hg.2; omega, by have := hg.1; omega⟩)⟩, ⟨f1, f2, (HP2.out.blk (fun g hg => hb3.block g hg.2)).more (fun g hg => ⟨by have := hg.1; have := HN0.out; omega, by have := hg.2; omega, by have := hg.1; omega⟩)⟩, ⟨Nat.zero_le _, hfc.2, fun h => absurd rfl h⟩, hI.1, hI.2.1, i64_small _ (by simp only; omega), i64_small _ (by simp only; omega)⟩
                  have hend := wk_req_end (w := w) hrr (by have := HN0.out; omega) hB3 hv3 (V := V3) (vc := vc3) (n := (reqL (n' : Int) (m' : Int) jl).length) rfl ⟨x1, x2, x3.more (fun g hg => ⟨by have := hg.1; have h9 : w10.drew.heap.size = w10.heap.size := rfl; have := HN0.out; omega, hg.2, by have := hg.1; have h9 : w10.drew.heap.size = w10.heap.size := rfl; omega⟩)⟩
                  have HEND := Lib.hid hend
                  clear hend hv3 x3
                  have hbX : BelX (n0 + 1 + 1) w10 (set8 w3 (n0 + 1 + 1) (.int .i64 (n' : Int)) (.int .i64 (m' : Int)) (.slice A' l.length c') (.slice P2 jl.length pc2) (.int .i64 (k' : Int)) (.slice F 0 fc) (.int .i64 (sent + cn)) (.bool false)) := fun g h1 h2 => (set8_other h2 _ _ _ _ _ _ _ _).trans (hb3.block g h1)
                  have hs8x : (set8 w3 (n0 + 1 + 1) (.int .i64 (n' : Int)) (.int .i64 (m' : Int)) (.slice A' l.length c') (.slice P2 jl.length pc2) (.int .i64 (k' : Int)) (.slice F 0 fc) (.int .i64 (sent + cn)) (.bool false)).heap.size = w3.heap.size := set8_sz
                  have hsa := fun o => set8_alloc (w := w3) (o := o) (b := n0 + 1 + 1) (.int .i64 (n' : Int)) (.int .i64 (m' : Int)) (.slice A' l.length c') (.slice P2 jl.length pc2) (.int .i64 (k' : Int)) (.slice F 0 fc) (.int .i64 (sent + cn)) (.bool false) (by omega)
                  refine wpAnyU_two (i := 6) (j := 7) (by kernel_rfl) rfl rfl rfl rfl (fun K hK => ?_) (fun K hK => ?_)
                  · have hrr' := (Below.heap_alloc w3 (.cells #[.int .i64 13, .int .i64 0, .int .i64 0, .int .i64 (k' : Int), .int .i64 0, .int .i64 0, .slice V3 (reqL (n' : Int) (m' : Int) jl).length vc3, .slice none 0 0] 45) (n0 + 1 + 1) (by omega)).trans hrr
                    go_simp
                    refine hK.out _ _ (fun _ => fun g h1 h2 => (Below.heap_alloc _ _ _ (by omega)).trans (hb3.block g h1)) ?_
                    clear hK K z0 z1 z2 z3 z4 z5 z6 z7 zf
                    obtain ⟨z0, z1, z2, z3, z4, z5, z6, z7, zf⟩ := blk8 hrr'
                    refine wpAnyU_op (i := 7) (by kernel_rfl) rfl rfl (fun K hK => ?_)
                    go_simp
                    refine hK.out _ _ (fun _ => fun g h1 h2 => (set8_other h2 _ _ _ _ _ _ _ _).trans ((Below.heap_alloc _ _ _ (by omega)).trans (hb3.block g h1))) ?_
                    clear hK K z0 z1 z2 z3 z4 z5 z6 z7 zf
                    change wpAnyU _ _ _ _ _ _ _ _ _ (set8 (w3.alloc (.cells #[.int .i64 13, .int .i64 0, .int .i64 0, .int .i64 (k' : Int), .int .i64 0, .int .i64 0, .slice V3 (reqL (n' : Int) (m' : Int) jl).length vc3, .slice none 0 0] 45)) (n0 + 1 + 1) (.int .i64 (n' : Int)) (.int .i64 (m' : Int)) (.slice A' l.length c') (.slice P2 jl.length pc2) (.int .i64 (k' : Int)) (.slice F 0 fc) (.int .i64 (sent + cn)) (.bool false))
                    rw [hsa]
                    clear hsa hrr'
                    generalize set8 w3 (n0 + 1 + 1) (.int .i64 (n' : Int)) (.int .i64 (m' : Int)) (.slice A' l.length c') (.slice P2 jl.length pc2) (.int .i64 (k' : Int)) (.slice F 0 fc) (.int .i64 (sent + cn)) (.bool false) = W7 at HEND hs8x hbX ⊢
                    refine wpAnyU_op (i := 8) (by kernel_rfl) rfl rfl (fun K hK => ?_)
                    go_simp
                    refine hK.out _ _ (fun _ => (fun g h1 h2 => (Below.heap_alloc _ _ _ (by omega)).trans (hbX g h1 h2))) ?_
                    clear hK K
                    try simp only [Act.put, List.setIfInBounds_toArray, List.set_cons_zero, List.set_cons_succ]
                    refine wpAnyU_op (i := 9) (by kernel_rfl) rfl rfl (fun K hK => ?_)
                    go_simp
                    refine hK.out _ _ (fun _ => (fun g h1 h2 => (Below.heap_alloc _ _ _ (by omega)).trans (hbX g h1 h2))) ?_
                    clear hK K
                    try simp only [Act.put, List.setIfInBounds_toArray, List.set_cons_zero, List.set_cons_succ]
                    refine wpAnyU_done (by kernel_rfl) ?_ _
                    obtain ⟨hz, hret⟩ := HEND.out
                    generalize W7.alloc (.cells #[.int .i64 13, .int .i64 0, .int .i64 0, .int .i64 (k' : Int), .int .i64 0, .int .i64 0, .slice V3 (reqL (n' : Int) (m' : Int) jl).length vc3, .slice none 0 0] 45) = W9 at hz hret ⊢
                    obtain ⟨z0, z1, z2, z3, z4, z5, z6, z7, _⟩ := blk8 hz
                    go_wp2_with fail
                    refine bodyPost_ret (v := .tuple #[.agg #[.int .i64 (n' : Int), .int .i64 (m' : Int), .slice A' l.length c', .slice P2 jl.length pc2, .int .i64 (k' : Int), .slice F 0 fc, .int .i64 (sent + cn), .bool false], .slice (some ⟨w3.heap.size, 0, none⟩) 1 1, .int .i64 0]) ?_ rfl ?_
                    · simp [results, Try.results24, Try.f24, go_sem, z0, z1, z2, z3, z4, z5, z6, z7]
                    have hc9 : (k' : Int) + 1 = ((k' + 1 : Nat) : Int) := by omega
                    rw [hc9, HLW.out, HLM.out, HE0.out]
                    exact hret
                  · go_simp
                    refine hK.out _ _ (fun _ => hbX) ?_
                    clear hK K z0 z1 z2 z3 z4 z5 z6 z7 zf hsa
                    change wpAnyU _ _ _ _ _ _ _ _ _ (set8 w3 (n0 + 1 + 1) (.int .i64 (n' : Int)) (.int .i64 (m' : Int)) (.slice A' l.length c') (.slice P2 jl.length pc2) (.int .i64 (k' : Int)) (.slice F 0 fc) (.int .i64 (sent + cn)) (.bool false))
                    generalize set8 w3 (n0 + 1 + 1) (.int .i64 (n' : Int)) (.int .i64 (m' : Int)) (.slice A' l.length c') (.slice P2 jl.length pc2) (.int .i64 (k' : Int)) (.slice F 0 fc) (.int .i64 (sent + cn)) (.bool false) = W7 at HEND hs8x hbX ⊢
                    refine wpAnyU_op (i := 6) (by kernel_rfl) rfl rfl (fun K hK => ?_)
                    go_simp
                    refine hK.out _ _ (fun _ => (fun g h1 h2 => (Below.heap_alloc _ _ _ (by omega)).trans (hbX g h1 h2))) ?_
                    clear hK K
                    try simp only [Act.put, List.setIfInBounds_toArray, List.set_cons_zero, List.set_cons_succ]
                    try rw [hs8x]
                    refine wpAnyU_op (i := 8) (by kernel_rfl) rfl rfl (fun K hK => ?_)
                    go_simp
                    refine hK.out _ _ (fun _ => (fun g h1 h2 => (Below.heap_alloc _ _ _ (by omega)).trans (hbX g h1 h2))) ?_
                    clear hK K
                    try simp only [Act.put, List.setIfInBounds_toArray, List.set_cons_zero, List.set_cons_succ]
                    refine wpAnyU_op (i := 9) (by kernel_rfl) rfl rfl (fun K hK => ?_)
                    go_simp
                    refine hK.out _ _ (fun _ => (fun g h1 h2 => (Below.heap_alloc _ _ _ (by omega)).trans (hbX g h1 h2))) ?_
                    clear hK K
                    try simp only [Act.put, List.setIfInBounds_toArray, List.set_cons_zero, List.set_cons_succ]
                    refine wpAnyU_done (by kernel_rfl) ?_ _
                    obtain ⟨hz, hret⟩ := HEND.out
                    generalize W7.alloc (.cells #[.int .i64 13, .int .i64 0, .int .i64 0, .int .i64 (k' : Int), .int .i64 0, .int .i64 0, .slice V3 (reqL (n' : Int) (m' : Int) jl).length vc3, .slice none 0 0] 45) = W9 at hz hret ⊢
                    obtain ⟨z0, z1, z2, z3, z4, z5, z6, z7, _⟩ := blk8 hz
                    go_wp2_with fail
                    refine bodyPost_ret (v := .tuple #[.agg #[.int .i64 (n' : Int), .int .i64 (m' : Int), .slice A' l.length c', .slice P2 jl.length pc2, .int .i64 (k' : Int), .slice F 0 fc, .int .i64 (sent + cn), .bool false], .slice (some ⟨w3.heap.size, 0, none⟩) 1 1, .int .i64 0]) ?_ rfl ?_
                    · simp [results, Try.results24, Try.f24, go_sem, z0, z1, z2, z3, z4, z5, z6, z7]
                    have hc9 : (k' : Int) + 1 = ((k' + 1 : Nat) : Int) := by omega
                    rw [hc9, HLW.out, HLM.out, HE0.out]
                    exact hret
        · have HE : Hid (learnE ((s, lf, l), p, (k : Int), [], sent, false) (14, fr, tt, num, val, ep, vals, body) = 22) := HLE.out 22 (by rw [if_neg (by simp), if_neg (by simp), if_pos (Or.inl hnum)])
          have hne : (num != (k : Int)) = true := by simp [hnum]
          have hrow := Lib.hid ((HALL.out W6 hb66).2.2.2.1)
          have hBw := Lib.hid ((HALL.out W6 hb66).2.2.2.2.1)
          obtain ⟨z0, z1, z2, z3, z4, z5, z6, z7, zf⟩ := blk8 hrow.out
          go_wp2_with fail
          rw [(HZ.out 22 (by decide) HE.out).1, (HZ.out 22 (by decide) HE.out).2.1, HE.out]
          have hend := wk_end (w := w) (u0 := (.int .i64 0)) (u1 := (.int .i64 0)) (u2 := (.slice none 0 0)) (u3 := (.slice none 0 0)) (u4 := (.int .i64 0)) (u5 := (.slice none 0 0)) (u6 := (.int .i64 0)) (u7 := (.bool false)) hrow.out (by omega) hBw.out wkVal_zero (B := none) (n := 0) (bc := 0) (rfl : ([] : List Msg).length = 0) ⟨Nat.le_refl 0, Nat.zero_le _, SlAt.nil_⟩ 22
          obtain ⟨hz, hret⟩ := hend
          change bodyPost _ _ _ _ _ (set8 W6 (n0 + 1 + 1) (.int .i64 0) (.int .i64 0) (.slice none 0 0) (.slice none 0 0) (.int .i64 0) (.slice none 0 0) (.int .i64 0) (.bool false))
          generalize set8 W6 (n0 + 1 + 1) (.int .i64 0) (.int .i64 0) (.slice none 0 0) (.slice none 0 0) (.int .i64 0) (.slice none 0 0) (.int .i64 0) (.bool false) = W3 at hz hret ⊢
          obtain ⟨z0, z1, z2, z3, z4, z5, z6, z7, _⟩ := blk8 hz
          refine bodyPost_ret (v := .tuple #[.agg #[(.int .i64 0), (.int .i64 0), (.slice none 0 0), (.slice none 0 0), (.int .i64 0), (.slice none 0 0), (.int .i64 0), (.bool false)], .slice none 0 0, .int .i64 22]) ?_ rfl ?_
          · simp [results, Try.results24, Try.f24, go_sem, z0, z1, z2, z3, z4, z5, z6, z7]
          exact hret
      · have HE : Hid (learnE ((s, lf, l), p, (k : Int), [], sent, false) (kind, fr, tt, num, val, ep, vals, body) = 1) := HLE.out 1 (by rw [if_neg (by simp), if_pos hk14])
        have hne : (kind != 14) = true := by simp [hk14]
        have hrow := Lib.hid ((HALL.out W6 hb66).2.2.2.1)
        have hBw := Lib.hid ((HALL.out W6 hb66).2.2.2.2.1)
        obtain ⟨z0, z1, z2, z3, z4, z5, z6, z7, zf⟩ := blk8 hrow.out
        go_wp2_with fail
        rw [(HZ.out 1 (by decide) HE.out).1, (HZ.out 1 (by decide) HE.out).2.1, HE.out]
        have hend := wk_end (w := w) (u0 := (.int .i64 0)) (u1 := (.int .i64 0)) (u2 := (.slice none 0 0)) (u3 := (.slice none 0 0)) (u4 := (.int .i64 0)) (u5 := (.slice none 0 0)) (u6 := (.int .i64 0)) (u7 := (.bool false)) hrow.out (by omega) hBw.out wkVal_zero (B := none) (n := 0) (bc := 0) (rfl : ([] : List Msg).length = 0) ⟨Nat.le_refl 0, Nat.zero_le _, SlAt.nil_⟩ 1
        obtain ⟨hz, hret⟩ := hend
        change bodyPost _ _ _ _ _ (set8 W6 (n0 + 1 + 1) (.int .i64 0) (.int .i64 0) (.slice none 0 0) (.slice none 0 0) (.int .i64 0) (.slice none 0 0) (.int .i64 0) (.bool false))
        generalize set8 W6 (n0 + 1 + 1) (.int .i64 0) (.int .i64 0) (.slice none 0 0) (.slice none 0 0) (.int .i64 0) (.slice none 0 0) (.int .i64 0) (.bool false) = W3 at hz hret ⊢
        obtain ⟨z0, z1, z2, z3, z4, z5, z6, z7, _⟩ := blk8 hz
        refine bodyPost_ret (v := .tuple #[.agg #[(.int .i64 0), (.int .i64 0), (.slice none 0 0), (.slice none 0 0), (.int .i64 0), (.slice none 0 0), (.int .i64 0), (.bool false)], .slice none 0 0, .int .i64 1]) ?_ rfl ?_
        · simp [results, Try.results24, Try.f24, go_sem, z0, z1, z2, z3, z4, z5, z6, z7]
        exact hret
  · have HE : Hid (learnE ((s, lf, l), p, lv, f, sent, done) (kind, fr, tt, num, val, ep, vals, body) = x) := by rw [Hid, learnE, if_pos (by rw [HX.out]; exact hx0), HX.out]
    obtain ⟨z0, z1, z2, z3, z4, z5, z6, z7, zf⟩ := blk8 (HR.out w1 hb1)
    have hrow := Lib.hid (HR.out w1 hb1)
    have hBw := Lib.hid (show Below w.heap.size w w1 by rw [HN0.out]; exact HB0.out.trans (hb1.mono (by omega)))
    go_wp2_with fail
    rw [(HZ.out x hx0 HE.out).1, (HZ.out x hx0 HE.out).2.1, HE.out]
    have hend := wk_end (w := w) (u0 := (.int .i64 0)) (u1 := (.int .i64 0)) (u2 := (.slice none 0 0)) (u3 := (.slice none 0 0)) (u4 := (.int .i64 0)) (u5 := (.slice none 0 0)) (u6 := (.int .i64 0)) (u7 := (.bool false)) hrow.out (by omega) hBw.out wkVal_zero (B := none) (n := 0) (bc := 0) (rfl : ([] : List Msg).length = 0) ⟨Nat.le_refl 0, Nat.zero_le _, SlAt.nil_⟩ x
    obtain ⟨hz, hret⟩ := hend
    change bodyPost _ _ _ _ _ (set8 w1 (n0 + 1 + 1) (.int .i64 0) (.int .i64 0) (.slice none 0 0) (.slice none 0 0) (.int .i64 0) (.slice none 0 0) (.int .i64 0) (.bool false))
    generalize set8 w1 (n0 + 1 + 1) (.int .i64 0) (.int .i64 0) (.slice none 0 0) (.slice none 0 0) (.int .i64 0) (.slice none 0 0) (.int .i64 0) (.bool false) = W3 at hz hret ⊢
    obtain ⟨z0, z1, z2, z3, z4, z5, z6, z7, _⟩ := blk8 hz
    refine bodyPost_ret (v := .tuple #[.agg #[(.int .i64 0), (.int .i64 0), (.slice none 0 0), (.slice none 0 0), (.int .i64 0), (.slice none 0 0), (.int .i64 0), (.bool false)], .slice none 0 0, .int .i64 x]) ?_ rfl ?_
    · simp [results, Try.results24, Try.f24, go_sem, z0, z1, z2, z3, z4, z5, z6, z7]
    exact hret
end Go.Proofs.Ytjehedfdikdfpaa
namespace Go.Proofs.Ytjehedfdikdfpaa
open Go.RowKit Go.Shelf
attribute [local go_sem] Oper.semAt_some

section
variable {F : Fence} {n : Nat} {P : Program} {α : Type} {E : Enc α} {t e : TypeId} {bytes : Nat} {o : Oper} {ops : Array Oper} {a : Act} {w : World} {Q : Exit → Act → World → Prop}
/-- append of all elements at a step of a drawn region, inside a fence -/
theorem stepIn_appAll {K : Act → World → Prop} {X : Prop} (hT : SliceTy P t e E.size bytes) (hgd : o.guard = none) (s x : Operand) (ho : o.op = .call { callee := .builtin .append, args := #[s, x], argTypes := #[t, t] })
    {base : Nat} {S : Nat → Prop} {v : Value} {l : List α} (hs : a.eval s = v) (hown : Own E w base e S v l) {ad : Option Addr} {c m : Nat} {news : List α} (hx : a.eval x = .slice ad m c)
    (hm : m = news.length) (hr : SlAt E w S ad news) (hS : ∀ b, S b → b < w.heap.size) (hbase : base ≤ w.heap.size)
    (h63 : l.length + m ≤ maxLen) (hbytes : (l.length + m) * bytes ≤ 140737488355328)
    (h : ∀ A c' w', Own E w' base e S (.slice A (l.length + m) c') (l ++ news) → w.grownBy w' v.ownBlock → ((Value.slice A (l.length + m) c').ownBlock = v.ownBlock ∨ (Value.slice A (l.length + m) c').ownBlock = some w.heap.size) → K (a.put o.dst (.slice A (l.length + m) c')) w') :
    if Region.wanted o (yielded ops a.tmps) = true then Oper.wpIn F n P o a w K Q else X := by
  have hw : Region.wanted o (yielded ops a.tmps) = true := by simp [Region.wanted, hgd]
  rw [if_pos hw]
  have hrun : ∃ A c' w', (Builtin.append_ #[t, t] o.type #[v, .slice ad m c]).run P w = .ok (.slice A (l.length + m) c') w' ∧ Own E w' base e S (.slice A (l.length + m) c') (l ++ news) ∧ w.grownBy w' v.ownBlock ∧
      ((Value.slice A (l.length + m) c').ownBlock = v.ownBlock ∨ (Value.slice A (l.length + m) c').ownBlock = some w.heap.size) := by
    by_cases hn : news = []
    · subst hn
      exact run_app (P := P) (c := c) hT o.type hown (news := []) (css := []) hm trivial (fun h => absurd rfl h) hS hbase h63 hbytes
    · obtain ⟨b, off, rfl, _⟩ := hr.some_ hn
      obtain ⟨css, h1, h2, h3, h4⟩ := hr.row
      exact run_app (P := P) (c := c) hT o.type hown (news := news) (css := css) hm h3 (fun _ => ⟨_, rfl, h4⟩) hS hbase h63 hbytes
  obtain ⟨A, c', w', hr, h2, h3, h4⟩ := hrun
  unfold Oper.wpIn
  refine ⟨?_, ?_⟩
  · simp [Oper.about, ho, resolve, Target.leads, Sem.run_pure]
  · rw [Oper.semAt_plain F _ _ (by rw [ho]; intro c hc'; cases hc')]
    simp only [execOp, ho, resolve, invoke, builtin, Sem.run_bind, Sem.run_pure, Result.andThen_ok, List.map_toArray, List.map_cons, List.map_nil, hs, hx, hr]
    exact h A c' w' h2 h3 h4
end
section
variable {F : Fence} {n : Nat} {P : Program}
/-- a range over a function whose value goes into one slot: no word about the other slots -/
theorem wpIn_rangeFunc_own1 {α : Type} {own : TypeId → Prop} {g : Operand} {p d : Tmp} {id : Nat} {ty : TypeId} {pos : String} {body : Code} {Q : Exit → Act → World → Prop} {a : Act} {w : World}
    (hro : F.round = none) (h1 : 1 ≤ n) {gf : Nat} {lb : Array Value} (hg : a.eval g = .func (.func gf) #[] lb) (hFg : F.fn gf) (eg : ∀ args w, (callFunc gf args).run P w = .ok (.enter gf args) w)
    {v : α → Value} {Kp : World → World → Prop} {S Sp : List α → Prop} {N : Nat} {w0 : World} (hseq : SeqStopsT own F (n - 1) P gf lb (fun x => #[v x]) Kp S Sp N w0)
    (hKt : ∀ {A B C : World}, Kp A B → Kp B C → Kp A C) (hKr : ∀ W : World, Kp W W) (hKb : ∀ (W : World) (l : Nat) (o o' : Obj), w.heap.size ≤ l → W.heap[l]? = some o → o.isCells = false → o.isWalk = false → Kp W (W.putObj l o')) (hb0 : Below w0.heap.size w0 w) (hpd : p < a.tmps.size)
    (I : List α → World → Prop) (hI : OwnT own w.heap.size I) (h0 : I [] w)
    (hbody : ∀ (l : Nat) (pre : List α) (x : α) (W : World), w.heap.size ≤ l → (∃ r, W.heap[l]? = some (.loop r)) → I pre W → pre.length < N → body.wpIn (F.inRound l) (n - 1 - 1) P (ownPostG w.heap.size Kp I (fun _ _ _ => False) (pre ++ [x]) W) { tmps := (a.tmps.setIfInBounds p (v x)).setIfInBounds d (v x), defers := [] } W)
    (hdone : ∀ (D : Nat) (xs : List α) (W : World), w.heap.size ≤ D → S xs → I xs W → W.heap[D]? = some (.deferred (some [])) → Q .normal { a with defers := { target := .collected D, args := #[] } :: a.defers } W) :
    (Code.rangeFunc g #[p] (Code.region id #[{ dst := some d, op := .assign (.tmp p), type := ty, pos := pos, after := #[], guard := none }] false) body).wpIn F n P Q a w := by
  refine wpIn_rangeFunc_ownT hro h1 hg hFg eg hseq hKt hKb hb0 (fun _ => rfl) I (fun _ _ _ => False) hI (fun _ _ _ _ _ hs _ _ => hs) h0
    (fun x a' W => a' = { tmps := (a.tmps.setIfInBounds p (v x)).setIfInBounds d (v x), defers := [] }) (fun x a' s X Y row h _ _ => h) ?_ ?_ hdone (fun D c pre W _ _ h => h.elim)
  · rintro l pre x W K hi hK
    gi_wp2
    exact hK _ _ (KeepsFrom.refl _ _) (hKr _) hi rfl
  · rintro l pre x a' W h1 h2 h3 rfl h5
    exact hbody l pre x W h1 h2 h3 h5
end
abbrev PairIx (q : Nat) := {k : Nat // k < q}
def chI (b off : Nat) (k : Nat) : Array Value := #[.slice (some ⟨b, off + k * 2, none⟩) 2 2]
set_option maxRecDepth 100000 in
set_option maxHeartbeats 4000000 in
theorem chunkI_in (n : Nat) (hn : 1 ≤ n) (y Bs Bn c b off q : Nat) (A : Option Addr) (hA : 0 < q → A = some ⟨b, off, none⟩) (hq : q ≤ 100000) (hc : 2 * q ≤ c) (hc2 : c ≤ maxLen) (J Jx : List Nat → World → Prop)
    (hY : ∀ pre x W, J pre W → pre.length < q → x < q → YieldAt Fence.wide (n - 1) Try.prog y (chI b off x) W fun e W' =>
      (e = .returned (.bool true) ∧ J (pre ++ [x]) W' ∧ KpC Bs Bn W W') ∨ (e = .returned (.bool false) ∧ Jx (pre ++ [x]) W'))
    (W : World) (hcs : W.cell? ⟨Bs, 0, none⟩ = some (.slice A (2 * q) c)) (hcn : W.cell? ⟨Bn, 0, none⟩ = some (.int .i64 2)) (hJd : ∀ pre W, J pre W → J pre W.drew) (h0 : J [] W) :
    CallsIn Fence.wide n Try.prog 73 #[.func (.yield y) #[] #[], .pointer (some ⟨Bs, 0, none⟩), .pointer (some ⟨Bn, 0, none⟩)] W fun e W' => (∃ v, e = .returned v) ∧
      ((∃ ys : List Nat, ys = List.range q ∧ J ys W') ∨ (∃ pre : List Nat, True ∧ Jx pre W')) := by
  unfold maxLen at hc2
  obtain ⟨q2, hq2⟩ : ∃ q2, 2 * q = q2 := ⟨_, rfl⟩
  rw [hq2] at hcs hc
  have HQ2 := Lib.hid hq2
  have hq3 : q2 ≤ 200000 := by omega
  clear hq2
  refine callsIn_of_wp Try.func73 rfl trivial ?_ rfl
  simp only [Try.ntmps73, List.size_toArray, List.length_cons, List.length_nil, Nat.reduceAdd, Nat.reduceSub, Array.replicate_succ, Array.replicate_zero, List.push_toArray, List.append_toArray, List.nil_append, List.cons_append]
  gi_wp2
  gi_loopw [4] (fun i wr => ∃ (k p : Nat), k ≤ q ∧ Hid (p = k * 2) ∧ i = .int .i64 (p : Int) ∧ p ≤ 300000 ∧ J (List.range k) wr ∧ KpC Bs Bn W wr) (fun i _ => q2 - (intOf i).toNat)
  case atStart => exact ⟨0, 0, Nat.zero_le _, by simp [Hid], rfl, by omega, h0, rfl, rfl⟩
  case round =>
    obtain ⟨k, p, hk, hp, rfl, hp2, hJs, hB⟩ := hrel
    have hcs' := hB.1.trans hcs
    have hcn' := hB.2.trans hcn
    clear hcs hcn
    have hnn : (0 : Int) ≤ p := by omega
    by_cases hlt : p < q2
    · have hki : (p : Int) < q2 := by omega
      have hkn : k < q := by have := HQ2.out; have := hp.out; omega
      obtain rfl := hA (by omega)
      obtain ⟨fn, tmps, assign, body, hy, hR⟩ := hY (List.range k) k wr.drew (hJd _ _ hJs) (by rw [List.length_range]; exact hkn) hkn
      have hE : chI b off k = #[.slice (some ⟨b, off + p, none⟩) 2 2] := by unfold chI; rw [← hp.out]
      rw [hE] at hy
      have hp4 : p + 2 ≤ q2 := by have := HQ2.out; have := hp.out; omega
      have hle : (2 : Int) ≤ ((q2 - p : Nat) : Int) := by omega
      have hqm : ((p : Int) + 2) ≤ (c : Int) := by omega
      have hmin : min (2 : Int) ((q2 - p : Nat) : Int) = 2 := Int.min_eq_left hle
      clear hE
      gi_wp2
      gi_region
      gi_wp2
      refine hR.mono ?_
      have HY := Lib.hid hy; clear hy
      rintro e W3 (⟨rfl, hJ3, hk3⟩ | ⟨rfl, hJx3⟩)
      · have hcs3 : W3.cell? ⟨Bs, 0, none⟩ = _ := hk3.1.trans hcs'
        have hcn3 : W3.cell? ⟨Bn, 0, none⟩ = _ := hk3.2.trans hcn'
        gi_wp2
        go_roundw
        case rel => exact ⟨k + 1, p + 2, hkn, by rw [Hid, hp.out, Nat.succ_mul], by go_num, by omega, by rw [List.range_succ]; exact hJ3, hB.trans hk3⟩
        case measure => simp [intOf]; omega
      · gi_wp2
        refine bodyPost_ret (results_none rfl _ _ _) rfl ?_
        exact ⟨⟨_, rfl⟩, .inr ⟨_, trivial, hJx3⟩⟩
    · have hke : Hid (k = q) := by have := HQ2.out; have := hp.out; rw [Hid]; omega
      have hki : (q2 : Int) ≤ (p : Int) := by omega
      gi_wp2
      go_end0
      exact ⟨⟨_, rfl⟩, .inl ⟨List.range k, by rw [hke.out], hJs⟩⟩
theorem chunkI_stops (n : Nat) (hn : 1 ≤ n) (Bs Bn c b off q : Nat) (A : Option Addr) (hA : 0 < q → A = some ⟨b, off, none⟩) (hq : q ≤ 100000) (hc : 2 * q ≤ c) (hc2 : c ≤ maxLen) (w : World) (hBs : Bs < w.heap.size) (hBn : Bn < w.heap.size)
    (hcs : w.cell? ⟨Bs, 0, none⟩ = some (.slice A (2 * q) c)) (hcn : w.cell? ⟨Bn, 0, none⟩ = some (.int .i64 2)) :
    SeqStopsT (fun _ => False) Fence.wide n Try.prog 73 #[.pointer (some ⟨Bs, 0, none⟩), .pointer (some ⟨Bn, 0, none⟩)] (fun x : PairIx q => chI b off x.1) (KpC Bs Bn) (fun ys => ys.map (·.1) = List.range q) (fun _ => True) q w :=
  fun y J Jx W hW hJ hJx hY h0 => (chunkI_in n hn y Bs Bn c b off q A hA hq hc hc2 (fun xs W => ∃ ys : List (PairIx q), ys.map (·.1) = xs ∧ J ys W) (fun xs W => ∃ ys : List (PairIx q), ys.map (·.1) = xs ∧ Jx ys W)
    (fun pre x W h hl hx => by
      obtain ⟨ys, rfl, h2⟩ := h
      obtain ⟨fn, tmps, assign, body, hy, hR⟩ := hY ys ⟨x, hx⟩ W h2 (by simpa using hl)
      refine ⟨fn, tmps, assign, body, hy, hR.mono ?_⟩
      rintro e W3 (⟨h1, h2, h3⟩ | ⟨h1, h2⟩)
      · exact .inl ⟨h1, ⟨_, by simp, h2⟩, h3⟩
      · exact .inr ⟨h1, ⟨_, by simp, h2⟩⟩)
    W ((hW.cell (p := ⟨Bs, 0, none⟩) hBs).trans hcs) ((hW.cell (p := ⟨Bn, 0, none⟩) hBn).trans hcn)
    (fun s W h => by
      obtain ⟨ys, h1, h2⟩ := h
      exact ⟨ys, h1, hJ ys W _ none h2 ⟨rfl, rfl, rfl, Nat.le_refl _, fun _ _ _ => rfl⟩ (fun r e => by cases e)⟩) ⟨[], rfl, h0⟩).mono (by
    rintro e W' ⟨hv, h⟩
    refine ⟨hv, ?_⟩
    rcases h with ⟨xs, rfl, ys, h1, h2⟩ | ⟨pre, _, ys, _, h2⟩
    · exact .inl ⟨ys, h1, h2⟩
    · exact .inr ⟨ys, trivial, h2⟩)
theorem KpC.refl (Bs Bn : Nat) (W : World) : KpC Bs Bn W W := ⟨rfl, rfl⟩
theorem chunkI_any (A : Option Addr) (n c : Nat) (w : World) : Calls Try.prog 44 #[.slice A n c, .int .i64 2] w fun e w' => e = .returned (.func (.func 73) #[] #[.pointer (some ⟨w.heap.size, 0, none⟩), .pointer (some ⟨w.heap.size + 1, 0, none⟩)]) ∧ w' = (w.alloc (.cells #[.slice A n c] 42)).alloc (.cells #[.int .i64 2] 3) := by
  go_enter Try.func44, Try.ntmps44
  go_wp2
  go_ret
  exact ⟨rfl, rfl⟩
theorem RetMsg.put {x : Msg} {r : Int} {w W : World} {e : Ending} {D : Nat} (h : RetMsg x r w e W) (hD : W.heap[D]? = some (.deferred (some []))) (hb : w.heap.size ≤ D) : RetMsg x r w e (W.putObj D (.deferred none)) := by
  obtain ⟨v, rfl, ⟨V, vc, B, bc, rfl, hi, ⟨a1, a2, a3⟩, b1, b2, b3⟩, hB⟩ := h
  have hs : ∀ g, Nw w.heap.size W.heap.size g → Nw w.heap.size (W.putObj D (.deferred none)).heap.size g := fun g hg => ⟨hg.1, Nat.lt_of_lt_of_le hg.2 (grownBy_putObj' W D (.deferred none)).size⟩
  exact ⟨_, rfl, ⟨V, vc, B, bc, rfl, hi, ⟨a1, a2, a3.keep (fun p _ => cell_putObj_dead hD rfl rfl p) hs⟩, b1, b2, b3.keep (fun p _ => cell_putObj_dead hD rfl rfl p) hs⟩, hB.grown (grownBy_putObj' W D (.deferred none)) hB.size (fun k e => by cases e; exact hb)⟩
end Go.Proofs.Ytjehedfdikdfpaa
