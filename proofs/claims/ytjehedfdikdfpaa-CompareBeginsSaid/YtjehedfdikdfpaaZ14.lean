/-
  ref44.Answer: the walk.; The reference's comparisons of ints, bytes and messages: the walks.
-/
import Derived.Test.YtjehedfdikdfpaaZ04
import Derived.Test.YtjehedfdikdfpaaZ05
import Derived.Test.YtjehedfdikdfpaaZ06
import Derived.Test.YtjehedfdikdfpaaZ07
import Derived.Test.YtjehedfdikdfpaaZ13
set_option linter.unusedVariables false
set_option linter.unusedSimpArgs false
set_option linter.unusedSectionVars false
set_option linter.unnecessarySimpa false
namespace Go.Proofs.Ytjehedfdikdfpaa
open Go.RowKit Go.Shelf
attribute [local go_sem] Oper.semAt_some

set_option maxHeartbeats 8000000 in
set_option maxRecDepth 100000 in
theorem refAnswer_any (s lf kind fr tt num val ep : Int) (A V Bd : Option Addr) (c n vn vc bn bc : Nat) (l : List (List Int)) (vals body : List Int) (w : World) (hn : l.length = n) (hvn : vals.length = vn) (hbn : body.length = bn)
    (h1 : SlAt (encSl encU64) w (Bl w.heap.size) A l) (hV : SlAt encInt w (Bl w.heap.size) V vals) (hs : n ≤ 100000) (hc : n ≤ c ∧ c ≤ maxLen) (hvl : vn ≤ 100000) (hvc : vn ≤ vc ∧ vc ≤ maxLen) (hI : I64 s ∧ I64 lf) (hIm : I64 fr ∧ I64 tt ∧ I64 num) :
    Calls Try.prog 22 #[.agg #[.int .i64 s, .int .i64 lf, .slice A n c], .agg #[.int .i64 kind, .int .i64 fr, .int .i64 tt, .int .i64 num, .int .i64 val, .int .i64 ep, .slice V vn vc, .slice Bd bn bc]] w
      (RetMsg (ansV (s, lf, l) (kind, fr, tt, num, val, ep, vals, body)) (ansE (s, lf, l) (kind, fr, tt, num, val, ep, vals, body)) w) := by
  subst hn hvn hbn
  obtain ⟨n0, hn0⟩ : ∃ n0, w.heap.size = n0 := ⟨_, rfl⟩
  obtain ⟨W0, hW0⟩ : ∃ W0, ((w.alloc (.cells #[.int .i64 s, .int .i64 lf, .slice A l.length c] 24)).alloc (.cells #[.int .i64 kind, .int .i64 fr, .int .i64 tt, .int .i64 num, .int .i64 val, .int .i64 ep, .slice V vals.length vc, .slice Bd body.length bc] 45)).alloc (.cells #[.int .i64 0, .int .i64 0, .int .i64 0, .int .i64 0, .int .i64 0, .int .i64 0, .slice none 0 0, .slice none 0 0] 45) = W0 := ⟨_, rfl⟩
  have hB0 : Below n0 w W0 := by rw [← hW0, ← hn0]; exact ext_alloc (ext_alloc (ext_alloc (Below.refl _ _)))
  have hs0 : W0.heap.size = n0 + 3 := by rw [← hW0, ← hn0]; simp
  have hr0 : W0.heap[n0]? = some (.cells #[.int .i64 s, .int .i64 lf, .slice A l.length c] 24 (0, 0)) := by
    rw [← hW0, ← hn0]; exact (Below.heap_alloc _ _ _ (by simp; omega)).trans ((Below.heap_alloc _ _ _ (by simp)).trans (heap_alloc_new _ _))
  have hr1 : W0.heap[n0 + 1]? = some (.cells #[.int .i64 kind, .int .i64 fr, .int .i64 tt, .int .i64 num, .int .i64 val, .int .i64 ep, .slice V vals.length vc, .slice Bd body.length bc] 45 (0, 0)) := by
    rw [← hW0, ← hn0]; exact (Below.heap_alloc _ _ _ (by simp)).trans (heap_new2 _ _ _)
  have hr2 : W0.heap[n0 + 1 + 1]? = some (.cells #[.int .i64 0, .int .i64 0, .int .i64 0, .int .i64 0, .int .i64 0, .int .i64 0, .slice none 0 0, .slice none 0 0] 45 (0, 0)) := by
    rw [← hW0, ← hn0]; exact heap_new3 _ _ _ _
  obtain ⟨n2, hn2⟩ : ∃ n2, W0.heap.size = n2 := ⟨_, rfl⟩
  have hn02 : n0 + 3 ≤ n2 := by omega
  have HT : Hid (∀ W, Below n2 W0 W → W.cell? ⟨n0, 0, none⟩ = some (.int .i64 s) ∧ W.cell? ⟨n0, 1, none⟩ = some (.int .i64 lf) ∧ W.cell? ⟨n0, 2, none⟩ = some (.slice A l.length c)) := fun W hb => by
    obtain ⟨a0, a1, a2, _⟩ := blk3 ((hb.block n0 (by omega)).trans hr0)
    exact ⟨a0, a1, a2⟩
  have HM : Hid (∀ W, Below n2 W0 W → W.heap[n0 + 1]? = some (.cells #[.int .i64 kind, .int .i64 fr, .int .i64 tt, .int .i64 num, .int .i64 val, .int .i64 ep, .slice V vals.length vc, .slice Bd body.length bc] 45 (0, 0))) := fun W hb => (hb.block _ (by omega)).trans hr1
  have HR : Hid (∀ W, Below n2 W0 W → W.heap[n0 + 1 + 1]? = some (.cells #[.int .i64 0, .int .i64 0, .int .i64 0, .int .i64 0, .int .i64 0, .int .i64 0, .slice none 0 0, .slice none 0 0] 45 (0, 0))) := fun W hb => (hb.block _ (by omega)).trans hr2
  have up : ∀ {α : Type} {E : Enc α} {A : Option Addr} {l : List α}, SlAt E w (Bl w.heap.size) A l → ∀ W, Below n2 W0 W → SlAt E W (Bl n0) A l := fun h W hb => by
    rw [hn0] at h
    exact h.blk (fun g hg => (hb.block g (by have : g < n0 := hg; omega)).trans (hB0.block g hg))
  have H1 := Lib.hid (up h1)
  have HV := Lib.hid (up hV)
  obtain ⟨x, hx⟩ : ∃ x, checkT (s, lf, l) = x := ⟨_, rfl⟩
  have HCH := Lib.hid (fun W (hb : Below n2 W0 W) => ref11Check_any s lf A c l.length l x W rfl hx ((H1.out W hb).more (fun g hg => by have := hb.size; have : g < n0 := hg; show g < W.heap.size; omega)) hs hc hI)
  have HX := Lib.hid hx
  have HZ : Hid (∀ q, q ≠ 0 → ansE (s, lf, l) (kind, fr, tt, num, val, ep, vals, body) = q → ansV (s, lf, l) (kind, fr, tt, num, val, ep, vals, body) = zMsg ∧ q = ansE (s, lf, l) (kind, fr, tt, num, val, ep, vals, body)) := fun q h0 h => ⟨by unfold ansV; rw [if_pos (by rw [h]; exact h0)], h.symm⟩
  have HB0 := Lib.hid hB0
  have HN0 := Lib.hid hn0
  have HN2 := Lib.hid hn2
  obtain ⟨p0, p1, p2⟩ := HT.out W0 (Below.refl _ _)
  clear h1 hV hr0 hr1 hr2 hs0 up hx
  go_enter Try.func22, Try.ntmps22
  go_wp2_with fail
  refine (HCH.out W0 (Below.refl _ _)).mono ?_
  rintro e w1 ⟨rfl, hb1⟩
  rw [hn2] at hb1
  clear p0 p1 p2 hW0
  by_cases hx0 : x = 0
  · subst hx0
    obtain ⟨m0, m1, m2, m3, m4, m5, m6, m7, _⟩ := blk8 (HM.out w1 hb1)
    by_cases hk : kind = 13
    · subst hk
      have HE0 : Hid (∀ q, (if vals.length < 2 ∨ vals.length % 2 = 1 then (3 : Int) else if vals.getD 0 0 ≠ s ∨ vals.getD 1 0 ≠ lf then 22 else if num < 0 ∨ (l.length : Int) ≤ num then 2 else if extE (pairsL vals) ((levT (s, lf, l) num).length : Int) ≠ 0 then 3 else 0) = q → ansE (s, lf, l) (13, fr, tt, num, val, ep, vals, body) = q) := fun q h => by
        rw [← h, ansE, if_neg (by rw [HX.out]; simp), if_neg (by simp)]
      by_cases hv2 : vals.length < 2
      · have HE : Hid (ansE (s, lf, l) (13, fr, tt, num, val, ep, vals, body) = 3) := HE0.out 3 (by rw [if_pos (Or.inl hv2)])
        have hv2I : (vals.length : Int) < 2 := by omega
        obtain ⟨z0, z1, z2, z3, z4, z5, z6, z7, zf⟩ := blk8 (HR.out w1 hb1)
        have hrow := Lib.hid (HR.out w1 hb1)
        have hBw := Lib.hid (show Below w.heap.size w w1 by rw [HN0.out]; exact HB0.out.trans (hb1.mono (by omega)))
        go_wp2_with fail
        rw [(HZ.out 3 (by decide) HE.out).1, ← (HZ.out 3 (by decide) HE.out).2]
        have hend := msg_end (w := w) (u0 := .int .i64 0) (u1 := .int .i64 0) (u2 := .int .i64 0) (u3 := .int .i64 0) (u4 := .int .i64 0) (u5 := .int .i64 0) (u6 := .slice none 0 0) (u7 := .slice none 0 0) hrow.out (by have := HN0.out; omega) hBw.out msgVal_zero 3
        obtain ⟨hz, hret⟩ := hend
        change bodyPost _ _ _ _ _ (set8 w1 (n0 + 1 + 1) (.int .i64 0) (.int .i64 0) (.int .i64 0) (.int .i64 0) (.int .i64 0) (.int .i64 0) (.slice none 0 0) (.slice none 0 0))
        generalize set8 w1 (n0 + 1 + 1) (.int .i64 0) (.int .i64 0) (.int .i64 0) (.int .i64 0) (.int .i64 0) (.int .i64 0) (.slice none 0 0) (.slice none 0 0) = W3 at hz hret ⊢
        obtain ⟨z0, z1, z2, z3, z4, z5, z6, z7, _⟩ := blk8 hz
        refine bodyPost_ret (v := .tuple #[.agg #[.int .i64 0, .int .i64 0, .int .i64 0, .int .i64 0, .int .i64 0, .int .i64 0, .slice none 0 0, .slice none 0 0], .int .i64 3]) ?_ rfl hret
        simp [results, Try.results22, Try.f22, go_sem, z0, z1, z2, z3, z4, z5, z6, z7]
      by_cases hvo : vals.length % 2 = 1
      · have HE : Hid (ansE (s, lf, l) (13, fr, tt, num, val, ep, vals, body) = 3) := HE0.out 3 (by rw [if_pos (Or.inr hvo)])
        have hv2I : ¬ (vals.length : Int) < 2 := by omega
        have hvoI : ((vals.length : Int) % 2 == 1) = true := by rw [beq_iff_eq]; omega
        obtain ⟨z0, z1, z2, z3, z4, z5, z6, z7, zf⟩ := blk8 (HR.out w1 hb1)
        have hrow := Lib.hid (HR.out w1 hb1)
        have hBw := Lib.hid (show Below w.heap.size w w1 by rw [HN0.out]; exact HB0.out.trans (hb1.mono (by omega)))
        go_wp2_with fail
        rw [(HZ.out 3 (by decide) HE.out).1, ← (HZ.out 3 (by decide) HE.out).2]
        have hend := msg_end (w := w) (u0 := .int .i64 0) (u1 := .int .i64 0) (u2 := .int .i64 0) (u3 := .int .i64 0) (u4 := .int .i64 0) (u5 := .int .i64 0) (u6 := .slice none 0 0) (u7 := .slice none 0 0) hrow.out (by have := HN0.out; omega) hBw.out msgVal_zero 3
        obtain ⟨hz, hret⟩ := hend
        change bodyPost _ _ _ _ _ (set8 w1 (n0 + 1 + 1) (.int .i64 0) (.int .i64 0) (.int .i64 0) (.int .i64 0) (.int .i64 0) (.int .i64 0) (.slice none 0 0) (.slice none 0 0))
        generalize set8 w1 (n0 + 1 + 1) (.int .i64 0) (.int .i64 0) (.int .i64 0) (.int .i64 0) (.int .i64 0) (.int .i64 0) (.slice none 0 0) (.slice none 0 0) = W3 at hz hret ⊢
        obtain ⟨z0, z1, z2, z3, z4, z5, z6, z7, _⟩ := blk8 hz
        refine bodyPost_ret (v := .tuple #[.agg #[.int .i64 0, .int .i64 0, .int .i64 0, .int .i64 0, .int .i64 0, .int .i64 0, .slice none 0 0, .slice none 0 0], .int .i64 3]) ?_ rfl hret
        simp [results, Try.results22, Try.f22, go_sem, z0, z1, z2, z3, z4, z5, z6, z7]
      have hv2I : ¬ (vals.length : Int) < 2 := by omega
      have hvoI : ((vals.length : Int) % 2 == 1) = false := by rw [beq_eq_false_iff_ne]; omega
      obtain ⟨bV, oV, rfl, hbV, v0, _⟩ := (HV.out w1 hb1).int (k := 0) (by omega)
      obtain ⟨_, _, he, _, v1, _⟩ := (HV.out w1 hb1).int (k := 1) (by omega)
      simp only [Option.some.injEq, Addr.mk.injEq, and_true] at he
      obtain ⟨rfl, rfl⟩ := he
      have hg0 : vals.getD 0 0 = vals[0] := by rw [List.getD_eq_getElem?_getD, List.getElem?_eq_getElem (by omega)]; rfl
      have hg1 : vals.getD 1 0 = vals[1] := by rw [List.getD_eq_getElem?_getD, List.getElem?_eq_getElem (by omega)]; rfl
      obtain ⟨y0, hy0⟩ : ∃ y, vals[0] = y := ⟨_, rfl⟩
      obtain ⟨y1, hy1⟩ : ∃ y, vals[1] = y := ⟨_, rfl⟩
      rw [hy0] at v0 hg0
      rw [hy1] at v1 hg1
      rw [Nat.add_zero] at v0
      have HG := Lib.hid (And.intro hg0 hg1)
      have HE1 : Hid (∀ q, (if y0 ≠ s ∨ y1 ≠ lf then (22 : Int) else if num < 0 ∨ (l.length : Int) ≤ num then 2 else if extE (pairsL vals) ((levT (s, lf, l) num).length : Int) ≠ 0 then 3 else 0) = q → ansE (s, lf, l) (13, fr, tt, num, val, ep, vals, body) = q) := fun q h => by
        refine HE0.out q ?_
        rw [if_neg (by omega), HG.out.1, HG.out.2]; exact h
      clear hg0 hg1 hy0 hy1
      have hl2 : (0 : Int) < vals.length := by omega
      have hl3 : (1 : Int) < vals.length := by omega
      obtain ⟨p0, p1, p2⟩ := HT.out w1 hb1
      by_cases h0 : y0 = s
      · by_cases h1 : y1 = lf
        · subst h0 h1
          go_wp2_with fail
          go_quiet (fail)
          generalize hWq : w1.drewN _ = w2
          have hb2 : Below n2 W0 w2 := hb1.trans (Drew.below (w := w1) ⟨_, hWq.symm⟩ _)
          clear hWq p0 p1 p2 m0 m1 m2 m3 m4 m5 m6 m7 v0 v1
          have HE2 : Hid (∀ q, (if num < 0 ∨ (l.length : Int) ≤ num then (2 : Int) else if extE (pairsL vals) ((levT (y0, y1, l) num).length : Int) ≠ 0 then 3 else 0) = q → ansE (y0, y1, l) (13, fr, tt, num, val, ep, vals, body) = q) := fun q h => by
            refine HE1.out q ?_
            rw [if_neg (by simp)]; exact h
          obtain ⟨m0, m1, m2, m3, m4, m5, m6, m7, _⟩ := blk8 (HM.out w2 hb2)
          obtain ⟨p0, p1, p2⟩ := HT.out w2 hb2
          by_cases g1 : num < 0
          · have HE : Hid (ansE (y0, y1, l) (13, fr, tt, num, val, ep, vals, body) = 2) := HE2.out 2 (by rw [if_pos (Or.inl g1)])
            obtain ⟨z0, z1, z2, z3, z4, z5, z6, z7, zf⟩ := blk8 (HR.out w2 hb2)
            have hrow := Lib.hid (HR.out w2 hb2)
            have hBw := Lib.hid (show Below w.heap.size w w2 by rw [HN0.out]; exact HB0.out.trans (hb2.mono (by omega)))
            go_wp2_with fail
            rw [(HZ.out 2 (by decide) HE.out).1, ← (HZ.out 2 (by decide) HE.out).2]
            have hend := msg_end (w := w) (u0 := .int .i64 0) (u1 := .int .i64 0) (u2 := .int .i64 0) (u3 := .int .i64 0) (u4 := .int .i64 0) (u5 := .int .i64 0) (u6 := .slice none 0 0) (u7 := .slice none 0 0) hrow.out (by have := HN0.out; omega) hBw.out msgVal_zero 2
            obtain ⟨hz, hret⟩ := hend
            change bodyPost _ _ _ _ _ (set8 w2 (n0 + 1 + 1) (.int .i64 0) (.int .i64 0) (.int .i64 0) (.int .i64 0) (.int .i64 0) (.int .i64 0) (.slice none 0 0) (.slice none 0 0))
            generalize set8 w2 (n0 + 1 + 1) (.int .i64 0) (.int .i64 0) (.int .i64 0) (.int .i64 0) (.int .i64 0) (.int .i64 0) (.slice none 0 0) (.slice none 0 0) = W3 at hz hret ⊢
            obtain ⟨z0, z1, z2, z3, z4, z5, z6, z7, _⟩ := blk8 hz
            refine bodyPost_ret (v := .tuple #[.agg #[.int .i64 0, .int .i64 0, .int .i64 0, .int .i64 0, .int .i64 0, .int .i64 0, .slice none 0 0, .slice none 0 0], .int .i64 2]) ?_ rfl hret
            simp [results, Try.results22, Try.f22, go_sem, z0, z1, z2, z3, z4, z5, z6, z7]
          by_cases g2 : (l.length : Int) ≤ num
          · have HE : Hid (ansE (y0, y1, l) (13, fr, tt, num, val, ep, vals, body) = 2) := HE2.out 2 (by rw [if_pos (Or.inr g2)])
            obtain ⟨z0, z1, z2, z3, z4, z5, z6, z7, zf⟩ := blk8 (HR.out w2 hb2)
            have hrow := Lib.hid (HR.out w2 hb2)
            have hBw := Lib.hid (show Below w.heap.size w w2 by rw [HN0.out]; exact HB0.out.trans (hb2.mono (by omega)))
            go_wp2_with fail
            rw [(HZ.out 2 (by decide) HE.out).1, ← (HZ.out 2 (by decide) HE.out).2]
            have hend := msg_end (w := w) (u0 := .int .i64 0) (u1 := .int .i64 0) (u2 := .int .i64 0) (u3 := .int .i64 0) (u4 := .int .i64 0) (u5 := .int .i64 0) (u6 := .slice none 0 0) (u7 := .slice none 0 0) hrow.out (by have := HN0.out; omega) hBw.out msgVal_zero 2
            obtain ⟨hz, hret⟩ := hend
            change bodyPost _ _ _ _ _ (set8 w2 (n0 + 1 + 1) (.int .i64 0) (.int .i64 0) (.int .i64 0) (.int .i64 0) (.int .i64 0) (.int .i64 0) (.slice none 0 0) (.slice none 0 0))
            generalize set8 w2 (n0 + 1 + 1) (.int .i64 0) (.int .i64 0) (.int .i64 0) (.int .i64 0) (.int .i64 0) (.int .i64 0) (.slice none 0 0) (.slice none 0 0) = W3 at hz hret ⊢
            obtain ⟨z0, z1, z2, z3, z4, z5, z6, z7, _⟩ := blk8 hz
            refine bodyPost_ret (v := .tuple #[.agg #[.int .i64 0, .int .i64 0, .int .i64 0, .int .i64 0, .int .i64 0, .int .i64 0, .slice none 0 0, .slice none 0 0], .int .i64 2]) ?_ rfl hret
            simp [results, Try.results22, Try.f22, go_sem, z0, z1, z2, z3, z4, z5, z6, z7]
          obtain ⟨k, rfl⟩ : ∃ k : Nat, num = k := ⟨num.toNat, by omega⟩
          have hk : k < l.length := by omega
          obtain ⟨q, hq⟩ : ∃ q, vals.length - 2 = 2 * q := ⟨(vals.length - 2) / 2, by omega⟩
          obtain ⟨nb, hnb⟩ : ∃ nb, w2.heap.size = nb := ⟨_, rfl⟩
          have hn2b : n2 ≤ nb := by rw [← hnb]; have := hb2.size; omega
          have HPL := Lib.hid (pairsL_eq hq)
          have HQ := Lib.hid hq
          have HNB := Lib.hid hnb
          clear hq hnb
          go_wp2_with fail
          clear m0 m1 m2 m3 m4 m5 m6 m7 p0 p1 p2
          go_loopw [7, 8] (fun v i wr => ∃ (j m : Nat) (B : Option Addr) (ec : Nat) (out : List Ext), j ≤ q ∧ Hid (m = 2 + 2 * j) ∧ i = .int .i64 (m : Int) ∧ v = .slice B out.length ec ∧ Below n2 W0 wr ∧ nb ≤ wr.heap.size ∧ Hid (Below nb w2 wr) ∧ Hid (out = (List.range j).map (pairA vals)) ∧ Hid (OwnX (fun _ => False) encExt wr nb 67 (.slice B out.length ec) out)) (fun _ i _ => vals.length - (intOf i).toNat)
          case atStart => exact ⟨0, 2, none, 0, [], by omega, rfl, rfl, rfl, hb2, by have := HNB.out; omega, Below.refl _ _, rfl, OwnX.nil_⟩
          case round =>
            obtain ⟨wo, rfl⟩ : ∃ wo : World, wo = wr := ⟨_, rfl⟩
            obtain ⟨j, m, B, ec, out, hj, hm, rfl, rfl, hB, hz, hBn, hout, hown⟩ := hrel
            have hol : out.length ≤ 100000 := by rw [hout.out, List.length_map, List.length_range]; have := HQ.out; omega
            by_cases hlt : j < q
            · have hm1 : m + 1 < vals.length := by have := HQ.out; have := hm.out; omega
              obtain ⟨b', o', he, hb', a0, hi0⟩ := (HV.out wo hB).int (k := m) (by omega)
              injection he with he
              injection he with he1 he2
              subst he1 he2
              obtain ⟨b', o', he, _, a1, hi1⟩ := (HV.out wo hB).int (k := m + 1) hm1
              injection he with he
              injection he with he1 he2
              subst he1 he2
              have hpa : pairA vals j = (vals[m]'(by omega), vals[m + 1]) := by
                unfold pairA
                have e1 : 2 + 2 * j = m := hm.out.symm
                have e2 : 3 + 2 * j = m + 1 := by have := hm.out; omega
                rw [e1, e2, List.getD_eq_getElem?_getD, List.getD_eq_getElem?_getD, List.getElem?_eq_getElem (by omega), List.getElem?_eq_getElem hm1]; rfl
              obtain ⟨u0, hu0⟩ : ∃ u, vals[m]'(by omega) = u := ⟨_, rfl⟩
              obtain ⟨u1, hu1⟩ : ∃ u, vals[m + 1] = u := ⟨_, rfl⟩
              rw [hu0] at a0 hi0 hpa
              rw [hu1] at a1 hi1 hpa
              have HPA := Lib.hid hpa
              have hmi : (m : Int) < vals.length := by omega
              have hmi1 : (m : Int) + 1 < vals.length := by omega
              have hm0 : (0 : Int) ≤ m := by omega
              have hm02 : (0 : Int) ≤ (m : Int) + 1 := by omega
              have hmt : ((m : Int) + 1).toNat = m + 1 := by omega
              have hmw : IntKind.i64.wrap ((m : Int) + 1) = (m : Int) + 1 := IntWalk.i64_in _ (by omega)
              have hbV2 : bV < n0 := hbV
              clear hpa hu0 hu1
              have HC : Hid (∀ W : World, (∀ g, g < nb → W.heap[g]? = wo.heap[g]?) → W.cell? ⟨n0 + 1, 6, none⟩ = some (.slice (some ⟨bV, oV, none⟩) vals.length vc) ∧ W.cell? ⟨bV, oV + m, none⟩ = some (.int .i64 u0) ∧ W.cell? ⟨bV, oV + (m + 1), none⟩ = some (.int .i64 u1)) := fun W hb => by
                obtain ⟨_, _, _, _, _, _, q6, _⟩ := blk8 ((hb (n0 + 1) (by omega)).trans (HM.out wo hB))
                exact ⟨q6, (World.cell?_of_block (hb bV (by omega))).trans a0, (World.cell?_of_block (hb bV (by omega))).trans a1⟩
              obtain ⟨m6, _, _⟩ := HC.out wo (fun _ _ => rfl)
              have hlt5 := hown.out.lt
              have hO5 := Lib.hid ((hown.out.below (Below.refl wo.heap.size wo).drew).alloc (.cells #[.int .i64 u0, .int .i64 u1] 67))
              have hO5o := Lib.hid hO5.out.1
              have HRD : Hid (encExt.rd (wo.drew.alloc (.cells #[.int .i64 u0, .int .i64 u1] 67)) (fun b => Nw nb (wo.drew.alloc (.cells #[.int .i64 u0, .int .i64 u1] 67)).heap.size b ∧ ¬ (fun _ => False) b ∧ (Value.slice B out.length ec).ownBlock ≠ some b) [.int .i64 u0, .int .i64 u1] (u0, u1)) := ext_mk (x := (u0, u1)) hi0 hi1
              have HB0x := Lib.hid hB
              have HBn := Lib.hid hBn.out
              have hzd : wo.drew.heap.size = wo.heap.size := rfl
              have hSw : ∀ g, g < nb → wo.drew.heap[g]? = wo.heap[g]? := fun _ _ => rfl
              have hm100 : m ≤ 100000 := by omega
              clear hB a0 a1
              go_upto_region 16 with (fail)
              clear m6
              refine wp_region_U (fun W' => ∀ g, g < nb → W'.heap[g]? = wo.heap[g]?) 16 (by kernel_rfl) ?_
              refine wpAnyU_takeD (i := 0) (v := ?_) rfl rfl (by kernel_rfl) (by kernel_rfl) (by kernel_rfl) (by kernel_rfl) (fun _ _ _ h => h) (by rfl) ?_ hSw ?_
              rotate_left 1
              · intro W9 hW9
                try dsimp only at hW9
                obtain ⟨p3, p4, p5⟩ := HC.out W9 hW9
                go_simp
                try with_reducible rfl
              try simp only [List.setIfInBounds_toArray, List.set_cons_zero, List.set_cons_succ]
              refine wpAnyU_takeD (i := 1) (v := ?_) rfl rfl (by kernel_rfl) (by kernel_rfl) (by kernel_rfl) (by kernel_rfl) (fun _ _ _ h => h) (by rfl) ?_ hSw ?_
              rotate_left 1
              · intro W9 hW9
                try dsimp only at hW9
                obtain ⟨p3, p4, p5⟩ := HC.out W9 hW9
                go_simp
                try with_reducible rfl
              try simp only [List.setIfInBounds_toArray, List.set_cons_zero, List.set_cons_succ]
              refine wpAnyU_takeD (i := 2) (v := ?_) rfl rfl (by kernel_rfl) (by kernel_rfl) (by kernel_rfl) (by kernel_rfl) (fun _ _ _ h => h) (by rfl) ?_ hSw ?_
              rotate_left 1
              · intro W9 hW9
                try dsimp only at hW9
                obtain ⟨p3, p4, p5⟩ := HC.out W9 hW9
                go_simp
                try with_reducible rfl
              try simp only [List.setIfInBounds_toArray, List.set_cons_zero, List.set_cons_succ]
              refine wpAnyU_takeD (i := 3) (v := ?_) rfl rfl (by kernel_rfl) (by kernel_rfl) (by kernel_rfl) (by kernel_rfl) (fun _ _ _ h => h) (by rfl) ?_ hSw ?_
              rotate_left 1
              · intro W9 hW9
                try dsimp only at hW9
                obtain ⟨p3, p4, p5⟩ := HC.out W9 hW9
                go_simp
                try with_reducible rfl
              try simp only [List.setIfInBounds_toArray, List.set_cons_zero, List.set_cons_succ]
              refine wpAnyU_takeD (i := 4) (v := ?_) rfl rfl (by kernel_rfl) (by kernel_rfl) (by kernel_rfl) (by kernel_rfl) (fun _ _ _ h => h) (by rfl) ?_ hSw ?_
              rotate_left 1
              · intro W9 hW9
                try dsimp only at hW9
                obtain ⟨p3, p4, p5⟩ := HC.out W9 hW9
                go_simp
                try with_reducible rfl
              try simp only [List.setIfInBounds_toArray, List.set_cons_zero, List.set_cons_succ]
              refine wpAnyU_takeD (i := 5) (v := ?_) rfl rfl (by kernel_rfl) (by kernel_rfl) (by kernel_rfl) (by kernel_rfl) (fun _ _ _ h => h) (by rfl) ?_ hSw ?_
              rotate_left 1
              · intro W9 hW9
                try dsimp only at hW9
                obtain ⟨p3, p4, p5⟩ := HC.out W9 hW9
                go_simp
                try with_reducible rfl
              try simp only [List.setIfInBounds_toArray, List.set_cons_zero, List.set_cons_succ]
              refine wpAnyU_takeD (i := 6) (v := ?_) rfl rfl (by kernel_rfl) (by kernel_rfl) (by kernel_rfl) (by kernel_rfl) (fun _ _ _ h => h) (by rfl) ?_ hSw ?_
              rotate_left 1
              · intro W9 hW9
                try dsimp only at hW9
                obtain ⟨p3, p4, p5⟩ := HC.out W9 hW9
                go_simp
                try with_reducible rfl
              try simp only [List.setIfInBounds_toArray, List.set_cons_zero, List.set_cons_succ]
              refine wpAnyU_takeD (i := 7) (v := ?_) rfl rfl (by kernel_rfl) (by kernel_rfl) (by kernel_rfl) (by kernel_rfl) (fun _ _ _ h => h) (by rfl) ?_ hSw ?_
              rotate_left 1
              · intro W9 hW9
                try dsimp only at hW9
                obtain ⟨p3, p4, p5⟩ := HC.out W9 hW9
                go_simp
                try with_reducible rfl
              try simp only [List.setIfInBounds_toArray, List.set_cons_zero, List.set_cons_succ]
              obtain ⟨p3, p4, p5⟩ := HC.out _ hSw
              refine wpAnyU_op (i := 8) (by kernel_rfl) rfl rfl (fun K hK => ?_)
              go_simp
              refine hK.out _ _ (fun _ => hSw) ?_
              clear hK K
              try simp only [Act.put, List.setIfInBounds_toArray, List.set_cons_zero, List.set_cons_succ]
              refine wpAnyU_op (i := 9) (by kernel_rfl) rfl rfl (fun K hK => ?_)
              go_simp
              refine hK.out _ _ (fun _ => hSw) ?_
              clear hK K
              try simp only [Act.put, List.setIfInBounds_toArray, List.set_cons_zero, List.set_cons_succ]
              refine wpAnyU_op (i := 10) (by kernel_rfl) rfl rfl (fun K hK => ?_)
              go_simp
              refine hK.out _ _ (fun _ => hSw) ?_
              clear hK K
              try simp only [Act.put, List.setIfInBounds_toArray, List.set_cons_zero, List.set_cons_succ]
              refine wpAnyU_op (i := 11) (by kernel_rfl) rfl rfl (fun K hK => ?_)
              go_simp
              refine hK.out _ _ (fun _ => hSw) ?_
              clear hK K
              try simp only [Act.put, List.setIfInBounds_toArray, List.set_cons_zero, List.set_cons_succ]
              refine wpAnyU_op (i := 12) (by kernel_rfl) rfl rfl (fun K hK => ?_)
              go_simp
              refine hK.out _ _ (fun _ => hSw) ?_
              clear hK K
              try simp only [Act.put, List.setIfInBounds_toArray, List.set_cons_zero, List.set_cons_succ]
              have hSa : ∀ g, g < nb → (wo.drew.alloc (.cells #[.int .i64 u0, .int .i64 u1] 67)).heap[g]? = wo.heap[g]? := fun g hg => (Below.heap_alloc wo.drew _ g (by show g < wo.heap.size; omega))
              refine wpAnyU_op (i := 13) (by kernel_rfl) rfl rfl (fun K hK => ?_)
              go_simp
              refine hK.out _ _ (fun _ => hSa) ?_
              clear hK K
              try simp only [Act.put, List.setIfInBounds_toArray, List.set_cons_zero, List.set_cons_succ]
              refine wpAnyU_one (i := 14) (by kernel_rfl) rfl (fun K hK => ?_)
              refine step_app1 (E := encExt) tyExtsI rfl _ _ rfl rfl hO5o.out (u0, u1) [.int .i64 u0, .int .i64 u1] rfl HRD.out (heap_alloc_new _ _) (fun _ h => h.1.2) (by simp; omega) (by unfold maxLen; omega) (by omega) ?_
              intro A7 c7 w7 hown7 hg7 hat7
              have hO7 := Lib.hid (hO5.out.app hown7 hg7 hat7 (fun g h => h.elim))
              have hB7 : Hid (Below n2 W0 w7) := ((HB0x.out.trans ((Below.refl wo.heap.size wo).drew.mono (by omega))).alloc (by omega) (.cells #[.int .i64 u0, .int .i64 u1] 67)).grown hg7 (by simp; omega) (fun g h => by have := (hlt5 g h).1; omega)
              have hBn7 : Hid (Below nb w2 w7) := ((HBn.out.trans ((Below.refl wo.heap.size wo).drew.mono (by omega))).alloc (by omega) (.cells #[.int .i64 u0, .int .i64 u1] 67)).grown hg7 (by simp; omega) (fun g h => (hlt5 g h).1)
              have hz7 : nb ≤ w7.heap.size := by have := hg7.size; simp at this; omega
              have hS7 : ∀ g, g < nb → w7.heap[g]? = wo.heap[g]? := fun g hg => (hg7.block g (by simp; omega) (fun e => by have := (hlt5 g e.symm).1; omega)).trans (hSa g hg)
              refine hK.out _ _ (fun _ => hS7) ?_
              clear hK K hown7 hg7 hat7 hlt5 p3 p4 p5
              try simp only [Act.put, List.setIfInBounds_toArray, List.set_cons_zero, List.set_cons_succ]
              refine wpAnyU_op (i := 15) (by kernel_rfl) rfl rfl (fun K hK => ?_)
              go_simp
              refine hK.out _ _ (fun _ => hS7) ?_
              clear hK K
              try simp only [Act.put, List.setIfInBounds_toArray, List.set_cons_zero, List.set_cons_succ]
              refine wpAnyU_done (by kernel_rfl) ?_ _
              clear hSa hSw hS7
              go_wp2_with fail
              go_roundw
              case rel =>
                refine ⟨j + 1, m + 2, A7, c7, out ++ [(u0, u1)], hlt, by rw [Hid, hm.out]; omega, by go_num, by simp, hB7.out, hz7, hBn7.out, by rw [Hid, List.range_succ, List.map_append, List.map_singleton, HPA.out, hout.out], ?_⟩
                have := hO7.out; simpa [Hid] using this
              case measure => simp [intOf]; omega
            · have hjq : j = q := by omega
              subst hjq
              have hml : ¬ (m : Int) < vals.length := by have := HQ.out; have := hm.out; omega
              have hE : Hid (out = pairsL vals) := by rw [Hid, hout.out, HPL.out]
              have HSL := Lib.hid (fun W (hb : Below n2 W0 W) => (H1.out W hb).sl hk)
              obtain ⟨b2, off2, D, dc, rfl, hb2', g0, hD, hd1, hd2⟩ := HSL.out wo hB
              have hlev : Hid (levT (y0, y1, l) (k : Int) = l[k]) := levT_at hk
              obtain ⟨row, hrow⟩ : ∃ row, l[k] = row := ⟨_, rfl⟩
              rw [hrow] at g0 hD hd1 hlev
              obtain ⟨r2, hr2⟩ : ∃ r2, extE out (row.length : Int) = r2 := ⟨_, rfl⟩
              have HE3 : Hid (∀ q, (if r2 ≠ 0 then (3 : Int) else 0) = q → ansE (y0, y1, l) (13, fr, tt, (k : Int), val, ep, vals, body) = q) := fun q h => by
                refine HE2.out q ?_
                rw [if_neg (by omega), hlev.out, ← hE.out, hr2]; exact h
              obtain ⟨_, o1, o2, o3⟩ := hown.out.parts
              have HES := Lib.hid o3
              have HCK := Lib.hid (ref01Check_any B ec out.length out (row.length : Int) r2 wo rfl hr2 (o3.more (fun g hg => hg.1.2)) (by omega))
              have hki : (k : Int) < l.length := by omega
              have hk0 : (0 : Int) ≤ k := by omega
              have HDR : Hid (∀ W, (∀ g, g < n0 → W.heap[g]? = wo.heap[g]?) → SlAt encU64 W (Bl n0) D row ∧ W.cell? ⟨b2, off2 + k, none⟩ = some (.slice D row.length dc)) := fun W hb => ⟨hD.blk (fun g hg => hb g hg), (World.cell?_of_block (hb b2 hb2')).trans g0⟩
              obtain ⟨m0, m1, m2, m3, m4, m5, m6, m7, _⟩ := blk8 (HM.out wo hB)
              obtain ⟨p0, p1, p2⟩ := HT.out wo hB
              have HB1 := Lib.hid hB
              have HR2 := Lib.hid hr2
              clear hD o3 hrow hB hown hr2
              go_wp2_with fail
              refine HCK.out.mono ?_
              rintro e w3 ⟨rfl, hb3⟩
              have hb03 : Below n2 W0 w3 := HB1.out.trans (hb3.mono (by omega))
              clear m0 m1 m2 m3 m4 m5 m6 m7 p0 p1 p2 g0
              by_cases h20 : r2 = 0
              · subst h20
                have HE0z : Hid (ansE (y0, y1, l) (13, fr, tt, (k : Int), val, ep, vals, body) = 0) := HE3.out 0 (by rw [if_neg (by simp)])
                have hAV : Hid (ansV (y0, y1, l) (13, fr, tt, (k : Int), val, ep, vals, body) = (14, tt, fr, (k : Int), 0, 0, vals, bodyOf row (numsL out))) := by
                  rw [Hid, ansV, if_neg (by rw [HE0z.out]; simp)]
                  simp only
                  rw [← hE.out, hlev.out]
                obtain ⟨hcan, _, hrl4⟩ : (∀ e ∈ out, 0 ≤ e.1 ∧ 0 < e.2 ∧ e.1 + e.2 ≤ 4096) ∧ True ∧ (row.length : Int) ≤ 4096 := by
                  have h := HR2.out
                  unfold extE at h
                  split at h
                  · omega
                  · refine ⟨fun e he => ?_, trivial, by omega⟩
                    have := (exE_mem h).1 e he
                    omega
                have hnc := nums_canon HR2.out
                have hmn := mem_nums HR2.out
                obtain ⟨ob, hob⟩ : ∃ ob, w3.heap.size = ob := ⟨_, rfl⟩
                obtain ⟨W4, hW4⟩ : ∃ W4, w3.alloc (.cells #[.int .i64 14, .int .i64 tt, .int .i64 fr, .int .i64 (k : Int), .int .i64 0, .int .i64 0, .slice none 0 0, .slice none 0 0] 45) = W4 := ⟨_, rfl⟩
                have hz4 : W4.heap.size = ob + 1 := by rw [← hW4, ← hob]; simp
                have hb4 : Below ob w3 W4 := by rw [← hW4, ← hob]; exact ext_alloc (Below.refl _ _)
                have hr4 : W4.heap[ob]? = some (.cells #[.int .i64 14, .int .i64 tt, .int .i64 fr, .int .i64 (k : Int), .int .i64 0, .int .i64 0, .slice none 0 0, .slice none 0 0] 45 (0, 0)) := by rw [← hW4, ← hob]; exact heap_alloc_new _ _
                have hszo := hb3.size
                have hnbo : nb ≤ ob := by omega
                have hb04 : Below n2 W0 W4 := hb03.trans (hb4.mono (by omega))
                have HW4 := Lib.hid hW4
                obtain ⟨m0, m1, m2, m3, m4, m5, m6, m7, _⟩ := blk8 (HM.out w3 hb03)
                have hrow3 := Lib.hid (HM.out W4 hb04)
                have HCN := Lib.hid hcan
                have HNC := Lib.hid hnc
                have HMN := Lib.hid hmn
                have HR4 := Lib.hid hr4
                have HRL := Lib.hid hrl4
                clear hW4 hcan hnc hmn hr4 hrl4
                go_upto_region 20 with (fail)
                rw [HW4.out]
                clear m0 m1 m2 m3 m4 m5 m6 m7
                obtain ⟨_, _, _, _, _, _, m6, _⟩ := blk8 hrow3.out
                obtain ⟨z0, z1, z2, z3, z4, z5, z6, z7, _⟩ := blk8 HR4.out
                have hsv := Lib.hid (HV.out W4 hb04)
                go_wp2_with (at_builtin; refine Hid.out ?_)
                change wpList _ _ _ _ _ _
                refine wpList_appAll (E := encInt) tyInts44 rfl _ _ rfl rfl (Own.nil_ (E := encInt) (w := W4) (base := ob + 1) (e := 3) (S := Bl n0)) rfl rfl hsv.out (fun g hg => by have : g < n0 := hg; omega) (by omega) (by unfold maxLen; simp; omega) (by simp; omega) ?_
                intro A5 c5 w5 hown5 hg5 _
                have hfl := Own.flatI hown5 (Nat.le_refl _)
                have hS5 : Hid (SlAt encInt w5 (Nw (ob + 1) w5.heap.size) A5 vals) := by
                  have h := Own.sl_ hfl
                  rw [List.nil_append] at h
                  exact h
                obtain ⟨hl5, hm5⟩ : vals.length ≤ c5 ∧ c5 ≤ maxLen := by
                  obtain ⟨A', c', he, h1, h2, _⟩ := hfl.rd (fun _ h => h.elim)
                  simp only [List.cons.injEq, Value.slice.injEq, and_true] at he
                  obtain ⟨_, _, rfl⟩ := he
                  simp at h1
                  exact ⟨h1, h2⟩
                have hb5 : Below (ob + 1) W4 w5 := by
                  have h := (Below.refl (ob + 1) W4).grown hg5 (by omega) (fun g h => by cases h)
                  exact h
                have hz5 := hb5.size
                have hr5 := (hb5.block ob (by omega)).trans HR4.out
                clear hown5 hg5 hfl
                obtain ⟨z0, z1, z2, z3, z4, z5, z6, z7, zf⟩ := blk8 hr5
                obtain ⟨W6, hW6⟩ : ∃ W6, w5.setCell ⟨ob, 6, none⟩ (.slice A5 vals.length c5) = W6 := ⟨_, rfl⟩
                have hr6 : W6.heap[ob]? = some (.cells #[.int .i64 14, .int .i64 tt, .int .i64 fr, .int .i64 (k : Int), .int .i64 0, .int .i64 0, .slice A5 vals.length c5, .slice none 0 0] 45 (0, 0)) := by
                  rw [← hW6]; simp [World.setCell, Array.getElem?_modify, hr5]
                have ho6 : ∀ g, g ≠ ob → W6.heap[g]? = w5.heap[g]? := fun g hg => by rw [← hW6]; exact heap_setCell_other _ ⟨ob, 6, none⟩ g _ hg
                have hz6 : W6.heap.size = w5.heap.size := by rw [← hW6]; simp [World.setCell]
                have hb06 : Below n2 W0 W6 := by
                  rw [← hW6]
                  exact (hb04.trans (hb5.mono (by omega))).setCell (p := ⟨ob, 6, none⟩) (by show n2 ≤ ob; omega) _
                have hb36 : Below ob w3 W6 := by
                  rw [← hW6]
                  exact (hb4.trans (hb5.mono (by omega))).setCell (p := ⟨ob, 6, none⟩) (Nat.le_refl _) _
                have HES6 := Lib.hid ((HES.out.blk (fun g hg => (hb36.block g (by have := hg.1.2; omega)).trans (hb3.block g hg.1.2))).more (S' := Bl W6.heap.size) (fun g hg => by have := hg.1.2; have := hb36.size; show g < W6.heap.size; omega))
                have HND := Lib.hid (refNodes_any B ec out.length out W6 rfl HES6.out hol HCN.out (by have := HNC.out; omega))
                have HS6 := Lib.hid (hS5.out.blk (w' := W6) (fun g hg => ho6 g (by have := hg.1; omega)))
                have hobW : ob + 1 ≤ W6.heap.size := by omega
                have HW6 := Lib.hid hW6
                clear hW6 hz4
                go_wp2_with fail
                rw [HW6.out]
                refine HND.out.mono ?_
                rintro e w7 ⟨N, nc, rfl, hnn1, hnn2, hN, hb7⟩
                obtain ⟨ns, hns⟩ : ∃ ns, numsL out = ns := ⟨_, rfl⟩
                rw [hns, toI_len] at hnn1
                rw [hns] at hN hAV HNC HMN
                rw [hns, toI_len]
                have hb07 : Below n2 W0 w7 := hb06.trans (hb7.mono (by have := hb06.size; omega))
                have hr7 : w7.heap[ob]? = _ := (hb7.block ob (by omega)).trans hr6
                obtain ⟨nB, hnB⟩ : ∃ nB, w7.heap.size = nB := ⟨_, rfl⟩
                have hz7 := hb7.size
                have hobB : ob + 1 ≤ nB := by omega
                have HNS : Hid (∀ W : World, (∀ g, g < nB → g ≠ ob → W.heap[g]? = w7.heap[g]?) → SlAt encInt W (fun g => g < nB) N (toI ns)) := fun W hb => (hN.blk (fun g hg => hb g (by have := hg.2; omega) (by have := hg.1; omega))).more (fun g hg => by have := hg.2; omega)
                have HS7 : Hid (∀ W : World, (∀ g, g < nB → g ≠ ob → W.heap[g]? = w7.heap[g]?) → SlAt encInt W (Nw (ob + 1) nB) A5 vals) := fun W hb => (HS6.out.blk (fun g hg => (hb g (by have := hg.2; omega) (by have := hg.1; omega)).trans (hb7.block g (by have := hg.2; omega)))).more (fun g hg => ⟨hg.1, by have := hg.2; omega⟩)
                have HLOW : Hid (∀ W : World, (∀ g, g < nB → g ≠ ob → W.heap[g]? = w7.heap[g]?) → (∀ g, g < n0 → W.heap[g]? = wo.heap[g]?) ∧ W.heap[n0]? = W0.heap[n0]? ∧ W.heap[n0 + 1]? = W0.heap[n0 + 1]? ∧ W.heap[n0 + 1 + 1]? = W0.heap[n0 + 1 + 1]?) := fun W hb => by
                  have e7 : ∀ g, g < n2 → W.heap[g]? = W0.heap[g]? := fun g hg => (hb g (by omega) (by omega)).trans (hb07.block g hg)
                  exact ⟨fun g hg => (e7 g (by omega)).trans (HB1.out.block g (by omega)).symm, e7 n0 (by omega), e7 (n0 + 1) (by omega), e7 (n0 + 1 + 1) (by omega)⟩
                have HT0 := Lib.hid (HT.out W0 (Below.refl _ _))
                have HM0 := Lib.hid (HM.out W0 (Below.refl _ _))
                have HRR0 := Lib.hid (HR.out W0 (Below.refl _ _))
                have hnsl : ns.length ≤ 4096 := HNC.out
                have HB07 := Lib.hid hb07
                have HR7 := Lib.hid hr7
                have HNB := Lib.hid hnB
                clear hN hr7 hr6 hr5 hb7 hb07 hb06 hb36 hb5 hb4 hb03 hb3 ho6 z0 z1 z2 z3 z4 z5 z6 z7 zf m6 hz6 hz5 hnB hns
                go_wp2_with fail
                go_loopw [11] (fun i wr => ∃ (j : Nat) (B : Option Addr) (bc : Nat) (bs : List Int), j ≤ ns.length ∧ i = .int .i64 j ∧ Hid (wr.heap[ob]? = some (.cells #[.int .i64 14, .int .i64 tt, .int .i64 fr, .int .i64 (k : Int), .int .i64 0, .int .i64 0, .slice A5 vals.length c5, .slice B bs.length bc] 45 (0, 0))) ∧ Hid (∀ g, g < nB → g ≠ ob → wr.heap[g]? = w7.heap[g]?) ∧ nB ≤ wr.heap.size ∧ Hid (Below n2 W0 wr) ∧ Hid (bs = bodyOf row (ns.take j)) ∧ Hid (OwnX (fun _ => False) encU8 wr nB 5 (.slice B bs.length bc) bs)) (fun i _ => ns.length - (intOf i).toNat)
                case atStart => exact ⟨0, none, 0, [], by omega, rfl, HR7.out, fun _ _ _ => rfl, by have := HNB.out; omega, HB07.out, by simp [Hid, bodyOf], OwnX.nil_⟩
                case round =>
                  obtain ⟨wr', rfl⟩ : ∃ wr' : World, wr' = wr := ⟨_, rfl⟩
                  obtain ⟨i, Bb, bbc, bs, hi, rfl, hrob, hkeep, hzr, hBr, hbs, hownb⟩ := hrel
                  by_cases hlt : i < ns.length
                  · have hii : (i : Int) < ns.length := by omega
                    have hi0 : (0 : Int) ≤ i := by omega
                    have hlt' : i < (toI ns).length := by rw [toI_len]; exact hlt
                    obtain ⟨bN, oN, rfl, hbN, gN, _⟩ := (HNS.out wr' hkeep.out).int hlt'
                    rw [toI_at hlt] at gN
                    have hxr := HMN.out ns[i] (List.getElem_mem hlt)
                    have hst : bodyOf row (ns.take (i + 1)) = bodyOf row (ns.take i) ++ le8 (row.getD ns[i] 0) := by rw [List.take_succ_eq_append_getElem hlt, bodyOf_snoc]
                    obtain ⟨x, hx⟩ : ∃ x, ns[i] = x := ⟨_, rfl⟩
                    rw [hx] at gN hxr hst
                    obtain ⟨hlw, hlw0, hlw1, hlw2⟩ := HLOW.out wr' hkeep.out
                    obtain ⟨hDr, g0⟩ := HDR.out wr' hlw
                    have hxl : x < row.length := by omega
                    obtain ⟨bD, oD, rfl, hbD, gD, d0, d1⟩ := hDr.u64 hxl
                    have hgd : row.getD x 0 = row[x] := by rw [List.getD_eq_getElem?_getD, List.getElem?_eq_getElem hxl]; rfl
                    rw [hgd] at hst
                    obtain ⟨d, hd⟩ : ∃ d, row[x] = d := ⟨_, rfl⟩
                    rw [hd] at gD d0 d1 hst
                    have HST := Lib.hid hst
                    have hx0 : (0 : Int) ≤ x := by omega
                    obtain ⟨_, _, p2⟩ : wr'.cell? ⟨n0, 0, none⟩ = some (.int .i64 y0) ∧ wr'.cell? ⟨n0, 1, none⟩ = some (.int .i64 y1) ∧ wr'.cell? ⟨n0, 2, none⟩ = some (.slice (some ⟨b2, off2, none⟩) l.length c) := by
                      obtain ⟨a0, a1, a2⟩ := HT0.out
                      exact ⟨(World.cell?_of_block hlw0).trans a0, (World.cell?_of_block hlw0).trans a1, (World.cell?_of_block hlw0).trans a2⟩
                    obtain ⟨_, _, _, m3, _⟩ := blk8 (hlw1.trans HM0.out)
                    have hbl0 : bs.length ≤ 32768 := by
                      have h := bodyOf_len row (ns.take i)
                      rw [← hbs.out, List.length_take] at h
                      omega
                    clear hx hgd hd hst hlw hDr
                    go_wp2_with fail
                    go_quiet (fail)
                    generalize hWq : wr'.drewN _ = wq
                    have hdq : Drew wr' wq := ⟨_, hWq.symm⟩
                    have hq8 : Hid (∀ g : Nat, wq.heap[g]? = wr'.heap[g]?) := fun g => by rw [hdq.heap]
                    have hqs : wq.heap.size = wr'.heap.size := by rw [hdq.heap]
                    have hqb : Below n2 W0 wq := hBr.out.trans (hdq.below _)
                    have hqo : Hid (OwnX (fun _ => False) encU8 wq nB 5 (.slice Bb bs.length bbc) bs) := hownb.out.below (hdq.below _)
                    clear hWq gN g0 gD p2 m3 hlw0 hlw1 hlw2 hdq
                    go_wp2_with fail
                    go_loopw [13] (fun v wr => ∃ (k' : Nat) (B : Option Addr) (bc : Nat) (bs' : List Int), k' ≤ 8 ∧ v = .int .i64 k' ∧ Hid (wr.heap[ob]? = some (.cells #[.int .i64 14, .int .i64 tt, .int .i64 fr, .int .i64 (k : Int), .int .i64 0, .int .i64 0, .slice A5 vals.length c5, .slice B bs'.length bc] 45 (0, 0))) ∧ Hid (∀ g, g < nB → g ≠ ob → wr.heap[g]? = w7.heap[g]?) ∧ nB ≤ wr.heap.size ∧ Hid (Below n2 W0 wr) ∧ Hid (bs' = bs ++ (List.range k').map (byteOf d)) ∧ Hid (OwnX (fun _ => False) encU8 wr nB 5 (.slice B bs'.length bc) bs')) (fun v _ => 8 - (intOf v).toNat)
                    case atStart => exact ⟨0, Bb, bbc, bs, by omega, rfl, (hq8.out ob).trans hrob.out, fun g h1 h2 => (hq8.out g).trans (hkeep.out g h1 h2), by omega, hqb, by simp [Hid], hqo.out⟩
                    case round =>
                      clear hqb hqo hqs hq8 hrob hkeep hBr hownb hzr
                      obtain ⟨wr', rfl⟩ : ∃ wr' : World, wr' = wr := ⟨_, rfl⟩
                      obtain ⟨k', Bb, bbc, bs', hk', rfl, hrob, hkeep, hzr, hBr, hbs', hownb⟩ := hrel
                      by_cases hlt8 : k' < 8
                      · have hbl1 : bs'.length ≤ 40000 := by rw [hbs'.out, List.length_append, List.length_map, List.length_range]; omega
                        have hk8 : (k' : Int) < 8 := by omega
                        have hk80 : (0 : Int) ≤ k' := by omega
                        have hk81 : (0 : Int) ≤ 8 * (k' : Int) := by omega
                        have hw8 : IntKind.i64.wrap (8 * (k' : Int)) = 8 * (k' : Int) := IntWalk.i64_in _ (by omega)
                        have ht8 : (8 * (k' : Int)).toNat = 8 * k' := by omega
                        obtain ⟨y, hy⟩ : ∃ y, d / 2 ^ (8 * k') % 256 = y := ⟨_, rfl⟩
                        have hyr := byteOf_range d k'
                        have hwr : IntKind.u8.wrap (d / 2 ^ (8 * k')) = y := by rw [IntKind.wrap_u8]; exact hy
                        have hst : bs' ++ [y] = bs ++ (List.range (k' + 1)).map (byteOf d) := by rw [bytes_succ, ← List.append_assoc, ← hbs'.out, ← hy]; rfl
                        have hyr' : 0 ≤ y ∧ y < 256 := by rw [← hy]; exact hyr
                        have HST8 := Lib.hid hst
                        have hlt5 := hownb.out.lt
                        have hO5 := Lib.hid ((hownb.out.below (Below.refl wr'.heap.size wr').drew).alloc (.cells #[.int .u8 y] 5))
                        have hO5o := Lib.hid hO5.out.1
                        have HRD : Hid (encU8.rd (wr'.drew.alloc (.cells #[.int .u8 y] 5)) (fun b => Nw nB (wr'.drew.alloc (.cells #[.int .u8 y] 5)).heap.size b ∧ ¬ (fun _ => False) b ∧ (Value.slice Bb bs'.length bbc).ownBlock ≠ some b) [.int .u8 y] y) := ⟨rfl, hyr'⟩
                        have hzd : wr'.drew.heap.size = wr'.heap.size := rfl
                        have HC : Hid (∀ W : World, (∀ g, g < nB → W.heap[g]? = wr'.heap[g]?) → W.cell? ⟨ob, 7, none⟩ = some (.slice Bb bs'.length bbc) ∧ W.frozen? ⟨ob, 7, none⟩ = false) := fun W hb => by
                          obtain ⟨_, _, _, _, _, _, _, q7, qf⟩ := blk8 ((hb ob (by omega)).trans hrob.out)
                          exact ⟨q7, qf 7⟩
                        have hSw : ∀ g, g < nB → wr'.drew.heap[g]? = wr'.heap[g]? := fun _ _ => rfl
                        have hSa : ∀ g, g < nB → (wr'.drew.alloc (.cells #[.int .u8 y] 5)).heap[g]? = wr'.heap[g]? := fun g hg => (Below.heap_alloc wr'.drew _ g (by show g < wr'.heap.size; omega))
                        clear hst hyr
                        go_upto_region 29 with (fail)
                        refine wp_region_U (fun W' => ∀ g, g < nB → W'.heap[g]? = wr'.heap[g]?) 10 (by kernel_rfl) ?_
                        refine wpAnyU_takeD (i := 0) (v := ?_) rfl rfl (by kernel_rfl) (by kernel_rfl) (by kernel_rfl) (by kernel_rfl) (fun _ _ _ h => h) (by rfl) ?_ hSw ?_
                        rotate_left 1
                        · intro W9 hW9
                          try dsimp only at hW9
                          obtain ⟨p3, p4⟩ := HC.out W9 hW9
                          go_simp
                          try with_reducible rfl
                        try simp only [List.setIfInBounds_toArray, List.set_cons_zero, List.set_cons_succ]
                        refine wpAnyU_takeD (i := 1) (v := ?_) rfl rfl (by kernel_rfl) (by kernel_rfl) (by kernel_rfl) (by kernel_rfl) (fun _ _ _ h => h) (by rfl) ?_ hSw ?_
                        rotate_left 1
                        · intro W9 hW9
                          try dsimp only at hW9
                          obtain ⟨p3, p4⟩ := HC.out W9 hW9
                          go_simp
                          try with_reducible rfl
                        try simp only [List.setIfInBounds_toArray, List.set_cons_zero, List.set_cons_succ]
                        refine wpAnyU_takeD (i := 2) (v := ?_) rfl rfl (by kernel_rfl) (by kernel_rfl) (by kernel_rfl) (by kernel_rfl) (fun _ _ _ h => h) (by rfl) ?_ hSw ?_
                        rotate_left 1
                        · intro W9 hW9
                          try dsimp only at hW9
                          obtain ⟨p3, p4⟩ := HC.out W9 hW9
                          go_simp
                          try with_reducible rfl
                        try simp only [List.setIfInBounds_toArray, List.set_cons_zero, List.set_cons_succ]
                        refine wpAnyU_op (i := 3) (by kernel_rfl) rfl rfl (fun K hK => ?_)
                        go_simp
                        refine hK.out _ _ (fun _ => hSw) ?_
                        clear hK K
                        try simp only [Act.put, List.setIfInBounds_toArray, List.set_cons_zero, List.set_cons_succ]
                        refine wpAnyU_op (i := 4) (by kernel_rfl) rfl rfl (fun K hK => ?_)
                        go_simp
                        refine hK.out _ _ (fun _ => hSw) ?_
                        clear hK K
                        try simp only [Act.put, List.setIfInBounds_toArray, List.set_cons_zero, List.set_cons_succ]
                        refine wpAnyU_op (i := 5) (by kernel_rfl) rfl rfl (fun K hK => ?_)
                        go_simp
                        refine hK.out _ _ (fun _ => hSw) ?_
                        clear hK K
                        try simp only [Act.put, List.setIfInBounds_toArray, List.set_cons_zero, List.set_cons_succ]
                        refine wpAnyU_op (i := 6) (by kernel_rfl) rfl rfl (fun K hK => ?_)
                        go_simp
                        refine hK.out _ _ (fun _ => hSw) ?_
                        clear hK K
                        try simp only [Act.put, List.setIfInBounds_toArray, List.set_cons_zero, List.set_cons_succ]
                        try rw [hwr]
                        refine wpAnyU_op (i := 7) (by kernel_rfl) rfl rfl (fun K hK => ?_)
                        go_simp
                        refine hK.out _ _ (fun _ => hSa) ?_
                        clear hK K
                        try simp only [Act.put, List.setIfInBounds_toArray, List.set_cons_zero, List.set_cons_succ]
                        refine wpAnyU_one (i := 8) (by kernel_rfl) rfl (fun K hK => ?_)
                        refine step_app1 (E := encU8) tyU8s rfl _ _ rfl rfl hO5o.out y [.int .u8 y] rfl HRD.out (heap_alloc_new _ _) (fun _ h => h.1.2) (by simp; omega) (by unfold maxLen; omega) (by omega) ?_
                        intro A8 c8 w8 hown8 hg8 hat8
                        have hO8 := Lib.hid (hO5.out.app hown8 hg8 hat8 (fun g h => h.elim))
                        have hS8 : ∀ g, g < nB → w8.heap[g]? = wr'.heap[g]? := fun g hg => (hg8.block g (by simp; omega) (fun e => by have := (hlt5 g e.symm).1; omega)).trans (hSa g hg)
                        have hB8 : Below n2 W0 w8 := (((hBr.out.trans ((Below.refl wr'.heap.size wr').drew.mono (by have := hBr.out.size; omega))).alloc (by have := hBr.out.size; show n2 ≤ wr'.heap.size; omega) (.cells #[.int .u8 y] 5)).grown hg8 (by have := hBr.out.size; simp; omega) (fun g h => by have := (hlt5 g h).1; omega))
                        have hz8 : nB ≤ w8.heap.size := by have := hg8.size; simp at this; omega
                        refine hK.out _ _ (fun _ => hS8) ?_
                        clear hK K hown8 hg8 hat8 hlt5
                        try simp only [Act.put, List.setIfInBounds_toArray, List.set_cons_zero, List.set_cons_succ]
                        obtain ⟨p3, p4⟩ := HC.out _ hS8
                        refine wpAnyU_op (i := 9) (by kernel_rfl) rfl rfl (fun K hK => ?_)
                        go_simp
                        refine hK.out _ _ (fun _ => hS8) ?_
                        clear hK K
                        try simp only [Act.put, List.setIfInBounds_toArray, List.set_cons_zero, List.set_cons_succ]
                        refine wpAnyU_one (i := 10) (by kernel_rfl) rfl (fun K hK => ?_)
                        go_simp
                        refine hK.out _ _ (fun h => absurd rfl h) ?_
                        clear hK K
                        refine wpAnyU_done (by kernel_rfl) ?_ _
                        have hrr := (hS8 ob (by omega)).trans hrob.out
                        have hr9 : Hid ((w8.setCell ⟨ob, 7, none⟩ (.slice A8 (bs'.length + 1) c8)).heap[ob]? = some (.cells #[.int .i64 14, .int .i64 tt, .int .i64 fr, .int .i64 (k : Int), .int .i64 0, .int .i64 0, .slice A5 vals.length c5, .slice A8 (bs'.length + 1) c8] 45 (0, 0))) := by
                          rw [Hid]; simp [World.setCell, Array.getElem?_modify, hrr]
                        have hk9 : Hid (∀ g, g < nB → g ≠ ob → (w8.setCell ⟨ob, 7, none⟩ (.slice A8 (bs'.length + 1) c8)).heap[g]? = w7.heap[g]?) := fun g h1 h2 => (heap_setCell_other _ ⟨ob, 7, none⟩ g _ h2).trans ((hS8 g h1).trans (hkeep.out g h1 h2))
                        have hb9 : Hid (Below n2 W0 (w8.setCell ⟨ob, 7, none⟩ (.slice A8 (bs'.length + 1) c8))) := hB8.setCell (p := ⟨ob, 7, none⟩) (by show n2 ≤ ob; omega) _
                        have hz9 : nB ≤ (w8.setCell ⟨ob, 7, none⟩ (.slice A8 (bs'.length + 1) c8)).heap.size := by simpa [World.setCell] using hz8
                        have hO9 : Hid (OwnX (fun _ => False) encU8 (w8.setCell ⟨ob, 7, none⟩ (.slice A8 (bs'.length + 1) c8)) nB 5 (.slice A8 (bs'.length + 1) c8) (bs' ++ [y])) := by
                          refine hO8.out.keep (by simp [World.setCell]) (fun g hg _ _ => heap_setCell_other w8 ⟨ob, 7, none⟩ g _ (by show g ≠ ob; omega))
                        clear hS8 hB8 hz8 hrr p3 p4 hSw hSa
                        generalize w8.setCell ⟨ob, 7, none⟩ (.slice A8 (bs'.length + 1) c8) = w9 at hr9 hk9 hb9 hz9 hO9 ⊢
                        have hl9 : (bs' ++ [y]).length = bs'.length + 1 := by simp
                        have HL9 := Lib.hid hl9
                        clear hl9
                        go_wp2_with fail
                        go_roundw
                        case rel => exact ⟨k' + 1, A8, c8, bs' ++ [y], by omega, by go_num, by rw [HL9.out]; exact hr9.out, hk9.out, hz9, hb9.out, HST8.out, by rw [HL9.out]; exact hO9.out⟩
                        case measure => simp [intOf]; omega
                      · have hk8 : k' = 8 := by omega
                        subst hk8
                        have hk8 : ¬ (((8 : Nat) : Int) < 8) := by omega
                        go_wp2_with fail
                        go_roundw
                        case rel => exact ⟨i + 1, Bb, bbc, bs', hlt, by go_num, hrob.out, hkeep.out, hzr, hBr.out, by rw [Hid, HST.out, hbs'.out, hbs.out]; rfl, hownb.out⟩
                        case measure => simp [intOf]; omega
                  · have hii : i = ns.length := by omega
                    subst hii
                    have hii : ¬ (ns.length : Int) < ns.length := by omega
                    have hEb : Hid (bs = bodyOf row ns) := by rw [Hid, hbs.out, List.take_length]
                    obtain ⟨_, e1, e2, e3⟩ := hownb.out.parts
                    have hrz := (HLOW.out wr' hkeep.out).2.2.2.trans HRR0.out
                    have hBw : Hid (Below w.heap.size w wr') := by rw [Hid, HN0.out]; exact HB0.out.trans (hBr.out.mono (by omega))
                    have hV5 := HS7.out wr' hkeep.out
                    have hMV : Hid (MsgVal wr' (fun g => w.heap.size ≤ g ∧ g < wr'.heap.size ∧ g ≠ n0 + 1 + 1) (14, tt, fr, (k : Int), 0, 0, vals, bs) (.agg #[.int .i64 14, .int .i64 tt, .int .i64 fr, .int .i64 (k : Int), .int .i64 0, .int .i64 0, .slice A5 vals.length c5, .slice Bb bs.length bbc])) :=
                      ⟨A5, c5, Bb, bbc, rfl, ⟨i64_small 14 (by omega), hIm.2.1, hIm.1, hIm.2.2, i64_small 0 (by omega), i64_small 0 (by omega)⟩, ⟨hl5, hm5, hV5.more (fun g hg => ⟨by have := hg.1; have := HN0.out; omega, by have := hg.2; omega, by have := hg.1; omega⟩)⟩, e1, e2, e3.more (fun g hg => ⟨by have := hg.1.1; have := HN0.out; omega, hg.1.2, by have := hg.1.1; omega⟩)⟩
                    obtain ⟨c0, c1, c2, c3, c4, c5', c6, c7, _⟩ := blk8 hrob.out
                    obtain ⟨z0, z1, z2, z3, z4, z5, z6, z7, zf⟩ := blk8 hrz
                    have HRZ := Lib.hid hrz
                    clear hrz hV5 e1 e2 e3
                    go_wp2_with fail
                    have hend := msg_end (w := w) HRZ.out (by have := HN0.out; omega) hBw.out hMV.out 0
                    obtain ⟨hz, hret⟩ := hend
                    change bodyPost _ _ _ _ _ (set8 wr' (n0 + 1 + 1) (.int .i64 14) (.int .i64 tt) (.int .i64 fr) (.int .i64 (k : Int)) (.int .i64 0) (.int .i64 0) (.slice A5 vals.length c5) (.slice Bb bs.length bbc))
                    generalize set8 wr' (n0 + 1 + 1) (.int .i64 14) (.int .i64 tt) (.int .i64 fr) (.int .i64 (k : Int)) (.int .i64 0) (.int .i64 0) (.slice A5 vals.length c5) (.slice Bb bs.length bbc) = W3 at hz hret ⊢
                    obtain ⟨z0, z1, z2, z3, z4, z5, z6, z7, _⟩ := blk8 hz
                    refine bodyPost_ret (v := .tuple #[.agg #[.int .i64 14, .int .i64 tt, .int .i64 fr, .int .i64 (k : Int), .int .i64 0, .int .i64 0, .slice A5 vals.length c5, .slice Bb bs.length bbc], .int .i64 0]) ?_ rfl ?_
                    · simp [results, Try.results22, Try.f22, go_sem, z0, z1, z2, z3, z4, z5, z6, z7]
                    · rw [hAV.out, HE0z.out, ← hEb.out]
                      exact hret
              · have HE : Hid (ansE (y0, y1, l) (13, fr, tt, (k : Int), val, ep, vals, body) = 3) := HE3.out 3 (by rw [if_pos h20])
                have hne : (r2 != 0) = true := by simp [h20]
                obtain ⟨z0, z1, z2, z3, z4, z5, z6, z7, zf⟩ := blk8 (HR.out w3 hb03)
                have hrow := Lib.hid (HR.out w3 hb03)
                have hBw := Lib.hid (show Below w.heap.size w w3 by rw [HN0.out]; exact HB0.out.trans (hb03.mono (by omega)))
                go_wp2_with fail
                rw [(HZ.out 3 (by decide) HE.out).1, ← (HZ.out 3 (by decide) HE.out).2]
                have hend := msg_end (w := w) (u0 := .int .i64 0) (u1 := .int .i64 0) (u2 := .int .i64 0) (u3 := .int .i64 0) (u4 := .int .i64 0) (u5 := .int .i64 0) (u6 := .slice none 0 0) (u7 := .slice none 0 0) hrow.out (by have := HN0.out; omega) hBw.out msgVal_zero 3
                obtain ⟨hz, hret⟩ := hend
                change bodyPost _ _ _ _ _ (set8 w3 (n0 + 1 + 1) (.int .i64 0) (.int .i64 0) (.int .i64 0) (.int .i64 0) (.int .i64 0) (.int .i64 0) (.slice none 0 0) (.slice none 0 0))
                generalize set8 w3 (n0 + 1 + 1) (.int .i64 0) (.int .i64 0) (.int .i64 0) (.int .i64 0) (.int .i64 0) (.int .i64 0) (.slice none 0 0) (.slice none 0 0) = W3 at hz hret ⊢
                obtain ⟨z0, z1, z2, z3, z4, z5, z6, z7, _⟩ := blk8 hz
                refine bodyPost_ret (v := .tuple #[.agg #[.int .i64 0, .int .i64 0, .int .i64 0, .int .i64 0, .int .i64 0, .int .i64 0, .slice none 0 0, .slice none 0 0], .int .i64 3]) ?_ rfl hret
                simp [results, Try.results22, Try.f22, go_sem, z0, z1, z2, z3, z4, z5, z6, z7]
        · have HE : Hid (ansE (s, lf, l) (13, fr, tt, num, val, ep, vals, body) = 22) := HE1.out 22 (by rw [if_pos (Or.inr h1)])
          have hne : (y1 != lf) = true := by simp [h1]
          subst h0
          go_wp2_with fail
          go_quiet (fail)
          generalize hWq : w1.drewN _ = w2
          have hb2 : Below n2 W0 w2 := hb1.trans (Drew.below (w := w1) ⟨_, hWq.symm⟩ _)
          clear hWq p0 p1 p2 m0 m1 m2 m3 m4 m5 m6 m7 v0 v1
          obtain ⟨z0, z1, z2, z3, z4, z5, z6, z7, zf⟩ := blk8 (HR.out w2 hb2)
          have hrow := Lib.hid (HR.out w2 hb2)
          have hBw := Lib.hid (show Below w.heap.size w w2 by rw [HN0.out]; exact HB0.out.trans (hb2.mono (by omega)))
          go_wp2_with fail
          rw [(HZ.out 22 (by decide) HE.out).1, ← (HZ.out 22 (by decide) HE.out).2]
          have hend := msg_end (w := w) (u0 := .int .i64 0) (u1 := .int .i64 0) (u2 := .int .i64 0) (u3 := .int .i64 0) (u4 := .int .i64 0) (u5 := .int .i64 0) (u6 := .slice none 0 0) (u7 := .slice none 0 0) hrow.out (by have := HN0.out; omega) hBw.out msgVal_zero 22
          obtain ⟨hz, hret⟩ := hend
          change bodyPost _ _ _ _ _ (set8 w2 (n0 + 1 + 1) (.int .i64 0) (.int .i64 0) (.int .i64 0) (.int .i64 0) (.int .i64 0) (.int .i64 0) (.slice none 0 0) (.slice none 0 0))
          generalize set8 w2 (n0 + 1 + 1) (.int .i64 0) (.int .i64 0) (.int .i64 0) (.int .i64 0) (.int .i64 0) (.int .i64 0) (.slice none 0 0) (.slice none 0 0) = W3 at hz hret ⊢
          obtain ⟨z0, z1, z2, z3, z4, z5, z6, z7, _⟩ := blk8 hz
          refine bodyPost_ret (v := .tuple #[.agg #[.int .i64 0, .int .i64 0, .int .i64 0, .int .i64 0, .int .i64 0, .int .i64 0, .slice none 0 0, .slice none 0 0], .int .i64 22]) ?_ rfl hret
          simp [results, Try.results22, Try.f22, go_sem, z0, z1, z2, z3, z4, z5, z6, z7]
      · have HE : Hid (ansE (s, lf, l) (13, fr, tt, num, val, ep, vals, body) = 22) := HE1.out 22 (by rw [if_pos (Or.inl h0)])
        have hne : (y0 != s) = true := by simp [h0]
        go_wp2_with fail
        go_quiet (fail)
        generalize hWq : w1.drewN _ = w2
        have hb2 : Below n2 W0 w2 := hb1.trans (Drew.below (w := w1) ⟨_, hWq.symm⟩ _)
        clear hWq p0 p1 p2 m0 m1 m2 m3 m4 m5 m6 m7 v0 v1
        obtain ⟨z0, z1, z2, z3, z4, z5, z6, z7, zf⟩ := blk8 (HR.out w2 hb2)
        have hrow := Lib.hid (HR.out w2 hb2)
        have hBw := Lib.hid (show Below w.heap.size w w2 by rw [HN0.out]; exact HB0.out.trans (hb2.mono (by omega)))
        go_wp2_with fail
        rw [(HZ.out 22 (by decide) HE.out).1, ← (HZ.out 22 (by decide) HE.out).2]
        have hend := msg_end (w := w) (u0 := .int .i64 0) (u1 := .int .i64 0) (u2 := .int .i64 0) (u3 := .int .i64 0) (u4 := .int .i64 0) (u5 := .int .i64 0) (u6 := .slice none 0 0) (u7 := .slice none 0 0) hrow.out (by have := HN0.out; omega) hBw.out msgVal_zero 22
        obtain ⟨hz, hret⟩ := hend
        change bodyPost _ _ _ _ _ (set8 w2 (n0 + 1 + 1) (.int .i64 0) (.int .i64 0) (.int .i64 0) (.int .i64 0) (.int .i64 0) (.int .i64 0) (.slice none 0 0) (.slice none 0 0))
        generalize set8 w2 (n0 + 1 + 1) (.int .i64 0) (.int .i64 0) (.int .i64 0) (.int .i64 0) (.int .i64 0) (.int .i64 0) (.slice none 0 0) (.slice none 0 0) = W3 at hz hret ⊢
        obtain ⟨z0, z1, z2, z3, z4, z5, z6, z7, _⟩ := blk8 hz
        refine bodyPost_ret (v := .tuple #[.agg #[.int .i64 0, .int .i64 0, .int .i64 0, .int .i64 0, .int .i64 0, .int .i64 0, .slice none 0 0, .slice none 0 0], .int .i64 22]) ?_ rfl hret
        simp [results, Try.results22, Try.f22, go_sem, z0, z1, z2, z3, z4, z5, z6, z7]
    · have HE : Hid (ansE (s, lf, l) (kind, fr, tt, num, val, ep, vals, body) = 1) := by rw [Hid, ansE, if_neg (by rw [HX.out]; simp), if_pos hk]
      have hne : (kind != 13) = true := by simp [hk]
      obtain ⟨z0, z1, z2, z3, z4, z5, z6, z7, zf⟩ := blk8 (HR.out w1 hb1)
      have hrow := Lib.hid (HR.out w1 hb1)
      have hBw := Lib.hid (show Below w.heap.size w w1 by rw [HN0.out]; exact HB0.out.trans (hb1.mono (by omega)))
      go_wp2_with fail
      rw [(HZ.out 1 (by decide) HE.out).1, ← (HZ.out 1 (by decide) HE.out).2]
      have hend := msg_end (w := w) (u0 := .int .i64 0) (u1 := .int .i64 0) (u2 := .int .i64 0) (u3 := .int .i64 0) (u4 := .int .i64 0) (u5 := .int .i64 0) (u6 := .slice none 0 0) (u7 := .slice none 0 0) hrow.out (by have := HN0.out; omega) hBw.out msgVal_zero 1
      obtain ⟨hz, hret⟩ := hend
      change bodyPost _ _ _ _ _ (set8 w1 (n0 + 1 + 1) (.int .i64 0) (.int .i64 0) (.int .i64 0) (.int .i64 0) (.int .i64 0) (.int .i64 0) (.slice none 0 0) (.slice none 0 0))
      generalize set8 w1 (n0 + 1 + 1) (.int .i64 0) (.int .i64 0) (.int .i64 0) (.int .i64 0) (.int .i64 0) (.int .i64 0) (.slice none 0 0) (.slice none 0 0) = W3 at hz hret ⊢
      obtain ⟨z0, z1, z2, z3, z4, z5, z6, z7, _⟩ := blk8 hz
      refine bodyPost_ret (v := .tuple #[.agg #[.int .i64 0, .int .i64 0, .int .i64 0, .int .i64 0, .int .i64 0, .int .i64 0, .slice none 0 0, .slice none 0 0], .int .i64 1]) ?_ rfl hret
      simp [results, Try.results22, Try.f22, go_sem, z0, z1, z2, z3, z4, z5, z6, z7]
  · have HE : Hid (ansE (s, lf, l) (kind, fr, tt, num, val, ep, vals, body) = x) := by rw [Hid, ansE, if_pos (by rw [HX.out]; exact hx0), HX.out]
    obtain ⟨z0, z1, z2, z3, z4, z5, z6, z7, zf⟩ := blk8 (HR.out w1 hb1)
    have hrow := Lib.hid (HR.out w1 hb1)
    have hBw := Lib.hid (show Below w.heap.size w w1 by rw [HN0.out]; exact HB0.out.trans (hb1.mono (by omega)))
    go_wp2_with fail
    rw [(HZ.out x hx0 HE.out).1, ← (HZ.out x hx0 HE.out).2]
    have hend := msg_end (w := w) (u0 := .int .i64 0) (u1 := .int .i64 0) (u2 := .int .i64 0) (u3 := .int .i64 0) (u4 := .int .i64 0) (u5 := .int .i64 0) (u6 := .slice none 0 0) (u7 := .slice none 0 0) hrow.out (by have := HN0.out; omega) hBw.out msgVal_zero x
    obtain ⟨hz, hret⟩ := hend
    change bodyPost _ _ _ _ _ (set8 w1 (n0 + 1 + 1) (.int .i64 0) (.int .i64 0) (.int .i64 0) (.int .i64 0) (.int .i64 0) (.int .i64 0) (.slice none 0 0) (.slice none 0 0))
    generalize set8 w1 (n0 + 1 + 1) (.int .i64 0) (.int .i64 0) (.int .i64 0) (.int .i64 0) (.int .i64 0) (.int .i64 0) (.slice none 0 0) (.slice none 0 0) = W3 at hz hret ⊢
    obtain ⟨z0, z1, z2, z3, z4, z5, z6, z7, _⟩ := blk8 hz
    refine bodyPost_ret (v := .tuple #[.agg #[.int .i64 0, .int .i64 0, .int .i64 0, .int .i64 0, .int .i64 0, .int .i64 0, .slice none 0 0, .slice none 0 0], .int .i64 x]) ?_ rfl hret
    simp [results, Try.results22, Try.f22, go_sem, z0, z1, z2, z3, z4, z5, z6, z7]
end Go.Proofs.Ytjehedfdikdfpaa
namespace Go.Proofs.Ytjehedfdikdfpaa
open Go.RowKit Go.Shelf
attribute [local go_sem] Oper.semAt_some

set_option maxHeartbeats 1000000 in
theorem sameInts15_any (A A' : Option Addr) (c c' : Nat) (S S' : Nat → Prop) (ss ts : List _) (w : World) (h1 : SlAt encInt w S A ss) (h2 : SlAt encInt w S' A' ts) (hs : ss.length ≤ 9223372036854775807) (ht : ts.length ≤ 9223372036854775807) :
    Calls Try.prog 55 #[.slice A ss.length c, .slice A' ts.length c'] w fun e w' => e = .returned (.bool (ss == ts)) ∧ Drew w w' := by
  by_cases hl : ss.length = ts.length
  · have hl' : (((ss.length : Nat) : Int) != (ts.length : Int)) = false := by simp [hl]
    have HL := Lib.hid hl; clear hl
    go_enter Try.func55, Try.ntmps55
    go_wp2
    go_loopw [5] (fun i wr => ∃ k : Nat, k ≤ ss.length ∧ i = .int .i64 k ∧ Drew w wr ∧ Hid (ss.take k = ts.take k)) (fun i _ => ss.length - (intOf i).toNat)
    case atStart => exact ⟨0, by omega, rfl, Drew.refl _, by simp [Hid]⟩
    case round =>
      obtain ⟨k, hk, rfl, hd, hp⟩ := hrel
      replace h1 := h1.drew hd
      replace h2 := h2.drew hd
      by_cases hlt : k < ss.length
      · have hlt2 : k < ts.length := by have := HL.out; omega
        obtain ⟨b, off, rfl, hb, g0, _⟩ := h1.int hlt
        obtain ⟨b', off', rfl, hb', k0, _⟩ := h2.int hlt2
        have hnn : (0 : Int) ≤ k := by omega
        have hki : (k : Int) < ss.length := by omega
        have hki2 : (k : Int) < ts.length := by omega
        obtain ⟨q, hqq⟩ : ∃ q, Hid ((ss[k]'hlt == ts[k]'hlt2) = q) := ⟨_, Lib.hid rfl⟩
        have hq := (show (ss[k]'hlt != ts[k]'hlt2) = !(ss[k]'hlt == ts[k]'hlt2) from rfl)
        rw [hqq.out] at hq
        go_wp2
        go_quiet (fail)
        cases q with
        | true =>
          go_wp2
          go_roundw
          case rel => exact ⟨k + 1, hlt, by go_num, hd.step _, take_succ_eq _ _ _ hlt hlt2 hp (eq_of_beq hqq.out)⟩
          case measure => simp [intOf]; omega
        | false =>
          go_wp2
          go_ret
          refine ⟨ret_bool ?_, hd.step _⟩
          rw [eq_comm, beq_eq_false_iff_ne]
          intro e
          subst e
          have := hqq.out
          simp at this
      · have : k = ss.length := by omega
        subst this
        go_wp2
        go_ret
        refine ⟨ret_bool ?_, hd⟩
        have := hp.out
        rw [List.take_length, List.take_of_length_le (by rw [HL.out]; omega)] at this
        simp [this]
  · have hl' : (((ss.length : Nat) : Int) != (ts.length : Int)) = true := by simp; omega
    have HL := Lib.hid hl; clear hl
    go_enter Try.func55, Try.ntmps55
    go_wp2
    go_ret
    refine ⟨ret_bool ?_, Drew.refl _⟩
    rw [eq_comm, beq_eq_false_iff_ne]
    intro e
    exact HL.out (by rw [e])
set_option maxHeartbeats 1000000 in
theorem sameBytes25_any (A A' : Option Addr) (c c' : Nat) (S S' : Nat → Prop) (ss ts : List _) (w : World) (h1 : SlAt encU8 w S A ss) (h2 : SlAt encU8 w S' A' ts) (hs : ss.length ≤ 9223372036854775807) (ht : ts.length ≤ 9223372036854775807) :
    Calls Try.prog 49 #[.slice A ss.length c, .slice A' ts.length c'] w fun e w' => e = .returned (.bool (ss == ts)) ∧ Drew w w' := by
  by_cases hl : ss.length = ts.length
  · have hl' : (((ss.length : Nat) : Int) != (ts.length : Int)) = false := by simp [hl]
    have HL := Lib.hid hl; clear hl
    go_enter Try.func49, Try.ntmps49
    go_wp2
    go_loopw [5] (fun i wr => ∃ k : Nat, k ≤ ss.length ∧ i = .int .i64 k ∧ Drew w wr ∧ Hid (ss.take k = ts.take k)) (fun i _ => ss.length - (intOf i).toNat)
    case atStart => exact ⟨0, by omega, rfl, Drew.refl _, by simp [Hid]⟩
    case round =>
      obtain ⟨k, hk, rfl, hd, hp⟩ := hrel
      replace h1 := h1.drew hd
      replace h2 := h2.drew hd
      by_cases hlt : k < ss.length
      · have hlt2 : k < ts.length := by have := HL.out; omega
        obtain ⟨b, off, rfl, hb, g0, _⟩ := h1.u8 hlt
        obtain ⟨b', off', rfl, hb', k0, _⟩ := h2.u8 hlt2
        have hnn : (0 : Int) ≤ k := by omega
        have hki : (k : Int) < ss.length := by omega
        have hki2 : (k : Int) < ts.length := by omega
        obtain ⟨q, hqq⟩ : ∃ q, Hid ((ss[k]'hlt == ts[k]'hlt2) = q) := ⟨_, Lib.hid rfl⟩
        have hq := (show (ss[k]'hlt != ts[k]'hlt2) = !(ss[k]'hlt == ts[k]'hlt2) from rfl)
        rw [hqq.out] at hq
        go_wp2
        go_quiet (fail)
        cases q with
        | true =>
          go_wp2
          go_roundw
          case rel => exact ⟨k + 1, hlt, by go_num, hd.step _, take_succ_eq _ _ _ hlt hlt2 hp (eq_of_beq hqq.out)⟩
          case measure => simp [intOf]; omega
        | false =>
          go_wp2
          go_ret
          refine ⟨ret_bool ?_, hd.step _⟩
          rw [eq_comm, beq_eq_false_iff_ne]
          intro e
          subst e
          have := hqq.out
          simp at this
      · have : k = ss.length := by omega
        subst this
        go_wp2
        go_ret
        refine ⟨ret_bool ?_, hd⟩
        have := hp.out
        rw [List.take_length, List.take_of_length_le (by rw [HL.out]; omega)] at this
        simp [this]
  · have hl' : (((ss.length : Nat) : Int) != (ts.length : Int)) = true := by simp; omega
    have HL := Lib.hid hl; clear hl
    go_enter Try.func49, Try.ntmps49
    go_wp2
    go_ret
    refine ⟨ret_bool ?_, Drew.refl _⟩
    rw [eq_comm, beq_eq_false_iff_ne]
    intro e
    exact HL.out (by rw [e])
set_option maxHeartbeats 4000000 in
set_option maxRecDepth 100000 in
theorem sameMsg_true (x : Msg) (v v' : Value) (w : World) (h : MsgVal w (Bl w.heap.size) x v) (h' : MsgVal w (Bl w.heap.size) x v') :
    Calls Try.prog 23 #[v, v'] w fun e w' => e = .returned (.bool true) ∧ Below w.heap.size w w' := by
  obtain ⟨x0, x1, x2, x3, x4, x5, vs, bs⟩ := x
  obtain ⟨V, vc, B, bc, rfl, _, ⟨v1, v2, v3⟩, b1, b2, b3⟩ := h
  obtain ⟨V', vc', B', bc', rfl, _, ⟨v1', v2', v3'⟩, b1', b2', b3'⟩ := h'
  simp only at v1 v2 v3 b1 b2 b3 v1' v2' v3' b1' b2' b3' ⊢
  obtain ⟨n0, hn0⟩ : ∃ n0, w.heap.size = n0 := ⟨_, rfl⟩
  obtain ⟨W0, hW0⟩ : ∃ W0, (w.alloc (.cells #[.int .i64 x0, .int .i64 x1, .int .i64 x2, .int .i64 x3, .int .i64 x4, .int .i64 x5, .slice V vs.length vc, .slice B bs.length bc] 45)).alloc (.cells #[.int .i64 x0, .int .i64 x1, .int .i64 x2, .int .i64 x3, .int .i64 x4, .int .i64 x5, .slice V' vs.length vc', .slice B' bs.length bc'] 45) = W0 := ⟨_, rfl⟩
  have hB0 : Below n0 w W0 := by rw [← hW0, ← hn0]; exact ext_alloc (ext_alloc (Below.refl _ _))
  have hr0 : W0.heap[n0]? = some (.cells #[.int .i64 x0, .int .i64 x1, .int .i64 x2, .int .i64 x3, .int .i64 x4, .int .i64 x5, .slice V vs.length vc, .slice B bs.length bc] 45 (0, 0)) := by
    rw [← hW0, ← hn0]; exact (Below.heap_alloc _ _ _ (by simp)).trans (heap_alloc_new _ _)
  have hr1 : W0.heap[n0 + 1]? = some (.cells #[.int .i64 x0, .int .i64 x1, .int .i64 x2, .int .i64 x3, .int .i64 x4, .int .i64 x5, .slice V' vs.length vc', .slice B' bs.length bc'] 45 (0, 0)) := by
    rw [← hW0, ← hn0]; exact heap_new2 _ _ _
  have hz0 : W0.heap.size = n0 + 2 := by rw [← hW0, ← hn0]; simp
  obtain ⟨n1, hn1⟩ : ∃ n1, W0.heap.size = n1 := ⟨_, rfl⟩
  have hn01 : n0 + 2 ≤ n1 := by omega
  have H1 : Hid (∀ W, Below n1 W0 W → W.heap[n0]? = some (.cells #[.int .i64 x0, .int .i64 x1, .int .i64 x2, .int .i64 x3, .int .i64 x4, .int .i64 x5, .slice V vs.length vc, .slice B bs.length bc] 45 (0, 0))) := fun W hb => (hb.block n0 (by omega)).trans hr0
  have H2 : Hid (∀ W, Below n1 W0 W → W.heap[n0 + 1]? = some (.cells #[.int .i64 x0, .int .i64 x1, .int .i64 x2, .int .i64 x3, .int .i64 x4, .int .i64 x5, .slice V' vs.length vc', .slice B' bs.length bc'] 45 (0, 0))) := fun W hb => (hb.block (n0 + 1) (by omega)).trans hr1
  have up : ∀ {α : Type} {E : Enc α} {A : Option Addr} {l : List α}, SlAt E w (Bl w.heap.size) A l → ∀ W, Below n1 W0 W → SlAt E W (Bl n0) A l := fun h W hb => by
    rw [hn0] at h
    exact h.blk (fun g hg => (hb.block g (by have : g < n0 := hg; omega)).trans (hB0.block g hg))
  have HV := Lib.hid (up v3)
  have HV' := Lib.hid (up v3')
  have HB := Lib.hid (up b3)
  have HB' := Lib.hid (up b3')
  have HB0 : Hid (Below w.heap.size w W0) := by rw [hn0]; exact hB0
  have HN0 := Lib.hid hn0
  have hvl : vs.length ≤ 9223372036854775807 := by unfold maxLen at v2; omega
  have hbl : bs.length ≤ 9223372036854775807 := by unfold maxLen at b2; omega
  have hvl' : vs.length ≤ vs.length := Nat.le_refl _
  obtain ⟨p0, p1, p2, p3, p4, p5, p6, p7, _⟩ := blk8 (H1.out W0 (Below.refl _ _))
  obtain ⟨q0, q1, q2, q3, q4, q5, q6, q7, _⟩ := blk8 (H2.out W0 (Below.refl _ _))
  clear v3 v3' b3 b3' up hr0 hr1 hz0
  go_enter Try.func23, Try.ntmps23
  go_wp2_with fail
  clear p0 p1 p2 p3 p4 p5 p6 p7 q0 q1 q2 q3 q4 q5 q6 q7 hW0
  go_loopw [5] (fun i wr => ∃ k : Nat, k ≤ vs.length ∧ i = .int .i64 k ∧ Below n1 W0 wr) (fun i _ => vs.length - (intOf i).toNat)
  case atStart => exact ⟨0, by omega, rfl, Below.refl _ _⟩
  case round =>
    obtain ⟨wo, rfl⟩ : ∃ wo : World, wo = wr := ⟨_, rfl⟩
    obtain ⟨k, hk, rfl, hB⟩ := hrel
    obtain ⟨p0, p1, p2, p3, p4, p5, p6, p7, _⟩ := blk8 (H1.out wo hB)
    obtain ⟨q0, q1, q2, q3, q4, q5, q6, q7, _⟩ := blk8 (H2.out wo hB)
    by_cases hlt : k < vs.length
    · obtain ⟨b, off, rfl, hb, g0, _⟩ := (HV.out wo hB).int hlt
      obtain ⟨b', off', rfl, hb', k0, _⟩ := (HV'.out wo hB).int hlt
      have hnn : (0 : Int) ≤ k := by omega
      have hki : (k : Int) < vs.length := by omega
      go_wp2_with fail
      go_quiet (fail)
      generalize hWq : wo.drewN _ = wq
      have hdq : Drew wo wq := ⟨_, hWq.symm⟩
      clear hWq
      go_wp2_with fail
      go_roundw
      case rel => exact ⟨k + 1, hlt, by go_num, hB.trans (hdq.below _)⟩
      case measure => simp [intOf]; omega
    · have hki : ¬ (k : Int) < vs.length := by omega
      have HQ := Lib.hid (sameBytes25_any B B' bc bc' (Bl n0) (Bl n0) bs bs wo (HB.out wo hB) (HB'.out wo hB) hbl hbl)
      have hbo : Hid (Below w.heap.size w wo) := HB0.out.trans (hB.mono (by have := HN0.out; omega))
      go_wp2_with fail
      refine HQ.out.mono ?_
      rintro e w3 ⟨he, hd⟩
      have he' : e = .returned (.bool true) := by rw [he]; simp
      subst he'
      clear he HQ p0 p1 p2 p3 p4 p5 p6 p7 q0 q1 q2 q3 q4 q5 q6 q7
      go_wp2_with fail
      go_ret
      exact ⟨by first | trivial | rfl | simp, hbo.out.trans (hd.below _)⟩
set_option maxHeartbeats 4000000 in
set_option maxRecDepth 100000 in
theorem sameMsgs_true (A A' : Option Addr) (c c' n : Nat) (l : List Msg) (w : World) (hn : l.length = n) (h1 : SlAt encMsg w (Bl w.heap.size) A l) (h2 : SlAt encMsg w (Bl w.heap.size) A' l) (hl : n ≤ 9223372036854775807) :
    Calls Try.prog 17 #[.slice A n c, .slice A' n c'] w fun e w' => e = .returned (.bool true) ∧ Below w.heap.size w w' := by
  subst hn
  have up : ∀ {A : Option Addr}, SlAt encMsg w (Bl w.heap.size) A l → ∀ W, Below w.heap.size w W → SlAt encMsg W (Bl w.heap.size) A l := fun h W hb => h.below hb
  have H1 := Lib.hid (up h1)
  have H2 := Lib.hid (up h2)
  clear h1 h2 up
  have hvl' : l.length ≤ l.length := Nat.le_refl _
  go_enter Try.func17, Try.ntmps17
  go_wp2_with fail
  go_loopw [5] (fun i wr => ∃ k : Nat, k ≤ l.length ∧ i = .int .i64 k ∧ Below w.heap.size w wr) (fun i _ => l.length - (intOf i).toNat)
  case atStart => exact ⟨0, by omega, rfl, Below.refl _ _⟩
  case round =>
    obtain ⟨wo, rfl⟩ : ∃ wo : World, wo = wr := ⟨_, rfl⟩
    obtain ⟨k, hk, rfl, hB⟩ := hrel
    by_cases hlt : k < l.length
    · obtain ⟨bm, om, cs, rfl, hbm, hcs, V, vc, Bd, bc, rfl, hx1, ⟨hx2, hx3, hx4⟩, hx5, hx6, hx7⟩ := (H1.out wo hB).at_ hlt
      obtain ⟨bm', om', cs', rfl, hbm', hcs', V', vc', Bd', bc', rfl, hy1, ⟨hy2, hy3, hy4⟩, hy5, hy6, hy7⟩ := (H2.out wo hB).at_ hlt
      obtain ⟨x, hx⟩ : ∃ x, l[k] = x := ⟨_, rfl⟩
      rw [hx] at hcs hx1 hx2 hx4 hx5 hx7 hcs' hy2 hy4 hy5 hy7
      have hsz := hB.size
      have lo : ∀ {g : Nat}, Bl w.heap.size g → Bl wo.heap.size g := fun hg => Nat.lt_of_lt_of_le hg hsz
      have HM1 : Hid (MsgVal wo (Bl wo.heap.size) x _) := ⟨V, vc, Bd, bc, rfl, hx1, ⟨hx2, hx3, hx4.more (fun g hg => lo hg)⟩, hx5, hx6, hx7.more (fun g hg => lo hg)⟩
      have HM2 : Hid (MsgVal wo (Bl wo.heap.size) x _) := ⟨V', vc', Bd', bc', rfl, hx1, ⟨hy2, hy3, hy4.more (fun g hg => lo hg)⟩, hy5, hy6, hy7.more (fun g hg => lo hg)⟩
      have HS := Lib.hid (fun W (hb : Below wo.heap.size wo W) => sameMsg_true x _ _ W (HM1.out.keep (fun g hg => hb.block g hg) (fun g hg => Nat.lt_of_lt_of_le hg hb.size)) (HM2.out.keep (fun g hg => hb.block g hg) (fun g hg => Nat.lt_of_lt_of_le hg hb.size)))
      obtain ⟨x0, x1, x2, x3, x4, x5, vs, bs⟩ := x
      have c0 := hcs 0 _ rfl
      have c1 := hcs 1 _ rfl
      have c2 := hcs 2 _ rfl
      have c3 := hcs 3 _ rfl
      have c4 := hcs 4 _ rfl
      have c5 := hcs 5 _ rfl
      have c6 := hcs 6 _ rfl
      have c7 := hcs 7 _ rfl
      have d0 := hcs' 0 _ rfl
      have d1 := hcs' 1 _ rfl
      have d2 := hcs' 2 _ rfl
      have d3 := hcs' 3 _ rfl
      have d4 := hcs' 4 _ rfl
      have d5 := hcs' 5 _ rfl
      have d6 := hcs' 6 _ rfl
      have d7 := hcs' 7 _ rfl
      simp only [show encMsg.size = 8 from rfl, Nat.add_zero] at c0 c1 c2 c3 c4 c5 c6 c7 d0 d1 d2 d3 d4 d5 d6 d7
      have hnn : (0 : Int) ≤ k := by omega
      have hki : (k : Int) < l.length := by omega
      have HB := Lib.hid hB
      have hSw : Below wo.heap.size wo wo.drew := (Below.refl _ _).drew
      have HC : Hid (∀ W, Below wo.heap.size wo W → ((W.cell? ⟨bm, om + k * 8, none⟩ = some (.int .i64 x0) ∧ W.cell? ⟨bm, om + k * 8 + 1, none⟩ = some (.int .i64 x1) ∧ W.cell? ⟨bm, om + k * 8 + 2, none⟩ = some (.int .i64 x2) ∧ W.cell? ⟨bm, om + k * 8 + 3, none⟩ = some (.int .i64 x3)) ∧ W.cell? ⟨bm, om + k * 8 + 4, none⟩ = some (.int .i64 x4) ∧ W.cell? ⟨bm, om + k * 8 + 5, none⟩ = some (.int .i64 x5) ∧ W.cell? ⟨bm, om + k * 8 + 6, none⟩ = some (.slice V vs.length vc) ∧ W.cell? ⟨bm, om + k * 8 + 7, none⟩ = some (.slice Bd bs.length bc)) ∧
          ((W.cell? ⟨bm', om' + k * 8, none⟩ = some (.int .i64 x0) ∧ W.cell? ⟨bm', om' + k * 8 + 1, none⟩ = some (.int .i64 x1) ∧ W.cell? ⟨bm', om' + k * 8 + 2, none⟩ = some (.int .i64 x2) ∧ W.cell? ⟨bm', om' + k * 8 + 3, none⟩ = some (.int .i64 x3)) ∧ W.cell? ⟨bm', om' + k * 8 + 4, none⟩ = some (.int .i64 x4) ∧ W.cell? ⟨bm', om' + k * 8 + 5, none⟩ = some (.int .i64 x5) ∧ W.cell? ⟨bm', om' + k * 8 + 6, none⟩ = some (.slice V' vs.length vc') ∧ W.cell? ⟨bm', om' + k * 8 + 7, none⟩ = some (.slice Bd' bs.length bc'))) := fun W hb => by
        have e1 : ∀ i, W.cell? ⟨bm, i, none⟩ = wo.cell? ⟨bm, i, none⟩ := fun i => World.cell?_of_block (hb.block bm (lo hbm))
        have e2 : ∀ i, W.cell? ⟨bm', i, none⟩ = wo.cell? ⟨bm', i, none⟩ := fun i => World.cell?_of_block (hb.block bm' (lo hbm'))
        exact ⟨⟨⟨(e1 _).trans c0, (e1 _).trans c1, (e1 _).trans c2, (e1 _).trans c3⟩, (e1 _).trans c4, (e1 _).trans c5, (e1 _).trans c6, (e1 _).trans c7⟩, ⟨(e2 _).trans d0, (e2 _).trans d1, (e2 _).trans d2, (e2 _).trans d3⟩, (e2 _).trans d4, (e2 _).trans d5, (e2 _).trans d6, (e2 _).trans d7⟩
      clear hx hcs hcs' hx4 hx7 hy4 hy7 c0 c1 c2 c3 c4 c5 c6 c7 d0 d1 d2 d3 d4 d5 d6 d7 hx1 hy1 hB
      go_upto_region 6 with (fail)
      refine wp_region_U (fun W' => Below wo.heap.size wo W') 10 (by kernel_rfl) ?_
      refine wpAnyU_takeD (i := 0) (v := ?_) rfl rfl (by kernel_rfl) (by kernel_rfl) (by kernel_rfl) (by kernel_rfl) (fun _ _ _ h => h) (by rfl) ?_ hSw ?_
      rotate_left 1
      · intro W9 hW9
        try dsimp only at hW9
        obtain ⟨⟨⟨c0, c1, c2, c3⟩, c4, c5, c6, c7⟩, ⟨d0, d1, d2, d3⟩, d4, d5, d6, d7⟩ := HC.out W9 hW9
        go_simp
        try with_reducible rfl
      try simp only [List.setIfInBounds_toArray, List.set_cons_zero, List.set_cons_succ]
      refine wpAnyU_takeD (i := 1) (v := ?_) rfl rfl (by kernel_rfl) (by kernel_rfl) (by kernel_rfl) (by kernel_rfl) (fun _ _ _ h => h) (by rfl) ?_ hSw ?_
      rotate_left 1
      · intro W9 hW9
        try dsimp only at hW9
        obtain ⟨⟨⟨c0, c1, c2, c3⟩, c4, c5, c6, c7⟩, ⟨d0, d1, d2, d3⟩, d4, d5, d6, d7⟩ := HC.out W9 hW9
        go_simp
        try with_reducible rfl
      try simp only [List.setIfInBounds_toArray, List.set_cons_zero, List.set_cons_succ]
      refine wpAnyU_takeD (i := 2) (v := ?_) rfl rfl (by kernel_rfl) (by kernel_rfl) (by kernel_rfl) (by kernel_rfl) (fun _ _ _ h => h) (by rfl) ?_ hSw ?_
      rotate_left 1
      · intro W9 hW9
        try dsimp only at hW9
        obtain ⟨⟨⟨c0, c1, c2, c3⟩, c4, c5, c6, c7⟩, ⟨d0, d1, d2, d3⟩, d4, d5, d6, d7⟩ := HC.out W9 hW9
        go_simp
        try with_reducible rfl
      try simp only [List.setIfInBounds_toArray, List.set_cons_zero, List.set_cons_succ]
      refine wpAnyU_takeD (i := 3) (v := ?_) rfl rfl (by kernel_rfl) (by kernel_rfl) (by kernel_rfl) (by kernel_rfl) (fun _ _ _ h => h) (by rfl) ?_ hSw ?_
      rotate_left 1
      · intro W9 hW9
        try dsimp only at hW9
        obtain ⟨⟨⟨c0, c1, c2, c3⟩, c4, c5, c6, c7⟩, ⟨d0, d1, d2, d3⟩, d4, d5, d6, d7⟩ := HC.out W9 hW9
        go_simp
        try with_reducible rfl
      try simp only [List.setIfInBounds_toArray, List.set_cons_zero, List.set_cons_succ]
      refine wpAnyU_takeD (i := 4) (v := ?_) rfl rfl (by kernel_rfl) (by kernel_rfl) (by kernel_rfl) (by kernel_rfl) (fun _ _ _ h => h) (by rfl) ?_ hSw ?_
      rotate_left 1
      · intro W9 hW9
        try dsimp only at hW9
        obtain ⟨⟨⟨c0, c1, c2, c3⟩, c4, c5, c6, c7⟩, ⟨d0, d1, d2, d3⟩, d4, d5, d6, d7⟩ := HC.out W9 hW9
        go_simp
        try with_reducible rfl
      try simp only [List.setIfInBounds_toArray, List.set_cons_zero, List.set_cons_succ]
      obtain ⟨⟨⟨c0, c1, c2, c3⟩, c4, c5, c6, c7⟩, ⟨d0, d1, d2, d3⟩, d4, d5, d6, d7⟩ := HC.out _ hSw
      refine wpAnyU_op (i := 5) (by kernel_rfl) rfl rfl (fun K hK => ?_)
      go_simp
      refine hK.out _ _ (fun _ => hSw) ?_
      clear hK K
      try simp only [Act.put, List.setIfInBounds_toArray, List.set_cons_zero, List.set_cons_succ]
      refine wpAnyU_op (i := 6) (by kernel_rfl) rfl rfl (fun K hK => ?_)
      go_simp
      refine hK.out _ _ (fun _ => hSw) ?_
      clear hK K
      try simp only [Act.put, List.setIfInBounds_toArray, List.set_cons_zero, List.set_cons_succ]
      refine wpAnyU_op (i := 7) (by kernel_rfl) rfl rfl (fun K hK => ?_)
      go_simp
      refine hK.out _ _ (fun _ => hSw) ?_
      clear hK K
      try simp only [Act.put, List.setIfInBounds_toArray, List.set_cons_zero, List.set_cons_succ]
      clear c0 c1 c2 c3 c4 c5 c6 c7 d0 d1 d2 d3 d4 d5 d6 d7
      refine wpAnyU_op (i := 8) (by kernel_rfl) rfl rfl (fun K hK => ?_)
      go_wp2_with fail
      refine ((HS.out _ hSw)).mono ?_
      rintro e w3 ⟨rfl, hb3'⟩; have hb3 : Below wo.heap.size wo w3 := bUn hb3'
      refine hK.out _ _ (fun _ => hb3) ?_
      clear hK K
      try simp only [Act.put, List.setIfInBounds_toArray, List.set_cons_zero, List.set_cons_succ]
      refine wpAnyU_op (i := 9) (by kernel_rfl) rfl rfl (fun K hK => ?_)
      go_simp
      refine hK.out _ _ (fun _ => hb3) ?_
      clear hK K
      try simp only [Act.put, List.setIfInBounds_toArray, List.set_cons_zero, List.set_cons_succ]
      refine wpAnyU_done (by kernel_rfl) ?_ _
      go_wp2_with fail
      go_roundw
      case rel => exact ⟨k + 1, hlt, by go_num, HB.out.trans (hb3.mono HB.out.size)⟩
      case measure => simp [intOf]; omega
    · have hki : ¬ (k : Int) < l.length := by omega
      go_wp2_with fail
      go_ret
      exact ⟨by first | trivial | rfl | simp, hB⟩
end Go.Proofs.Ytjehedfdikdfpaa
