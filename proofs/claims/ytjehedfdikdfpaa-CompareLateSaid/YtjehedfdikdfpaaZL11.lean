/-
  compare.Answer: the walk.
-/
import Derived.Sort.QuietIn
import Derived.Sort.CutIn
import Derived.Test.YtjehedfdikdfpaaZL04
import Derived.Test.YtjehedfdikdfpaaZL06
import Derived.Test.YtjehedfdikdfpaaZL07
import Derived.Test.YtjehedfdikdfpaaZL08
import Derived.Test.YtjehedfdikdfpaaZL09
import Derived.Test.YtjehedfdikdfpaaZL10
set_option linter.unusedVariables false
set_option linter.unusedSimpArgs false
set_option linter.unusedSectionVars false
set_option linter.unnecessarySimpa false
namespace Go.Proofs.Ytjehedfdikdfpaa
open Go.RowKit Go.Shelf
attribute [local go_sem] Oper.semAt_some

/-- what holds between two rounds of the second loop -/
def AnI (n10 nx : Nat) (tt fr num : Int) (VC : Option Addr) (vn vcc : Nat) (lev : List Int) (W8 : World) (pre : List Nat) (W : World) : Prop :=
  ∃ B bc, W.heap[n10]? = some (.cells #[.int .i64 14, .int .i64 tt, .int .i64 fr, .int .i64 num, .int .i64 0, .int .i64 0, .slice VC vn vcc, .slice B (bodyOf lev pre).length bc] 45 (0, 0)) ∧
    Own encU8 W (nx + 1) 5 (fun _ => False) (.slice B (bodyOf lev pre).length bc) (bodyOf lev pre) ∧ (∀ g, g < nx + 1 → g ≠ n10 → W.heap[g]? = W8.heap[g]?) ∧ Below n10 W8 W ∧ nx + 1 ≤ W.heap.size
theorem anI_own {n10 nx : Nat} {tt fr num : Int} {VC : Option Addr} {vn vcc : Nat} {lev : List Int} {W8 : World} {es : List Ext} (hb : n10 < nx) :
    OwnT (fun _ => False) (nx + 1) (fun (pre : List (NumOf es)) W => AnI n10 nx tt fr num VC vn vcc lev W8 (pre.map (·.1)) W) := by
  rintro q X Y row ⟨B, bc, h1, h2, h3, h4, h5⟩ hg hr
  have key : ∀ g, g < nx + 1 → Y.heap[g]? = X.heap[g]? := fun g hg' => hg.block g (by omega) (fun e => by have := (hr g e.symm).1; omega)
  have hz := hg.size
  refine ⟨B, bc, (key n10 (by omega)).trans h1, h2.blk (fun g hg' => ?_), fun g h6 h7 => (key g h6).trans (h3 g h6 h7), h4.grown hg (by omega) (fun k e => by have := (hr k e).1; omega), by omega⟩
  rcases hg' with hg' | hg'
  · exact hg'.elim
  · obtain ⟨_, cs, fr, hh⟩ := h2.cellsOf g hg'
    refine hg.block g (Array.getElem?_eq_some_iff.1 hh).1 (fun e => ?_)
    obtain ⟨_, o, ho, hc⟩ := hr g e.symm
    rw [hh] at ho; cases ho
    rcases hc with hc | (hc | ⟨_, _, _, _, hc⟩)
    · cases hc
    · cases hc
    · exact hc
set_option maxHeartbeats 8000000 in
set_option maxRecDepth 100000 in
theorem answer_any (s lf kind fr tt num val ep : Int) (A V Bd : Option Addr) (c n vn vc bn bc : Nat) (l : List (List Int)) (vals body : List Int) (w : World) (hn : l.length = n) (hvn : vals.length = vn) (hbn : body.length = bn)
    (h1 : SlAt (encSl encU64) w (Bl w.heap.size) A l) (hV : SlAt encInt w (Bl w.heap.size) V vals) (hs : n ≤ 100000) (hc : n ≤ c ∧ c ≤ maxLen) (hvl : vn ≤ 100000) (hvc : vn ≤ vc ∧ vc ≤ maxLen) (hI : I64 s ∧ I64 lf) (hIm : I64 fr ∧ I64 tt ∧ I64 num) :
    Calls Try.prog 21 #[.agg #[.int .i64 s, .int .i64 lf, .slice A n c], .agg #[.int .i64 kind, .int .i64 fr, .int .i64 tt, .int .i64 num, .int .i64 val, .int .i64 ep, .slice V vn vc, .slice Bd bn bc]] w
      (RetMsg (ansV (s, lf, l) (kind, fr, tt, num, val, ep, vals, body)) (ansE (s, lf, l) (kind, fr, tt, num, val, ep, vals, body)) w) := by
  subst hn hvn hbn
  obtain ⟨n0, hn0⟩ : ∃ n0, w.heap.size = n0 := ⟨_, rfl⟩
  obtain ⟨W0, hW0⟩ : ∃ W0, ((w.alloc (.cells #[.int .i64 s, .int .i64 lf, .slice A l.length c] 24)).alloc (.cells #[.int .i64 kind, .int .i64 fr, .int .i64 tt, .int .i64 num, .int .i64 val, .int .i64 ep, .slice V vals.length vc, .slice Bd body.length bc] 45)).alloc (.cells #[.int .i64 0, .int .i64 0, .int .i64 0, .int .i64 0, .int .i64 0, .int .i64 0, .slice none 0 0, .slice none 0 0] 45) = W0 := ⟨_, rfl⟩
  have hB0 : Below n0 w W0 := by rw [← hW0, ← hn0]; exact ext_alloc (ext_alloc (ext_alloc (Below.refl _ _)))
  have hs0 : W0.heap.size = n0 + 3 := by rw [← hW0, ← hn0]; simp
  have hr0 : W0.heap[n0]? = some (.cells #[.int .i64 s, .int .i64 lf, .slice A l.length c] 24 (0, 0)) := by
    rw [← hW0, ← hn0]; exact (Below.heap_alloc _ _ _ (by simp; omega)).trans ((Below.heap_alloc _ _ _ (by simp)).trans (heap_alloc_new _ _))
  have hr1 : W0.heap[n0 + 1]? = some (.cells #[.int .i64 kind, .int .i64 fr, .int .i64 tt, .int .i64 num, .int .i64 val, .int .i64 ep, .slice V vals.length vc, .slice Bd body.length bc] 45 (0, 0)) := by
    rw [← hW0, ← hn0]; exact (Below.heap_alloc _ _ _ (by simp)).trans (heap_new2 _ _ _)
  have hr2 : W0.heap[n0 + 1 + 1]? = some (.cells #[.int .i64 0, .int .i64 0, .int .i64 0, .int .i64 0, .int .i64 0, .int .i64 0, .slice none 0 0, .slice none 0 0] 45 (0, 0)) := by
    rw [← hW0, ← hn0]; exact heap_new3 _ _ _ _
  obtain ⟨n2, hn2⟩ : ∃ n2, W0.heap.size = n2 := ⟨_, rfl⟩
  have hn02 : n0 + 3 ≤ n2 := by omega
  have HT : Hid (∀ W, Below n2 W0 W → W.cell? ⟨n0, 0, none⟩ = some (.int .i64 s) ∧ W.cell? ⟨n0, 1, none⟩ = some (.int .i64 lf) ∧ W.cell? ⟨n0, 2, none⟩ = some (.slice A l.length c)) := fun W hb => by
    obtain ⟨a0, a1, a2, _⟩ := blk3 ((hb.block n0 (by omega)).trans hr0)
    exact ⟨a0, a1, a2⟩
  have HM : Hid (∀ W, Below n2 W0 W → W.heap[n0 + 1]? = some (.cells #[.int .i64 kind, .int .i64 fr, .int .i64 tt, .int .i64 num, .int .i64 val, .int .i64 ep, .slice V vals.length vc, .slice Bd body.length bc] 45 (0, 0))) := fun W hb => (hb.block _ (by omega)).trans hr1
  have HR : Hid (∀ W, Below n2 W0 W → W.heap[n0 + 1 + 1]? = some (.cells #[.int .i64 0, .int .i64 0, .int .i64 0, .int .i64 0, .int .i64 0, .int .i64 0, .slice none 0 0, .slice none 0 0] 45 (0, 0))) := fun W hb => (hb.block _ (by omega)).trans hr2
  have up : ∀ {α : Type} {E : Enc α} {A : Option Addr} {l : List α}, SlAt E w (Bl w.heap.size) A l → ∀ W, Below n2 W0 W → SlAt E W (Bl n0) A l := fun h W hb => by
    rw [hn0] at h
    exact h.blk (fun g hg => (hb.block g (by have : g < n0 := hg; omega)).trans (hB0.block g hg))
  have H1 := Lib.hid (up h1)
  have HV := Lib.hid (up hV)
  obtain ⟨x, hx⟩ : ∃ x, checkT (s, lf, l) = x := ⟨_, rfl⟩
  have HCH := Lib.hid (fun W (hb : Below n2 W0 W) => check_any s lf A c l.length l x W rfl hx ((H1.out W hb).more (fun g hg => by have := hb.size; have : g < n0 := hg; show g < W.heap.size; omega)) hs hc hI)
  have HX := Lib.hid hx
  have HZ : Hid (∀ q, q ≠ 0 → ansE (s, lf, l) (kind, fr, tt, num, val, ep, vals, body) = q → ansV (s, lf, l) (kind, fr, tt, num, val, ep, vals, body) = zMsg ∧ q = ansE (s, lf, l) (kind, fr, tt, num, val, ep, vals, body)) := fun q h0 h => ⟨by unfold ansV; rw [if_pos (by rw [h]; exact h0)], h.symm⟩
  have HB0 := Lib.hid hB0
  have HN0 := Lib.hid hn0
  have HN2 := Lib.hid hn2
  obtain ⟨p0, p1, p2⟩ := HT.out W0 (Below.refl _ _)
  clear h1 hV hr0 hr1 hr2 hs0 up hx
  obtain ⟨nn, hnn⟩ : ∃ n : Nat, 8 ≤ n := ⟨8, Nat.le_refl _⟩
  refine (callsIn_wide (n := nn)).1 ?_
  refine callsIn_of_wp_marks Try.func21 rfl trivial ?_ rfl
  simp only [Try.ntmps21, List.size_toArray, List.length_cons, List.length_nil, Nat.reduceAdd, Nat.reduceSub, Array.replicate_succ, Array.replicate_zero, List.push_toArray, List.append_toArray, List.nil_append, List.cons_append]
  gi_wp2_with fail
  refine ⟨trivial, fun _ => by omega, CallsIn.mono (callsIn_wide.2 (HCH.out W0 (Below.refl _ _))) ?_⟩
  rintro e w1 ⟨rfl, hb1⟩
  rw [hn2] at hb1
  clear p0 p1 p2 hW0
  by_cases hx0 : x = 0
  · subst hx0
    obtain ⟨m0, m1, m2, m3, m4, m5, m6, m7, _⟩ := blk8 (HM.out w1 hb1)
    by_cases hk : kind = 13
    · subst hk
      have HE0 : Hid (∀ q, (if vals.length < 2 ∨ vals.length % 2 = 1 then (3 : Int) else if vals.getD 0 0 ≠ s ∨ vals.getD 1 0 ≠ lf then 22 else if num < 0 ∨ (l.length : Int) ≤ num then 2 else if extE (pairsL vals) ((levT (s, lf, l) num).length : Int) ≠ 0 then 3 else 0) = q → ansE (s, lf, l) (13, fr, tt, num, val, ep, vals, body) = q) := fun q h => by
        rw [← h, ansE, if_neg (by rw [HX.out]; simp), if_neg (by simp)]
      by_cases hv2 : vals.length < 2
      · have HE : Hid (ansE (s, lf, l) (13, fr, tt, num, val, ep, vals, body) = 3) := HE0.out 3 (by rw [if_pos (Or.inl hv2)])
        have hv2I : (vals.length : Int) < 2 := by omega
        obtain ⟨z0, z1, z2, z3, z4, z5, z6, z7, zf⟩ := blk8 (HR.out w1 hb1)
        have hrow := Lib.hid (HR.out w1 hb1)
        have hBw := Lib.hid (show Below w.heap.size w w1 by rw [HN0.out]; exact HB0.out.trans (hb1.mono (by omega)))
        gi_wp2_with fail
        rw [(HZ.out 3 (by decide) HE.out).1, ← (HZ.out 3 (by decide) HE.out).2]
        have hend := msg_end (w := w) (u0 := .int .i64 0) (u1 := .int .i64 0) (u2 := .int .i64 0) (u3 := .int .i64 0) (u4 := .int .i64 0) (u5 := .int .i64 0) (u6 := .slice none 0 0) (u7 := .slice none 0 0) hrow.out (by have := HN0.out; omega) hBw.out msgVal_zero 3
        obtain ⟨hz, hret⟩ := hend
        change bodyPostM _ _ _ _ _ _ _ (set8 w1 (n0 + 1 + 1) (.int .i64 0) (.int .i64 0) (.int .i64 0) (.int .i64 0) (.int .i64 0) (.int .i64 0) (.slice none 0 0) (.slice none 0 0))
        generalize set8 w1 (n0 + 1 + 1) (.int .i64 0) (.int .i64 0) (.int .i64 0) (.int .i64 0) (.int .i64 0) (.int .i64 0) (.slice none 0 0) (.slice none 0 0) = W3 at hz hret ⊢
        obtain ⟨z0, z1, z2, z3, z4, z5, z6, z7, _⟩ := blk8 hz
        refine ⟨.tuple #[.agg #[.int .i64 0, .int .i64 0, .int .i64 0, .int .i64 0, .int .i64 0, .int .i64 0, .slice none 0 0, .slice none 0 0], .int .i64 3], ?_, hret⟩
        simp [results, Try.results21, Try.f21, go_sem, z0, z1, z2, z3, z4, z5, z6, z7]
      by_cases hvo : vals.length % 2 = 1
      · have HE : Hid (ansE (s, lf, l) (13, fr, tt, num, val, ep, vals, body) = 3) := HE0.out 3 (by rw [if_pos (Or.inr hvo)])
        have hv2I : ¬ (vals.length : Int) < 2 := by omega
        have hvoI : ((vals.length : Int) % 2 == 1) = true := by rw [beq_iff_eq]; omega
        obtain ⟨z0, z1, z2, z3, z4, z5, z6, z7, zf⟩ := blk8 (HR.out w1 hb1)
        have hrow := Lib.hid (HR.out w1 hb1)
        have hBw := Lib.hid (show Below w.heap.size w w1 by rw [HN0.out]; exact HB0.out.trans (hb1.mono (by omega)))
        gi_wp2_with fail
        rw [(HZ.out 3 (by decide) HE.out).1, ← (HZ.out 3 (by decide) HE.out).2]
        have hend := msg_end (w := w) (u0 := .int .i64 0) (u1 := .int .i64 0) (u2 := .int .i64 0) (u3 := .int .i64 0) (u4 := .int .i64 0) (u5 := .int .i64 0) (u6 := .slice none 0 0) (u7 := .slice none 0 0) hrow.out (by have := HN0.out; omega) hBw.out msgVal_zero 3
        obtain ⟨hz, hret⟩ := hend
        change bodyPostM _ _ _ _ _ _ _ (set8 w1 (n0 + 1 + 1) (.int .i64 0) (.int .i64 0) (.int .i64 0) (.int .i64 0) (.int .i64 0) (.int .i64 0) (.slice none 0 0) (.slice none 0 0))
        generalize set8 w1 (n0 + 1 + 1) (.int .i64 0) (.int .i64 0) (.int .i64 0) (.int .i64 0) (.int .i64 0) (.int .i64 0) (.slice none 0 0) (.slice none 0 0) = W3 at hz hret ⊢
        obtain ⟨z0, z1, z2, z3, z4, z5, z6, z7, _⟩ := blk8 hz
        refine ⟨.tuple #[.agg #[.int .i64 0, .int .i64 0, .int .i64 0, .int .i64 0, .int .i64 0, .int .i64 0, .slice none 0 0, .slice none 0 0], .int .i64 3], ?_, hret⟩
        simp [results, Try.results21, Try.f21, go_sem, z0, z1, z2, z3, z4, z5, z6, z7]
      have hv2I : ¬ (vals.length : Int) < 2 := by omega
      have hvoI : ((vals.length : Int) % 2 == 1) = false := by rw [beq_eq_false_iff_ne]; omega
      obtain ⟨bV, oV, rfl, hbV, v0, _⟩ := (HV.out w1 hb1).int (k := 0) (by omega)
      obtain ⟨_, _, he, _, v1, _⟩ := (HV.out w1 hb1).int (k := 1) (by omega)
      simp only [Option.some.injEq, Addr.mk.injEq, and_true] at he
      obtain ⟨rfl, rfl⟩ := he
      have hg0 : vals.getD 0 0 = vals[0] := by rw [List.getD_eq_getElem?_getD, List.getElem?_eq_getElem (by omega)]; rfl
      have hg1 : vals.getD 1 0 = vals[1] := by rw [List.getD_eq_getElem?_getD, List.getElem?_eq_getElem (by omega)]; rfl
      obtain ⟨y0, hy0⟩ : ∃ y, vals[0] = y := ⟨_, rfl⟩
      obtain ⟨y1, hy1⟩ : ∃ y, vals[1] = y := ⟨_, rfl⟩
      rw [hy0] at v0 hg0
      rw [hy1] at v1 hg1
      rw [Nat.add_zero] at v0
      have HG := Lib.hid (And.intro hg0 hg1)
      have HE1 : Hid (∀ q, (if y0 ≠ s ∨ y1 ≠ lf then (22 : Int) else if num < 0 ∨ (l.length : Int) ≤ num then 2 else if extE (pairsL vals) ((levT (s, lf, l) num).length : Int) ≠ 0 then 3 else 0) = q → ansE (s, lf, l) (13, fr, tt, num, val, ep, vals, body) = q) := fun q h => by
        refine HE0.out q ?_
        rw [if_neg (by omega), HG.out.1, HG.out.2]; exact h
      clear hg0 hg1 hy0 hy1
      have hl2 : (0 : Int) < vals.length := by omega
      have hl3 : (1 : Int) < vals.length := by omega
      have hbV' : bV < w1.heap.size := by have := hb1.size; have : bV < n0 := hbV; omega
      obtain ⟨p0, p1, p2⟩ := HT.out w1 hb1
      by_cases h0 : y0 = s
      · by_cases h1 : y1 = lf
        · subst h0 h1
          gi_wp2_with fail
          gi_quiet (fail)
          generalize hWq : w1.drewN _ = w2
          have hd2 : Drew w1 w2 := ⟨_, hWq.symm⟩
          have hb2 : Below n2 W0 w2 := hb1.trans (hd2.below _)
          clear hWq v0 v1 p0 p1 p2 m0 m1 m2 m3 m4 m5 m6 m7
          have HE2 : Hid (∀ q, (if num < 0 ∨ (l.length : Int) ≤ num then (2 : Int) else if extE (pairsL vals) ((levT (y0, y1, l) num).length : Int) ≠ 0 then 3 else 0) = q → ansE (y0, y1, l) (13, fr, tt, num, val, ep, vals, body) = q) := fun q h => by
            refine HE1.out q ?_
            rw [if_neg (by simp)]; exact h
          obtain ⟨m0, m1, m2, m3, m4, m5, m6, m7, _⟩ := blk8 (HM.out w2 hb2)
          obtain ⟨p0, p1, p2⟩ := HT.out w2 hb2
          by_cases g1 : num < 0
          · have HE : Hid (ansE (y0, y1, l) (13, fr, tt, num, val, ep, vals, body) = 2) := HE2.out 2 (by rw [if_pos (Or.inl g1)])
            obtain ⟨z0, z1, z2, z3, z4, z5, z6, z7, zf⟩ := blk8 (HR.out w2 hb2)
            have hrow := Lib.hid (HR.out w2 hb2)
            have hBw := Lib.hid (show Below w.heap.size w w2 by rw [HN0.out]; exact HB0.out.trans (hb2.mono (by omega)))
            gi_wp2_with fail
            rw [(HZ.out 2 (by decide) HE.out).1, ← (HZ.out 2 (by decide) HE.out).2]
            have hend := msg_end (w := w) (u0 := .int .i64 0) (u1 := .int .i64 0) (u2 := .int .i64 0) (u3 := .int .i64 0) (u4 := .int .i64 0) (u5 := .int .i64 0) (u6 := .slice none 0 0) (u7 := .slice none 0 0) hrow.out (by have := HN0.out; omega) hBw.out msgVal_zero 2
            obtain ⟨hz, hret⟩ := hend
            change bodyPostM _ _ _ _ _ _ _ (set8 w2 (n0 + 1 + 1) (.int .i64 0) (.int .i64 0) (.int .i64 0) (.int .i64 0) (.int .i64 0) (.int .i64 0) (.slice none 0 0) (.slice none 0 0))
            generalize set8 w2 (n0 + 1 + 1) (.int .i64 0) (.int .i64 0) (.int .i64 0) (.int .i64 0) (.int .i64 0) (.int .i64 0) (.slice none 0 0) (.slice none 0 0) = W3 at hz hret ⊢
            obtain ⟨z0, z1, z2, z3, z4, z5, z6, z7, _⟩ := blk8 hz
            refine ⟨.tuple #[.agg #[.int .i64 0, .int .i64 0, .int .i64 0, .int .i64 0, .int .i64 0, .int .i64 0, .slice none 0 0, .slice none 0 0], .int .i64 2], ?_, hret⟩
            simp [results, Try.results21, Try.f21, go_sem, z0, z1, z2, z3, z4, z5, z6, z7]
          by_cases g2 : (l.length : Int) ≤ num
          · have HE : Hid (ansE (y0, y1, l) (13, fr, tt, num, val, ep, vals, body) = 2) := HE2.out 2 (by rw [if_pos (Or.inr g2)])
            obtain ⟨z0, z1, z2, z3, z4, z5, z6, z7, zf⟩ := blk8 (HR.out w2 hb2)
            have hrow := Lib.hid (HR.out w2 hb2)
            have hBw := Lib.hid (show Below w.heap.size w w2 by rw [HN0.out]; exact HB0.out.trans (hb2.mono (by omega)))
            gi_wp2_with fail
            rw [(HZ.out 2 (by decide) HE.out).1, ← (HZ.out 2 (by decide) HE.out).2]
            have hend := msg_end (w := w) (u0 := .int .i64 0) (u1 := .int .i64 0) (u2 := .int .i64 0) (u3 := .int .i64 0) (u4 := .int .i64 0) (u5 := .int .i64 0) (u6 := .slice none 0 0) (u7 := .slice none 0 0) hrow.out (by have := HN0.out; omega) hBw.out msgVal_zero 2
            obtain ⟨hz, hret⟩ := hend
            change bodyPostM _ _ _ _ _ _ _ (set8 w2 (n0 + 1 + 1) (.int .i64 0) (.int .i64 0) (.int .i64 0) (.int .i64 0) (.int .i64 0) (.int .i64 0) (.slice none 0 0) (.slice none 0 0))
            generalize set8 w2 (n0 + 1 + 1) (.int .i64 0) (.int .i64 0) (.int .i64 0) (.int .i64 0) (.int .i64 0) (.int .i64 0) (.slice none 0 0) (.slice none 0 0) = W3 at hz hret ⊢
            obtain ⟨z0, z1, z2, z3, z4, z5, z6, z7, _⟩ := blk8 hz
            refine ⟨.tuple #[.agg #[.int .i64 0, .int .i64 0, .int .i64 0, .int .i64 0, .int .i64 0, .int .i64 0, .slice none 0 0, .slice none 0 0], .int .i64 2], ?_, hret⟩
            simp [results, Try.results21, Try.f21, go_sem, z0, z1, z2, z3, z4, z5, z6, z7]
          obtain ⟨k, rfl⟩ : ∃ k : Nat, num = k := ⟨num.toNat, by omega⟩
          have hk : k < l.length := by omega
          obtain ⟨q, hq⟩ : ∃ q, vals.length - 2 = 2 * q := ⟨(vals.length - 2) / 2, by omega⟩
          obtain ⟨nb, hnb⟩ : ∃ nb, w2.heap.size = nb := ⟨_, rfl⟩
          obtain ⟨AC, hAC⟩ : ∃ AC, (if vc = 2 then (some ⟨bV, oV, none⟩ : Option Addr) else some ⟨bV, oV + 2, none⟩) = AC := ⟨_, rfl⟩
          have hn2b : n2 ≤ nb := by rw [← hnb]; have := hb2.size; omega
          obtain ⟨W4, hW4⟩ : ∃ W4, w2.alloc (.cells #[.slice none 0 0] 25) = W4 := ⟨_, rfl⟩
          have hb4 : Below n2 W0 W4 := by rw [← hW4]; exact hb2.alloc (by omega) _
          have hs4 : W4.heap.size = nb + 1 := by rw [← hW4, ← hnb]; simp
          have hbx4 : Boxed W4 nb 25 (.slice none 0 0) := by rw [← hW4, ← hnb]; exact heap_alloc_new _ _
          obtain ⟨t0, t1, t2, t3, t4, t5, t6, t7, _⟩ := blk8 (HM.out W4 hb4)
          obtain ⟨W5, hW5⟩ : ∃ W5, (W4.alloc (.cells #[.slice AC (2 * q) (vc - 2)] 42)).alloc (.cells #[.int .i64 2] 3) = W5 := ⟨_, rfl⟩
          have hb5 : Below (nb + 1) W4 W5 := by rw [← hW5, ← hs4]; exact ext_alloc (ext_alloc (Below.refl _ _))
          have hs5 : W5.heap.size = nb + 3 := by rw [← hW5]; simp; omega
          have hc5 : W5.cell? ⟨nb + 1, 0, none⟩ = some (.slice AC (2 * q) (vc - 2)) := by rw [← hW5, ← hs4]; exact cell_of_row _ _ 0 _ _ _ ((Below.heap_alloc _ _ _ (by simp)).trans (heap_alloc_new _ _))
          have hd5 : W5.cell? ⟨nb + 2, 0, none⟩ = some (.int .i64 2) := by
            have h := heap_alloc_new (W4.alloc (.cells #[.slice AC (2 * q) (vc - 2)] 42)) (.cells #[.int .i64 2] 3)
            rw [World.size_alloc, hs4] at h
            rw [← hW5]; exact cell_of_row _ (nb + 2) 0 _ _ _ h
          have HAC : Hid (0 < q → AC = some ⟨bV, oV + 2, none⟩) := fun h => by rw [← hAC, if_neg (by omega)]
          have HST := Lib.hid (chunkI_stops (nn - 1) (by omega) (nb + 1) (nb + 2) (vc - 2) bV (oV + 2) q AC HAC.out (by omega) (by omega) (by omega) W5 (by omega) (by omega) hc5 hd5)
          have HQ := Lib.hid hq
          have HS4 := Lib.hid hs4
          have hbx5 : Boxed W5 nb 25 (.slice none 0 0) := (hb5.block nb (by omega)).trans hbx4
          have HBX := Lib.hid hbx5
          have HB5 : Hid (Below nb w2 W5) := by
            have h : Below nb w2 W4 := by rw [← hW4, ← hnb]; exact ext_alloc (Below.refl _ _)
            exact h.trans (hb5.mono (by omega))
          have HS5 := Lib.hid hs5
          clear hc5 hd5 hbx4 hbx5 hs4 hs5 hb5
          gi_wp2_with fail
          refine ⟨trivial, fun _ => by omega, CallsIn.mono (callsIn_wide.2 (chunkI_any AC (2 * q) (vc - 2) W4)) ?_⟩
          rintro e w1' ⟨rfl, rfl⟩
          rw [HS4.out]
          gi_wp2_with fail
          clear t0 t1 t2 t3 t4 t5 t6 t7 p0 p1 p2 m0 m1 m2 m3 m4 m5 m6 m7 hW4 hW5
          have hmx : Try.prog.follows .mixedOrders = true := by kernel_rfl
          refine wpIn_rangeFunc_own1 (own := fun _ => False) (v := fun x : PairIx q => .slice (some ⟨bV, oV + 2 + x.1 * 2, none⟩) 2 2) rfl (by omega) (gf := 73) (lb := #[.pointer (some ⟨nb + 1, 0, none⟩), .pointer (some ⟨nb + 1 + 1, 0, none⟩)]) rfl trivial (enters_of Try.func73 (by kernel_rfl) rfl) HST.out KpC.trans (KpC.refl _ _)
            (fun W l o o' hl h _ _ => KpC.blk (World.putObj_heap_other (by have := HS5.out; omega)) (World.putObj_heap_other (by have := HS5.out; omega))) (Below.refl _ _) (by simp)
            (fun pre W => BoxOwn encExt (nb + 3) nb 25 67 (pre.map fun x => pairA vals x.1) W ∧ Below nb w2 W ∧ nb + 3 ≤ W.heap.size)
            ?own ?start ?body ?done
          case own =>
            refine OwnT.and (boxOwn_ownT (fun pre : List (PairIx q) => pre.map fun x => pairA vals x.1) (fun h => h) (fun h => h)) (OwnT.and (ownT_below (by omega) (by have := HS5.out; omega)) ?_)
            intro s X Y row hs hg hr
            exact Nat.le_trans hs hg.size
          case start => exact ⟨⟨_, HBX.out, Own.nil_⟩, HB5.out, by have := HS5.out; omega⟩
          case body =>
            rintro y pre ⟨x, hx⟩ W _ _ ⟨⟨v, hv, hown⟩, hB, hsz⟩ hlen
            have hbb5 : Below nb w2 W := hB
            have hb0W : Below n2 W0 W := hb2.trans (hB.mono hn2b)
            have hvx : 2 + 2 * x + 1 < vals.length := by have := HQ.out; omega
            have HVC : Hid (∀ W', Below (nb + 3) W W' → W'.cell? ⟨bV, oV + 2 + x * 2, none⟩ = some (.int .i64 (pairA vals x).1) ∧ W'.cell? ⟨bV, oV + 2 + x * 2 + 1, none⟩ = some (.int .i64 (pairA vals x).2) ∧ I64 (pairA vals x).1 ∧ I64 (pairA vals x).2) := fun W' hb => by
              have hh := HV.out W' (hb0W.trans (hb.mono (by omega)))
              obtain ⟨b3, o3, he3, _, c3, i3⟩ := hh.int (k := 2 + 2 * x) (by omega)
              obtain ⟨b4, o4, he4, _, c4, i4⟩ := hh.int (k := 3 + 2 * x) (by omega)
              simp only [Option.some.injEq, Addr.mk.injEq, and_true] at he3 he4
              obtain ⟨rfl, rfl⟩ := he3
              obtain ⟨rfl, rfl⟩ := he4
              have e1 : (pairA vals x).1 = vals[2 + 2 * x] := by unfold pairA; simp only; rw [List.getD_eq_getElem?_getD, List.getElem?_eq_getElem (by omega)]; rfl
              have e2 : (pairA vals x).2 = vals[3 + 2 * x] := by unfold pairA; simp only; rw [List.getD_eq_getElem?_getD, List.getElem?_eq_getElem (by omega)]; rfl
              rw [e1, e2, show oV + 2 + x * 2 + 1 = oV + (3 + 2 * x) by omega, show oV + 2 + x * 2 = oV + (2 + 2 * x) by omega]
              exact ⟨c3, c4, i3, i4⟩
            obtain ⟨pa, hpa⟩ : ∃ pa, pairA vals x = pa := ⟨_, rfl⟩
            rw [hpa] at HVC
            have HPA := Lib.hid hpa
            clear hpa
            obtain ⟨pa1, pa2⟩ := pa
            simp only at HVC
            have hpi := (HVC.out W (Below.refl _ _)).2.2
            have hvn : nb < nb + 3 := by omega
            have HC : Hid (∀ W', Below (nb + 3) W W' → W'.cell? ⟨nb, 0, none⟩ = some v ∧ W'.cell? ⟨bV, oV + 2 + x * 2, none⟩ = some (.int .i64 pa1) ∧ W'.cell? ⟨bV, oV + 2 + x * 2 + 1, none⟩ = some (.int .i64 pa2)) := fun W' hb => ⟨(hb.cell (p := ⟨nb, 0, none⟩) hvn).trans hv.cell, (HVC.out W' hb).1, (HVC.out W' hb).2.1⟩
            have HV9 := Lib.hid hv; have HO9 := Lib.hid hown
            have hpl : (pre.map fun x : PairIx q => pairA vals x.1).length = pre.length := List.length_map ..
            have hpl2 : (pre.map fun x : PairIx q => pairA vals x.1).length ≤ 100000 := by omega
            have hSw : Below (nb + 3) W W.drew := (Below.refl _ _).drew
            clear hv hown
            simp only [List.setIfInBounds_toArray, List.set_cons_zero, List.set_cons_succ]
            gi_wp2_with fail
            refine wpIn_region_V (fun W' => Below (nb + 3) W W') 10 hmx ?_
            refine wpAnyV_takeD (i := 0) (v := ?_) (by kernel_rfl) rfl rfl (by kernel_rfl) (by kernel_rfl) (by kernel_rfl) (by kernel_rfl) (fun _ _ _ h => h) (by rfl) (by intro w; first | rfl | simp [Oper.about]) ?_ hSw ?_
            rotate_left 1
            · intro W9 hW9
              try dsimp only at hW9
              obtain ⟨k0, k1, k2⟩ := HC.out W9 hW9
              go_simp
              try with_reducible rfl
            try simp only [List.setIfInBounds_toArray, List.set_cons_zero, List.set_cons_succ]
            refine wpAnyV_takeD (i := 1) (v := ?_) (by kernel_rfl) rfl rfl (by kernel_rfl) (by kernel_rfl) (by kernel_rfl) (by kernel_rfl) (fun _ _ _ h => h) (by rfl) (by intro w; first | rfl | simp [Oper.about]) ?_ hSw ?_
            rotate_left 1
            · intro W9 hW9
              try dsimp only at hW9
              obtain ⟨k0, k1, k2⟩ := HC.out W9 hW9
              go_simp
              try with_reducible rfl
            try simp only [List.setIfInBounds_toArray, List.set_cons_zero, List.set_cons_succ]
            refine wpAnyV_takeD (i := 2) (v := ?_) (by kernel_rfl) rfl rfl (by kernel_rfl) (by kernel_rfl) (by kernel_rfl) (by kernel_rfl) (fun _ _ _ h => h) (by rfl) (by intro w; first | rfl | simp [Oper.about]) ?_ hSw ?_
            rotate_left 1
            · intro W9 hW9
              try dsimp only at hW9
              obtain ⟨k0, k1, k2⟩ := HC.out W9 hW9
              go_simp
              try with_reducible rfl
            try simp only [List.setIfInBounds_toArray, List.set_cons_zero, List.set_cons_succ]
            refine wpAnyV_takeD (i := 3) (v := ?_) (by kernel_rfl) rfl rfl (by kernel_rfl) (by kernel_rfl) (by kernel_rfl) (by kernel_rfl) (fun _ _ _ h => h) (by rfl) (by intro w; first | rfl | simp [Oper.about]) ?_ hSw ?_
            rotate_left 1
            · intro W9 hW9
              try dsimp only at hW9
              obtain ⟨k0, k1, k2⟩ := HC.out W9 hW9
              go_simp
              try with_reducible rfl
            try simp only [List.setIfInBounds_toArray, List.set_cons_zero, List.set_cons_succ]
            have HCD := Lib.hid (HC.out _ hSw)
            obtain ⟨k0, k1, k2⟩ := HC.out _ hSw
            refine wpAnyV_op (i := 4) (by kernel_rfl) rfl rfl (fun K hK => ?_)
            go_simp
            refine hK.out _ _ (fun _ => hSw) ?_
            clear hK K
            try simp only [List.setIfInBounds_toArray, List.set_cons_zero, List.set_cons_succ]
            refine wpAnyV_op (i := 5) (by kernel_rfl) rfl rfl (fun K hK => ?_)
            go_simp
            refine hK.out _ _ (fun _ => hSw) ?_
            clear hK K
            try simp only [List.setIfInBounds_toArray, List.set_cons_zero, List.set_cons_succ]
            refine wpAnyV_op (i := 6) (by kernel_rfl) rfl rfl (fun K hK => ?_)
            go_simp
            refine hK.out _ _ (fun _ => hSw) ?_
            clear hK K
            try simp only [List.setIfInBounds_toArray, List.set_cons_zero, List.set_cons_succ]
            refine wpAnyV_op (i := 7) (by kernel_rfl) rfl rfl (fun K hK => ?_)
            go_simp
            refine hK.out _ _ (fun _ => hSw) ?_
            clear hK K
            try simp only [List.setIfInBounds_toArray, List.set_cons_zero, List.set_cons_succ]
            refine wpAnyV_op (i := 8) (by kernel_rfl) rfl rfl (fun K hK => ?_)
            go_simp
            refine hK.out _ _ (fun _ => ((Below.refl (nb + 3) W).alloc (by omega) _).drew) ?_
            clear hK K
            try simp only [List.setIfInBounds_toArray, List.set_cons_zero, List.set_cons_succ]
            clear k0 k1 k2
            have HO8 : Hid (Own encExt (W.alloc (.cells #[.int .i64 pa1, .int .i64 pa2] 67)).drew (nb + 3) 67 (fun _ => False) v (pre.map fun x : PairIx q => pairA vals x.1)) := (HO9.out.alloc (fun _ h => h.elim) _).below (Below.refl _ _).drew (fun _ h => h.elim)
            have hz8 : (W.alloc (.cells #[.int .i64 pa1, .int .i64 pa2] 67)).drew.heap.size = W.heap.size + 1 := by show (W.alloc _).heap.size = _; simp
            refine wpAnyV_one (i := 9) (by kernel_rfl) rfl (fun K hK => ?_)
            refine stepIn_app1 (E := encExt) tyExtsI rfl _ _ rfl rfl HO8.out (pa1, pa2) [.int .i64 pa1, .int .i64 pa2] rfl (ext_mk (x := (pa1, pa2)) hpi.1 hpi.2) (heap_alloc_new _ _) (fun _ h => h.elim) (by rw [hz8]; omega) (by unfold maxLen; omega) (by omega) ?_
            intro A' c5 w5 hown5 hg5 hat5
            obtain ⟨hv5, hbo5, hk5⟩ := BoxOwn.appended3 (W := W) HV9.out (by decide) HO9.out hown5 ⟨hg5.os, hg5.tape, hg5.output, hg5.size, hg5.block⟩
            have hlt5 := HO8.out.lt
            have hS5 : Below (nb + 3) W w5 := (((Below.refl (nb + 3) W).alloc (by omega) (.cells #[.int .i64 pa1, .int .i64 pa2] 67)).drew).grown hg5 (by rw [hz8]; omega) (fun g h => (hlt5 g h).1)
            refine hK.out _ _ (fun _ => hS5) ?_
            clear hK K
            simp only [Act.put, List.setIfInBounds_toArray, List.set_cons_zero, List.set_cons_succ]
            have hc5 := hv5.cell
            have hf5 := hv5.frozen
            have HBO5 := Lib.hid hbo5
            have HK5 := Lib.hid hk5
            have HS5' := Lib.hid hS5
            clear hown5 hg5 hat5 hbo5 hk5 hv5
            refine wpAnyV_op (i := 10) (by kernel_rfl) rfl rfl (fun K hK => ?_)
            go_simp
            refine hK.out _ _ (fun h => absurd rfl h) ?_
            clear hK K
            refine wpAnyV_done (by kernel_rfl) ?_ _
            have hw6 : KeepsFrom W5.heap.size W (w5.setCell ⟨nb, 0, none⟩ (.slice A' ((pre.map fun x : PairIx q => pairA vals x.1).length + 1) c5)) := HK5.out.from _
            have hkp6 : KpC (nb + 1) (nb + 2) W (w5.setCell ⟨nb, 0, none⟩ (.slice A' ((pre.map fun x : PairIx q => pairA vals x.1).length + 1) c5)) := KpC.blk
              ((heap_setCell_other _ ⟨nb, 0, none⟩ (nb + 1) _ (by show nb + 1 ≠ nb; omega)).trans (HS5'.out.block _ (by omega))) ((heap_setCell_other _ ⟨nb, 0, none⟩ (nb + 2) _ (by show nb + 2 ≠ nb; omega)).trans (HS5'.out.block _ (by omega)))
            have hB6 : Below nb w2 (w5.setCell ⟨nb, 0, none⟩ (.slice A' ((pre.map fun x : PairIx q => pairA vals x.1).length + 1) c5)) := (hB.trans (HS5'.out.mono (by omega))).setCell (p := ⟨nb, 0, none⟩) (Nat.le_refl _) _
            have hz6 : nb + 3 ≤ (w5.setCell ⟨nb, 0, none⟩ (.slice A' ((pre.map fun x : PairIx q => pairA vals x.1).length + 1) c5)).heap.size := by have := HS5'.out.size; simp [World.setCell]; omega
            have hbo6 : BoxOwn encExt (nb + 3) nb 25 67 ((pre ++ [(⟨x, hx⟩ : PairIx q)]).map fun x => pairA vals x.1) (w5.setCell ⟨nb, 0, none⟩ (.slice A' ((pre.map fun x : PairIx q => pairA vals x.1).length + 1) c5)) := by
              rw [List.map_append, List.map_singleton, HPA.out]; exact HBO5.out
            have HALL := Lib.hid (And.intro hw6 (And.intro hkp6 (And.intro hbo6 (And.intro hB6 hz6))))
            clear hw6 hkp6 hbo6 hB6 hz6
            gi_wp2
            have hall := HALL.out
            simp only [List.length_map] at hall
            exact hall
          case done =>
            rintro D ys W hD hS ⟨⟨v, hv, hown⟩, hB, hsz⟩ hK
            have hb0W : Below n2 W0 W := hb2.trans (hB.mono hn2b)
            have HES : Hid ((ys.map fun x : PairIx q => pairA vals x.1) = pairsL vals) := by
              rw [Hid, pairsL_eq HQ.out, ← hS, List.map_map]; rfl
            rw [HES.out] at hown
            obtain ⟨es, hes⟩ : ∃ es, pairsL vals = es := ⟨_, rfl⟩
            rw [hes] at hown
            have hesl : es.length ≤ 100000 := by rw [← hes, ← HES.out, List.length_map]; have : ys.length = q := by rw [← List.length_map, hS, List.length_range]
                                                 omega
            have HESV := Lib.hid hes
            obtain ⟨Q9, qc, rfl⟩ := hown.form
            have hw9 : OwnW encExt W (nb + 3) (nb + 3) 67 (.slice Q9 es.length qc) es := Own.more hown (fun _ h => h.elim) (fun g e h => h.2 e)
            obtain ⟨_, e1, e2, e3⟩ := hw9.parts
            have HEA := Lib.hid (And.intro e1 (And.intro e2 e3))
            clear hw9 e1 e2 e3 hown hes hS
            obtain ⟨bL, oL, D9, d9, rfl, hbL, l0, hD9, hd91, hd92⟩ := (H1.out W hb0W).sl hk
            have hlevT : Hid (levT (y0, y1, l) (k : Int) = l[k]) := by
              rw [Hid]; unfold levT
              simp only [Int.toNat_natCast]
              rw [List.getD_eq_getElem?_getD, List.getElem?_eq_getElem hk]; rfl
            obtain ⟨lev, hlev⟩ : ∃ lev, l[k] = lev := ⟨_, rfl⟩
            rw [hlev] at l0 hD9 hd91 hlevT
            have HE3 : Hid (∀ q, (if extE es (lev.length : Int) ≠ 0 then (3 : Int) else 0) = q → ansE (y0, y1, l) (13, fr, tt, (k : Int), val, ep, vals, body) = q) := fun q h => by
              refine HE2.out q ?_
              rw [if_neg (by omega), HESV.out, hlevT.out]; exact h
            have HDL := Lib.hid hD9
            have hki : (k : Int) < l.length := by omega
            have hkn : (0 : Int) ≤ k := by omega
            obtain ⟨nl, hnl⟩ : ∃ nl, W.heap.size = nl := ⟨_, rfl⟩
            obtain ⟨W6, hW6⟩ : ∃ W6, W.alloc (.cells #[.slice D9 lev.length d9] 72) = W6 := ⟨_, rfl⟩
            have hb6 : Below nl W W6 := by rw [← hW6, ← hnl]; exact ext_alloc (Below.refl _ _)
            have hs6 : W6.heap.size = nl + 1 := by rw [← hW6, ← hnl]; simp
            have hbl6 : Boxed W6 nl 72 (.slice D9 lev.length d9) := by rw [← hW6, ← hnl]; exact heap_alloc_new _ _
            have hbx6 : Boxed W6 nb 25 (.slice Q9 es.length qc) := (hb6.block nb (by omega)).trans hv
            have hK6 : W6.heap[D]? = some (.deferred (some [])) := (hb6.block D (by rw [← hnl]; exact (Array.getElem?_eq_some_iff.1 hK).1)).trans hK
            have hDl : D < nl := by rw [← hnl]; exact (Array.getElem?_eq_some_iff.1 hK).1
            have hDn : nb + 3 ≤ D := by rw [← HS5.out]; exact hD
            have hb06 : Below n2 W0 W6 := hb0W.trans (hb6.mono (by omega))
            have HEX6 : Hid (SlAt encExt W6 (Nw (nb + 3) nl) Q9 es) := (HEA.out.2.2.blk (fun g hg => hb6.block g (by rw [← hnl]; exact hg.2))).more (fun g hg => ⟨hg.1, by rw [← hnl]; exact hg.2⟩)
            obtain ⟨r2, hr2⟩ : ∃ r2, extE es (lev.length : Int) = r2 := ⟨_, rfl⟩
            have HCK := Lib.hid (extCheck_any Q9 qc es.length es (lev.length : Int) r2 W6 rfl hr2 (HEX6.out.more (fun g hg => by have := hg.2; show g < W6.heap.size; omega)) (by omega))
            rw [hr2] at HE3
            have HR2 := Lib.hid hr2
            have HW6 := Lib.hid hW6
            have HHK6 := Lib.hid hK6
            have HBL6 := Lib.hid hbl6
            obtain ⟨p0, p1, p2⟩ := HT.out W hb0W
            obtain ⟨m0, m1, m2, m3, m4, m5, m6, m7, _⟩ := blk8 (HM.out W hb0W)
            have q6 := hbx6.cell
            have q7 := hbl6.cell
            clear hlev hD9 hv hr2 hK hK6
            gi_wp2_with fail
            refine ⟨trivial, fun _ => by omega, CallsIn.mono (callsIn_wide.2 HCK.out) ?_⟩
            rintro e w7 ⟨rfl, hb7⟩
            clear p0 p1 p2 m0 m1 m2 m3 m4 m5 m6 m7 q6 q7 l0 hW6
            have hb07 : Below n2 W0 w7 := hb06.trans (hb7.mono (by omega))
            by_cases h20 : r2 = 0
            · subst h20
              obtain ⟨n7, hn7⟩ : ∃ n7, w7.heap.size = n7 := ⟨_, rfl⟩
              have hn67 : nl + 1 ≤ n7 := by rw [← hn7, ← hs6]; exact hb7.size
              have HCL := Lib.hid (fun W (hb : Below n7 w7 W) => cloneInts_any (some ⟨bV, oV, none⟩) vc vals.length vals W rfl ((HV.out W (hb07.trans (hb.mono (by omega)))).more (fun g hg => by have : g < n0 := hg; have := hb.size; show g < W.heap.size; omega)) (by omega))
              have HMM : Hid (∀ W, Below n7 w7 W → W.cell? ⟨n0 + 1, 1, none⟩ = some (.int .i64 fr) ∧ W.cell? ⟨n0 + 1, 2, none⟩ = some (.int .i64 tt) ∧ W.cell? ⟨n0 + 1, 3, none⟩ = some (.int .i64 (k : Int)) ∧ W.cell? ⟨n0 + 1, 6, none⟩ = some (.slice (some ⟨bV, oV, none⟩) vals.length vc)) := fun W hb => by
                obtain ⟨a0, a1, a2, a3, a4, a5, a6, a7, _⟩ := blk8 (HM.out W (hb07.trans (hb.mono (by omega))))
                exact ⟨a1, a2, a3, a6⟩
              have hSw : Below n7 w7 w7.drew := (Below.refl _ _).drew
              gi_wp2_with fail
              gi_cut [10] from 95 (fun e wx => ∃ n10 VC vcc, e = .pointer (some ⟨n10, 0, none⟩) ∧ n7 ≤ n10 ∧ wx.heap[n10]? = some (.cells #[.int .i64 14, .int .i64 tt, .int .i64 fr, .int .i64 (k : Int), .int .i64 0, .int .i64 0, .slice VC vals.length vcc, .slice none 0 0] 45 (0, 0)) ∧ vals.length ≤ vcc ∧ vcc ≤ maxLen ∧ SlAt encInt wx (fun g => Nw n7 wx.heap.size g ∧ g ≠ n10) VC vals ∧ Below n7 w7 wx)
              case first =>
                refine wpIn_region_VF (fun W' => Below n7 w7 W') 12 hmx ?_
                refine wpAnyV_takeD (i := 0) (v := ?_) (by kernel_rfl) rfl rfl (by kernel_rfl) (by kernel_rfl) (by kernel_rfl) (by kernel_rfl) (fun _ _ _ h => h) (by rfl) (by intro w; first | rfl | simp [Oper.about]) ?_ hSw ?_
                rotate_left 1
                · intro W9 hW9
                  try dsimp only at hW9
                  obtain ⟨k0, k1, k2, k3⟩ := HMM.out W9 hW9
                  go_simp
                  try with_reducible rfl
                try simp only [List.setIfInBounds_toArray, List.set_cons_zero, List.set_cons_succ]
                refine wpAnyV_takeD (i := 1) (v := ?_) (by kernel_rfl) rfl rfl (by kernel_rfl) (by kernel_rfl) (by kernel_rfl) (by kernel_rfl) (fun _ _ _ h => h) (by rfl) (by intro w; first | rfl | simp [Oper.about]) ?_ hSw ?_
                rotate_left 1
                · intro W9 hW9
                  try dsimp only at hW9
                  obtain ⟨k0, k1, k2, k3⟩ := HMM.out W9 hW9
                  go_simp
                  try with_reducible rfl
                try simp only [List.setIfInBounds_toArray, List.set_cons_zero, List.set_cons_succ]
                refine wpAnyV_takeD (i := 2) (v := ?_) (by kernel_rfl) rfl rfl (by kernel_rfl) (by kernel_rfl) (by kernel_rfl) (by kernel_rfl) (fun _ _ _ h => h) (by rfl) (by intro w; first | rfl | simp [Oper.about]) ?_ hSw ?_
                rotate_left 1
                · intro W9 hW9
                  try dsimp only at hW9
                  obtain ⟨k0, k1, k2, k3⟩ := HMM.out W9 hW9
                  go_simp
                  try with_reducible rfl
                try simp only [List.setIfInBounds_toArray, List.set_cons_zero, List.set_cons_succ]
                refine wpAnyV_takeD (i := 3) (v := ?_) (by kernel_rfl) rfl rfl (by kernel_rfl) (by kernel_rfl) (by kernel_rfl) (by kernel_rfl) (fun _ _ _ h => h) (by rfl) (by intro w; first | rfl | simp [Oper.about]) ?_ hSw ?_
                rotate_left 1
                · intro W9 hW9
                  try dsimp only at hW9
                  obtain ⟨k0, k1, k2, k3⟩ := HMM.out W9 hW9
                  go_simp
                  try with_reducible rfl
                try simp only [List.setIfInBounds_toArray, List.set_cons_zero, List.set_cons_succ]
                refine wpAnyV_takeD (i := 4) (v := ?_) (by kernel_rfl) rfl rfl (by kernel_rfl) (by kernel_rfl) (by kernel_rfl) (by kernel_rfl) (fun _ _ _ h => h) (by rfl) (by intro w; first | rfl | simp [Oper.about]) ?_ hSw ?_
                rotate_left 1
                · intro W9 hW9
                  try dsimp only at hW9
                  obtain ⟨k0, k1, k2, k3⟩ := HMM.out W9 hW9
                  go_simp
                  try with_reducible rfl
                try simp only [List.setIfInBounds_toArray, List.set_cons_zero, List.set_cons_succ]
                refine wpAnyV_takeD (i := 5) (v := ?_) (by kernel_rfl) rfl rfl (by kernel_rfl) (by kernel_rfl) (by kernel_rfl) (by kernel_rfl) (fun _ _ _ h => h) (by rfl) (by intro w; first | rfl | simp [Oper.about]) ?_ hSw ?_
                rotate_left 1
                · intro W9 hW9
                  try dsimp only at hW9
                  obtain ⟨k0, k1, k2, k3⟩ := HMM.out W9 hW9
                  go_simp
                  try with_reducible rfl
                try simp only [List.setIfInBounds_toArray, List.set_cons_zero, List.set_cons_succ]
                refine wpAnyV_takeD (i := 6) (v := ?_) (by kernel_rfl) rfl rfl (by kernel_rfl) (by kernel_rfl) (by kernel_rfl) (by kernel_rfl) (fun _ _ _ h => h) (by rfl) (by intro w; first | rfl | simp [Oper.about]) ?_ hSw ?_
                rotate_left 1
                · intro W9 hW9
                  try dsimp only at hW9
                  obtain ⟨k0, k1, k2, k3⟩ := HMM.out W9 hW9
                  go_simp
                  try with_reducible rfl
                try simp only [List.setIfInBounds_toArray, List.set_cons_zero, List.set_cons_succ]
                refine wpAnyV_takeD (i := 7) (v := ?_) (by kernel_rfl) rfl rfl (by kernel_rfl) (by kernel_rfl) (by kernel_rfl) (by kernel_rfl) (fun _ _ _ h => h) (by rfl) (by intro w; first | rfl | simp [Oper.about]) ?_ hSw ?_
                rotate_left 1
                · intro W9 hW9
                  try dsimp only at hW9
                  obtain ⟨k0, k1, k2, k3⟩ := HMM.out W9 hW9
                  go_simp
                  try with_reducible rfl
                try simp only [List.setIfInBounds_toArray, List.set_cons_zero, List.set_cons_succ]
                refine wpAnyV_two (i := 8) (j := 10) (by kernel_rfl) rfl rfl rfl rfl (fun K hK => ?_) (fun K hK => ?_)
                · gi_wp2_with fail
                  refine ⟨trivial, fun _ => by omega, CallsIn.mono (callsIn_wide.2 (HCL.out _ hSw)) ?_⟩
                  rintro e w8 ⟨VC, vcc, rfl, cc1, cc2, cc3, hb8⟩
                  have hb78 : Below n7 w7 w8 := hSw.trans (hb8.mono (by show n7 ≤ w7.heap.size; omega))
                  have hz8 : n7 ≤ w8.heap.size := by have := hb78.size; omega
                  refine hK.out _ _ (fun _ => hb78) ?_
                  clear hK K
                  try simp only [List.setIfInBounds_toArray, List.set_cons_zero, List.set_cons_succ]
                  have CC3 := Lib.hid cc3
                  clear cc3 hSw
                  have hSw := hb78
                  refine wpAnyV_takeD (i := 9) (v := ?_) (by kernel_rfl) rfl rfl (by kernel_rfl) (by kernel_rfl) (by kernel_rfl) (by kernel_rfl) (fun _ _ _ h => h) (by rfl) (by intro w; first | rfl | simp [Oper.about]) ?_ hSw ?_
                  rotate_left 1
                  · intro W9 hW9
                    try dsimp only at hW9
                    obtain ⟨k0, k1, k2, k3⟩ := HMM.out W9 hW9
                    go_simp
                    try with_reducible rfl
                  try simp only [List.setIfInBounds_toArray, List.set_cons_zero, List.set_cons_succ]
                  have hb79 : Below n7 w7 (w8.alloc (.cells #[.int .i64 0, .int .i64 0, .int .i64 0, .int .i64 0, .int .i64 0, .int .i64 0, .slice none 0 0, .slice none 0 0] 45)) := hb78.alloc hz8 _
                  refine wpAnyV_op (i := 10) (by kernel_rfl) rfl rfl (fun K hK => ?_)
                  go_simp
                  refine hK.out _ _ (fun _ => hb79) ?_
                  clear hK K
                  try simp only [List.setIfInBounds_toArray, List.set_cons_zero, List.set_cons_succ]
                  have hrz := heap_alloc_new w8 (.cells #[.int .i64 0, .int .i64 0, .int .i64 0, .int .i64 0, .int .i64 0, .int .i64 0, .slice none 0 0, .slice none 0 0] 45)
                  have hsz9 : (w8.alloc (.cells #[.int .i64 0, .int .i64 0, .int .i64 0, .int .i64 0, .int .i64 0, .int .i64 0, .slice none 0 0, .slice none 0 0] 45)).heap.size = w8.heap.size + 1 := by simp
                  have hc9 : Hid (SlAt encInt (w8.alloc (.cells #[.int .i64 0, .int .i64 0, .int .i64 0, .int .i64 0, .int .i64 0, .int .i64 0, .slice none 0 0, .slice none 0 0] 45)) (fun g => Nw n7 (w8.heap.size + 1) g ∧ g ≠ w8.heap.size) VC vals) := (CC3.out.blk (fun g hg => Below.heap_alloc _ _ _ hg.2)).more (fun g hg => ⟨⟨by have := hg.1; have h9 : w7.drew.heap.size = w7.heap.size := rfl; omega, by have := hg.2; omega⟩, by have := hg.2; omega⟩)
                  obtain ⟨n10, hn10⟩ : ∃ n10, w8.heap.size = n10 := ⟨_, rfl⟩
                  rw [hn10] at hrz hsz9 hc9 hz8
                  try rw [hn10]
                  generalize w8.alloc (.cells #[.int .i64 0, .int .i64 0, .int .i64 0, .int .i64 0, .int .i64 0, .int .i64 0, .slice none 0 0, .slice none 0 0] 45) = w9 at hrz hsz9 hc9 hb79 ⊢
                  obtain ⟨z0, z1, z2, z3, z4, z5, z6, z7, zf⟩ := blk8 hrz
                  refine wpAnyV_op (i := 11) (by kernel_rfl) rfl rfl (fun K hK => ?_)
                  go_simp
                  have hb10 := set8_below hb79 hz8 (.int .i64 14) (.int .i64 tt) (.int .i64 fr) (.int .i64 (k : Int)) (.int .i64 0) (.int .i64 0) (.slice VC vals.length vcc) (.slice none 0 0)
                  refine hK.out _ _ (fun _ => hb10) ?_
                  clear hK K
                  refine wpAnyV_done (by kernel_rfl) ?_ _
                  have hr10 := Lib.hid (set8_row hrz (.int .i64 14) (.int .i64 tt) (.int .i64 fr) (.int .i64 (k : Int)) (.int .i64 0) (.int .i64 0) (.slice VC vals.length vcc) (.slice none 0 0))
                  have ho10 : Hid (∀ g, g ≠ n10 → (set8 w9 n10 (.int .i64 14) (.int .i64 tt) (.int .i64 fr) (.int .i64 (k : Int)) (.int .i64 0) (.int .i64 0) (.slice VC vals.length vcc) (.slice none 0 0)).heap[g]? = w9.heap[g]?) := fun g hg => set8_other hg _ _ _ _ _ _ _ _
                  have hs10 : Hid ((set8 w9 n10 (.int .i64 14) (.int .i64 tt) (.int .i64 fr) (.int .i64 (k : Int)) (.int .i64 0) (.int .i64 0) (.slice VC vals.length vcc) (.slice none 0 0)).heap.size = w9.heap.size) := set8_sz
                  have hB10 := Lib.hid hb10
                  change Exit.then _ _ _ _ (set8 w9 n10 (.int .i64 14) (.int .i64 tt) (.int .i64 fr) (.int .i64 (k : Int)) (.int .i64 0) (.int .i64 0) (.slice VC vals.length vcc) (.slice none 0 0))
                  clear z0 z1 z2 z3 z4 z5 z6 z7 zf hb10
                  generalize set8 w9 n10 (.int .i64 14) (.int .i64 tt) (.int .i64 fr) (.int .i64 (k : Int)) (.int .i64 0) (.int .i64 0) (.slice VC vals.length vcc) (.slice none 0 0) = wA at hr10 ho10 hs10 hB10 ⊢
                  gi_wp2
                  gi_meet
                  exact ⟨n10, VC, vcc, rfl, hz8, hr10.out, cc1, cc2, (hc9.out.blk (fun g hg => ho10.out g hg.2)).more (fun g hg => ⟨(by rw [hs10.out, hsz9]; exact hg.1), hg.2⟩), hB10.out⟩
                · have hb79 : Below n7 w7 (w7.alloc (.cells #[.int .i64 0, .int .i64 0, .int .i64 0, .int .i64 0, .int .i64 0, .int .i64 0, .slice none 0 0, .slice none 0 0] 45)).drew := by
                    rw [← hn7]; exact (ext_alloc (Below.refl _ _)).drew
                  have hrz : (w7.alloc (.cells #[.int .i64 0, .int .i64 0, .int .i64 0, .int .i64 0, .int .i64 0, .int .i64 0, .slice none 0 0, .slice none 0 0] 45)).drew.heap[w7.heap.size]? = _ := heap_alloc_new w7 (.cells #[.int .i64 0, .int .i64 0, .int .i64 0, .int .i64 0, .int .i64 0, .int .i64 0, .slice none 0 0, .slice none 0 0] 45)
                  have hsz9 : (w7.alloc (.cells #[.int .i64 0, .int .i64 0, .int .i64 0, .int .i64 0, .int .i64 0, .int .i64 0, .slice none 0 0, .slice none 0 0] 45)).drew.heap.size = n7 + 1 := by show (w7.alloc _).heap.size = _; simp; omega
                  go_simp
                  refine hK.out _ _ (fun _ => hb79) ?_
                  clear hK K
                  try simp only [List.setIfInBounds_toArray, List.set_cons_zero, List.set_cons_succ]
                  rw [hn7] at hrz
                  try rw [hn7]
                  generalize (w7.alloc (.cells #[.int .i64 0, .int .i64 0, .int .i64 0, .int .i64 0, .int .i64 0, .int .i64 0, .slice none 0 0, .slice none 0 0] 45)).drew = wq at hrz hsz9 hb79 ⊢
                  refine wpAnyV_op (i := 8) (by kernel_rfl) rfl rfl (fun K hK => ?_)
                  gi_wp2_with fail
                  refine ⟨trivial, fun _ => by omega, CallsIn.mono (callsIn_wide.2 (HCL.out _ hb79)) ?_⟩
                  rintro e w9 ⟨VC, vcc, rfl, cc1, cc2, cc3, hb8⟩
                  have hb99 : Below n7 w7 w9 := hb79.trans (hb8.mono (by omega))
                  refine hK.out _ _ (fun _ => hb99) ?_
                  clear hK K
                  try simp only [List.setIfInBounds_toArray, List.set_cons_zero, List.set_cons_succ]
                  have hz99 := hb8.size
                  have hrz9 := (hb8.block n7 (by omega)).trans hrz
                  obtain ⟨sz, hsz⟩ : ∃ sz, w9.heap.size = sz := ⟨_, rfl⟩
                  have hc9 : Hid (SlAt encInt w9 (fun g => Nw n7 (w9.heap.size) g ∧ g ≠ n7) VC vals) := cc3.more (fun g hg => ⟨⟨by have := hg.1; omega, hg.2⟩, by have := hg.1; omega⟩)
                  clear cc3 hrz hsz9 hb79 hb8 hSw
                  have hb79 := hb99
                  have hrz := hrz9
                  have hsz9 : w9.heap.size = w9.heap.size := rfl
                  have hz8 : n7 ≤ n7 := Nat.le_refl _
                  refine wpAnyV_op (i := 9) (by kernel_rfl) rfl rfl (fun K hK => ?_)
                  go_simp
                  refine hK.out _ _ (fun _ => hb99) ?_
                  clear hK K
                  try simp only [List.setIfInBounds_toArray, List.set_cons_zero, List.set_cons_succ]
                  obtain ⟨z0, z1, z2, z3, z4, z5, z6, z7, zf⟩ := blk8 hrz
                  refine wpAnyV_op (i := 11) (by kernel_rfl) rfl rfl (fun K hK => ?_)
                  go_simp
                  have hb10 := set8_below hb79 hz8 (.int .i64 14) (.int .i64 tt) (.int .i64 fr) (.int .i64 (k : Int)) (.int .i64 0) (.int .i64 0) (.slice VC vals.length vcc) (.slice none 0 0)
                  refine hK.out _ _ (fun _ => hb10) ?_
                  clear hK K
                  refine wpAnyV_done (by kernel_rfl) ?_ _
                  have hr10 := Lib.hid (set8_row hrz (.int .i64 14) (.int .i64 tt) (.int .i64 fr) (.int .i64 (k : Int)) (.int .i64 0) (.int .i64 0) (.slice VC vals.length vcc) (.slice none 0 0))
                  have ho10 : Hid (∀ g, g ≠ n7 → (set8 w9 n7 (.int .i64 14) (.int .i64 tt) (.int .i64 fr) (.int .i64 (k : Int)) (.int .i64 0) (.int .i64 0) (.slice VC vals.length vcc) (.slice none 0 0)).heap[g]? = w9.heap[g]?) := fun g hg => set8_other hg _ _ _ _ _ _ _ _
                  have hs10 : Hid ((set8 w9 n7 (.int .i64 14) (.int .i64 tt) (.int .i64 fr) (.int .i64 (k : Int)) (.int .i64 0) (.int .i64 0) (.slice VC vals.length vcc) (.slice none 0 0)).heap.size = w9.heap.size) := set8_sz
                  have hB10 := Lib.hid hb10
                  change Exit.then _ _ _ _ (set8 w9 n7 (.int .i64 14) (.int .i64 tt) (.int .i64 fr) (.int .i64 (k : Int)) (.int .i64 0) (.int .i64 0) (.slice VC vals.length vcc) (.slice none 0 0))
                  clear z0 z1 z2 z3 z4 z5 z6 z7 zf hb10
                  generalize set8 w9 n7 (.int .i64 14) (.int .i64 tt) (.int .i64 fr) (.int .i64 (k : Int)) (.int .i64 0) (.int .i64 0) (.slice VC vals.length vcc) (.slice none 0 0) = wA at hr10 ho10 hs10 hB10 ⊢
                  gi_wp2
                  gi_meet
                  exact ⟨n7, VC, vcc, rfl, hz8, hr10.out, cc1, cc2, (hc9.out.blk (fun g hg => ho10.out g hg.2)).more (fun g hg => ⟨(by rw [hs10.out]; exact hg.1), hg.2⟩), hB10.out⟩
              case rest =>
                obtain ⟨n10, VC, vcc, rfl, hn10, hr10, cc1, cc2, cc3, hb10⟩ := hcut
                have hb06c : Below (nl + 1) W6 wc := (by rw [← hs6]; exact hb7 : Below (nl + 1) W6 w7).trans (hb10.mono hn67)
                have hb0c : Below n2 W0 wc := hb07.trans (hb10.mono (by omega))
                obtain ⟨nx, hnx⟩ : ∃ nx, wc.heap.size = nx := ⟨_, rfl⟩
                have hn10x : n10 < nx := by rw [← hnx]; exact (Array.getElem?_eq_some_iff.1 hr10).1
                obtain ⟨W8, hW8⟩ : ∃ W8, wc.alloc (.cells #[.slice Q9 es.length qc] 25) = W8 := ⟨_, rfl⟩
                have hb8 : Below nx wc W8 := by rw [← hW8, ← hnx]; exact ext_alloc (Below.refl _ _)
                have hs8 : W8.heap.size = nx + 1 := by rw [← hW8, ← hnx]; simp
                have hc8 : W8.cell? ⟨nx, 0, none⟩ = some (.slice Q9 es.length qc) := by rw [← hW8, ← hnx]; exact cell_of_row _ _ 0 _ _ _ (heap_alloc_new _ _)
                have hex : ∀ e ∈ es, 0 ≤ e.1 ∧ 0 < e.2 ∧ e.1 + e.2 ≤ (lev.length : Int) ∧ (lev.length : Int) ≤ 4096 := fun e he => by
                  have h := HR2.out
                  unfold extE at h
                  split at h
                  · omega
                  · have := (exE_mem h).1 e he; omega
                have hexm : ∀ i ∈ numsL es, i < lev.length := fun i hi => by
                  unfold numsL at hi
                  obtain ⟨e, he, hi⟩ := List.mem_flatMap.1 hi
                  obtain ⟨j, hj, rfl⟩ := List.mem_map.1 hi
                  have := hex e he
                  have := List.mem_range.1 hj
                  omega
                have hEX8 : SlAt encExt W8 (Nw (nb + 3) nl) Q9 es := (HEX6.out.blk (fun g hg => (hb8.block g (by have := hg.2; omega)).trans (hb06c.block g (by have := hg.2; omega))))
                have HST2 := Lib.hid (numbers_stops (nn - 1) (by omega) nx qc (fun g => (g < nx ∧ g ≠ n10) ∨ g = nx) Q9 es hesl (fun e he => by have := hex e he; omega) W8 (fun g hg => by rcases hg with hg | hg <;> omega) (Or.inr rfl) hc8 (hEX8.more (fun g hg => Or.inl ⟨by have := hg.2; omega, by have := hg.2; omega⟩)))
                have hbx9 := (hb06c.block nb (by omega)).trans hbx6
                have q9 := cell_of_row wc nb 0 _ _ _ hbx9
                have hKc := (hb06c.block D (by omega)).trans HHK6.out
                have hblc := (hb06c.block nl (by omega)).trans HBL6.out
                have hlen8 : (numsL es).length ≤ 4096 := nums_canon HR2.out
                have hll : lev.length ≤ 100000000 := by
                  have h := HR2.out
                  unfold extE at h
                  split at h <;> omega
                have HXM := Lib.hid hexm
                have hlow : ∀ g, g < nx + 1 → g ≠ nx → W8.heap[g]? = wc.heap[g]? := fun g h1 h2 => hb8.block g (by omega)
                have HB8 := Lib.hid hb8
                have HSZ8 := Lib.hid hs8
                have HST0 : Hid (AnI n10 nx tt fr (k : Int) VC vals.length vcc lev W8 (([] : List (NumOf es)).map (·.1)) W8) :=
                  ⟨none, 0, (hb8.block n10 (by omega)).trans hr10, Own.nil_, fun _ _ _ => rfl, Below.refl _ _, by omega⟩
                have HDA : Hid (∀ W, Below n10 W8 W → SlAt encU64 W (Bl n0) D9 lev) := fun W hb => HDL.out.blk (fun g hg => (hb.block g (by have : g < n0 := hg; omega)).trans ((hb8.block g (by have : g < n0 := hg; omega)).trans ((hb06c.block g (by have : g < n0 := hg; omega)).trans (hb6.block g (by have : g < n0 := hg; omega)))))
                have hbl8 := (hb8.block nl (by omega)).trans hblc
                have hbc8 := (hb8.block n10 (by omega)).trans hr10
                have HVCA : Hid (SlAt encInt W8 (fun g => g < nx ∧ g ≠ n10 ∧ n7 ≤ g) VC vals) := (cc3.blk (fun g hg => hb8.block g (by have := hg.1.2; omega))).more (fun g hg => ⟨by have := hg.1.2; omega, hg.2, hg.1.1⟩)
                have HK8 := Lib.hid ((hb8.block D (by omega)).trans hKc)
                have HBL8 := Lib.hid hbl8
                have HR10 := Lib.hid hbc8
                clear hex hexm hEX8 hc8 hs8 hlow cc3 hbl8 hbc8 hKc hblc hbx9 hr10
                gi_wp2_with fail
                refine ⟨trivial, fun _ => by omega, CallsIn.mono (callsIn_wide.2 (numbers_any Q9 es.length qc _)) ?_⟩
                rintro e w1' ⟨rfl, rfl⟩
                rw [hnx]
                gi_wp2_with fail
                clear hW8 q9
                refine wpIn_rangeFunc_own1 (own := fun _ => False) (v := fun x : NumOf es => .int .i64 (x.1 : Int)) rfl (by omega) (gf := 74) (lb := #[.pointer (some ⟨nx, 0, none⟩)]) rfl trivial (enters_of Try.func74 (by kernel_rfl) rfl) HST2.out KpN.trans (KpN.refl _)
                  (fun W l' o o' hl h ho _ => ⟨fun g hg => World.putObj_heap_other (by rw [HSZ8.out] at hl; rcases hg with hg | hg <;> omega), by simp, fun i cs fr hi => World.putObj_heap_other (fun e => by subst e; rw [h] at hi; cases hi; cases ho)⟩) (Below.refl _ _) (by simp)
                  (fun pre W => AnI n10 nx tt fr (k : Int) VC vals.length vcc lev W8 (pre.map (·.1)) W)
                  ?own2 HST0.out ?body2 ?done2
                case own2 => rw [HSZ8.out]; exact anI_own hn10x
                case body2 =>
                  rintro y pre ⟨x, hx⟩ W _ _ hdf hlen
                  obtain ⟨np, hnp⟩ : ∃ np, pre.map (·.1) = np := ⟨_, rfl⟩
                  have hnl : pre.length = np.length := by rw [← hnp]; simp
                  rw [hnp] at hdf
                  rw [hnl] at hlen
                  obtain ⟨B, bc', hr, hown, hlow, hB, hsz⟩ := hdf
                  have hxl := HXM.out x hx
                  have hDA := HDA.out W hB
                  obtain ⟨gD, oD, rfl, hgD, cD, hd0, hd64⟩ := hDA.u64 hxl
                  have hgx : lev.getD x 0 = lev[x] := by rw [List.getD_eq_getElem?_getD, List.getElem?_eq_getElem hxl]; rfl
                  obtain ⟨d, hd⟩ : ∃ d, lev[x] = d := ⟨_, rfl⟩
                  rw [hd] at cD hd0 hd64 hgx
                  have HBS := Lib.hid (bodyOf_snoc lev np x)
                  rw [hgx] at HBS
                  have hbl9 := bodyOf_len lev np
                  obtain ⟨bn9, hbn9⟩ : ∃ bn9, (bodyOf lev np).length = bn9 := ⟨_, rfl⟩
                  rw [hbn9] at hr hown hbl9
                  have HBN := Lib.hid hbn9
                  have hbn9' : bn9 ≤ 100000 := by omega
                  clear hbl9
                  have HD64 := Lib.hid (And.intro hd0 hd64)
                  have hgD' : gD < n0 := hgD
                  have hblW : W.heap[nl]? = some (.cells #[.slice (some ⟨gD, oD, none⟩) lev.length d9] 72 (0, 0)) := (hlow nl (by omega) (by omega)).trans HBL8.out
                  have HC : Hid (∀ W', Below (nx + 1) W W' → W'.cell? ⟨n10, 7, none⟩ = some (.slice B bn9 bc') ∧ W'.cell? ⟨nl, 0, none⟩ = some (.slice (some ⟨gD, oD, none⟩) lev.length d9) ∧ W'.cell? ⟨gD, oD + x, none⟩ = some (.int .u64 d)) := fun W' hb =>
                    ⟨cell_of_row W' n10 7 _ _ _ ((hb.block n10 (by omega)).trans hr), cell_of_row W' nl 0 _ _ _ ((hb.block nl (by omega)).trans hblW), (hb.cell (p := ⟨gD, oD + x, none⟩) (by show gD < nx + 1; omega)).trans cD⟩
                  have hxI : (x : Int) < lev.length := by omega
                  have hx0 : (0 : Int) ≤ x := by omega
                  have hSw : Below (nx + 1) W W.drew := (Below.refl _ _).drew
                  have HR := Lib.hid hr; have HO := Lib.hid hown; have HLOW := Lib.hid hlow; have HB9 := Lib.hid hB; have HNP := Lib.hid hnp
                  clear hr hown hlow hB hnp hnl hd0 hd64 hgx hd cD hbn9 hblW hDA
                  simp only [List.setIfInBounds_toArray, List.set_cons_zero, List.set_cons_succ]
                  gi_wp2_with fail
                  refine wpIn_region_V (fun W' => Below (nx + 1) W W') 9 hmx ?_
                  refine wpAnyV_takeD (i := 0) (v := ?_) (by kernel_rfl) rfl rfl (by kernel_rfl) (by kernel_rfl) (by kernel_rfl) (by kernel_rfl) (fun _ _ _ h => h) (by rfl) (by intro w; first | rfl | simp [Oper.about]) ?_ hSw ?_
                  rotate_left 1
                  · intro W9 hW9
                    try dsimp only at hW9
                    obtain ⟨k0, k1, k2⟩ := HC.out W9 hW9
                    go_simp
                    try with_reducible rfl
                  try simp only [List.setIfInBounds_toArray, List.set_cons_zero, List.set_cons_succ]
                  refine wpAnyV_takeD (i := 1) (v := ?_) (by kernel_rfl) rfl rfl (by kernel_rfl) (by kernel_rfl) (by kernel_rfl) (by kernel_rfl) (fun _ _ _ h => h) (by rfl) (by intro w; first | rfl | simp [Oper.about]) ?_ hSw ?_
                  rotate_left 1
                  · intro W9 hW9
                    try dsimp only at hW9
                    obtain ⟨k0, k1, k2⟩ := HC.out W9 hW9
                    go_simp
                    try with_reducible rfl
                  try simp only [List.setIfInBounds_toArray, List.set_cons_zero, List.set_cons_succ]
                  refine wpAnyV_takeD (i := 2) (v := ?_) (by kernel_rfl) rfl rfl (by kernel_rfl) (by kernel_rfl) (by kernel_rfl) (by kernel_rfl) (fun _ _ _ h => h) (by rfl) (by intro w; first | rfl | simp [Oper.about]) ?_ hSw ?_
                  rotate_left 1
                  · intro W9 hW9
                    try dsimp only at hW9
                    obtain ⟨k0, k1, k2⟩ := HC.out W9 hW9
                    go_simp
                    try with_reducible rfl
                  try simp only [List.setIfInBounds_toArray, List.set_cons_zero, List.set_cons_succ]
                  refine wpAnyV_op (i := 3) (by kernel_rfl) rfl rfl (fun K hK => ?_)
                  go_simp
                  refine hK.out _ _ (fun _ => hSw) ?_
                  clear hK K
                  try simp only [List.setIfInBounds_toArray, List.set_cons_zero, List.set_cons_succ]
                  refine wpAnyV_op (i := 4) (by kernel_rfl) rfl rfl (fun K hK => ?_)
                  go_simp
                  refine hK.out _ _ (fun _ => hSw) ?_
                  clear hK K
                  try simp only [List.setIfInBounds_toArray, List.set_cons_zero, List.set_cons_succ]
                  obtain ⟨k0, k1, k2⟩ := HC.out _ hSw
                  refine wpAnyV_op (i := 5) (by kernel_rfl) rfl rfl (fun K hK => ?_)
                  go_simp
                  refine hK.out _ _ (fun _ => hSw) ?_
                  clear hK K
                  try simp only [List.setIfInBounds_toArray, List.set_cons_zero, List.set_cons_succ]
                  clear k0 k1 k2
                  refine wpAnyV_op (i := 6) (by kernel_rfl) rfl rfl (fun K hK => ?_)
                  gi_wp2_with fail
                  refine ⟨trivial, fun _ => by omega, CallsIn.mono (CallsIn.inRound y (callsIn_wide.2 (put8_any d _ HD64.out))) ?_⟩
                  rintro e wp ⟨A8, c8, rfl, h81, h82, h83, hb8p⟩; have hSp : Below (nx + 1) W wp := hSw.trans (hb8p.mono (by show nx + 1 ≤ W.heap.size; omega))
                  refine hK.out _ _ (fun _ => hSp) ?_
                  clear hK K
                  try simp only [List.setIfInBounds_toArray, List.set_cons_zero, List.set_cons_succ]
                  have hzp := hSp.size
                  have hlo9 := HO.out.lt
                  have HO8 : Hid (Own encU8 wp (nx + 1) 5 (fun g => Nw W.heap.size wp.heap.size g) (.slice B bn9 bc') (bodyOf lev np)) := Own.more (HO.out.below (w' := wp) ((Below.refl W.heap.size W).drew.trans hb8p) (fun _ h => h.elim)) (fun _ h => h.elim) (fun g e h => by have := (hlo9 g e).2; have := h.1; omega)
                  refine wpAnyV_one (i := 7) (by kernel_rfl) rfl (fun K hK => ?_)
                  refine stepIn_appAll (E := encU8) (base := nx + 1) (S := fun g => Nw W.heap.size wp.heap.size g) (v := .slice B bn9 bc') (l := bodyOf lev np) (ad := A8) (c := c8) (m := 8) (news := le8 d) tyU8s rfl _ _ rfl rfl HO8.out rfl (by simp [le8] : 8 = (le8 d).length) (h83.more (fun g hg => ⟨by have := hg.1; have h9 : W.drew.heap.size = W.heap.size := rfl; omega, hg.2⟩)) (fun _ h => h.2) (by omega) (by rw [HBN.out]; unfold maxLen; omega) (by rw [HBN.out]; omega) ?_
                  intro A' c5 w5 hown5 hg5 hat5
                  rw [HBN.out] at hown5 hat5 ⊢
                  have hS5 : Below (nx + 1) W w5 := hSp.grown hg5 (by omega) (fun g h => (hlo9 g h).1)
                  refine hK.out _ _ (fun _ => hS5) ?_
                  clear hK K
                  simp only [Act.put, List.setIfInBounds_toArray, List.set_cons_zero, List.set_cons_succ]
                  have hlt5 := hown5.lt
                  have hr5 := (hS5.block n10 (by omega)).trans HR.out
                  have HOF := Lib.hid (Own.flat hown5 (fun h => h))
                  have HG5 := Lib.hid hg5
                  clear hown5 hg5 hat5 h83
                  refine wpAnyV_op (i := 8) (by kernel_rfl) rfl rfl (fun K hK => ?_)
                  go_simp
                  refine hK.out _ _ (fun _ => hS5) ?_
                  clear hK K
                  try simp only [List.setIfInBounds_toArray, List.set_cons_zero, List.set_cons_succ]
                  obtain ⟨z0, z1, z2, z3, z4, z5, z6, z7, zf⟩ := blk8 hr5
                  refine wpAnyV_op (i := 9) (by kernel_rfl) rfl rfl (fun K hK => ?_)
                  go_simp
                  refine hK.out _ _ (fun h => absurd rfl h) ?_
                  clear hK K
                  refine wpAnyV_done (by kernel_rfl) ?_ _
                  have hlen9 : (bodyOf lev (np ++ [x])).length = bn9 + 8 := by rw [HBS.out, List.length_append, HBN.out]; simp [le8]
                  have hz5 := hS5.size
                  have ho6 : ∀ g, g ≠ n10 → (w5.setCell ⟨n10, 7, none⟩ (.slice A' (bn9 + 8) c5)).heap[g]? = w5.heap[g]? := fun g hg => heap_setCell_other _ ⟨n10, 7, none⟩ g _ hg
                  have hr6 : (w5.setCell ⟨n10, 7, none⟩ (.slice A' (bn9 + 8) c5)).heap[n10]? = some (.cells #[.int .i64 14, .int .i64 tt, .int .i64 fr, .int .i64 (k : Int), .int .i64 0, .int .i64 0, .slice VC vals.length vcc, .slice A' (bn9 + 8) c5] 45 (0, 0)) := by
                    simp [World.setCell, Array.getElem?_modify, hr5]
                  have hz6 : (w5.setCell ⟨n10, 7, none⟩ (.slice A' (bn9 + 8) c5)).heap.size = w5.heap.size := by simp [World.setCell]
                  have han : AnI n10 nx tt fr (k : Int) VC vals.length vcc lev W8 (np ++ [x]) (w5.setCell ⟨n10, 7, none⟩ (.slice A' (bn9 + 8) c5)) := by
                    refine ⟨A', c5, ?_, ?_, fun g h1 h2 => (ho6 g h2).trans ((hS5.block g h1).trans (HLOW.out g h1 h2)), (HB9.out.trans (hS5.mono (by omega))).setCell (p := ⟨n10, 7, none⟩) (Nat.le_refl _) _, by rw [hz6]; omega⟩
                    · rw [hlen9]; exact hr6
                    · rw [hlen9, HBS.out]
                      refine HOF.out.blk (fun g hg => ?_)
                      rcases hg with hg | hg
                      · exact hg.elim
                      · exact ho6 g (by have := (hlt5 g hg).1; omega)
                  have hkn : KpN (fun g => g < nx ∧ g ≠ n10 ∨ g = nx) W (w5.setCell ⟨n10, 7, none⟩ (.slice A' (bn9 + 8) c5)) := by
                    refine ⟨fun g hg => (ho6 g (by rcases hg with hg | hg <;> omega)).trans (hS5.block g (by rcases hg with hg | hg <;> omega)), by rw [hz6]; omega, fun i cs fr' hi => ?_⟩
                    have e1 : i ≠ n10 := fun e => by subst e; rw [HR.out] at hi; injection hi with hi; injection hi with _ hi; exact absurd hi (by decide)
                    refine (ho6 i e1).trans ((HG5.out.block i (by have := (Array.getElem?_eq_some_iff.1 hi).1; omega) (fun e => ?_)).trans ((hb8p.block i (Array.getElem?_eq_some_iff.1 hi).1)))
                    obtain ⟨_, cs', fr2, h4⟩ := HO.out.cellsOf i e.symm
                    rw [hi] at h4; injection h4 with h4; injection h4 with _ h4; exact absurd h4 (by decide)
                  have hkf : KeepsFrom W8.heap.size W (w5.setCell ⟨n10, 7, none⟩ (.slice A' (bn9 + 8) c5)) := by
                    refine ((KeepsOthers.of_grownBy (HG5.out) (fun j o ej hj => ?_)).trans (KeepsOthers.setCell _ _ _)).from _ |> fun h => ((below_others (show Below W.heap.size W wp from (Below.refl W.heap.size W).drew.trans hb8p)).from _).trans h
                    obtain ⟨_, cs', fr2, h4⟩ := HO.out.cellsOf j ej
                    have hj2 : j < W.heap.size := (Array.getElem?_eq_some_iff.1 h4).1
                    rw [((Below.refl W.heap.size W).drew.trans hb8p).block j hj2, h4] at hj; cases hj; rfl
                  have HALL := Lib.hid (And.intro hkf (And.intro hkn han))
                  clear hkf hkn han hr6 ho6 hz6 hlen9 z0 z1 z2 z3 z4 z5 z6 z7 zf hr5
                  gi_wp2
                  have hall := HALL.out
                  simp only [ownPostG, List.unattach, List.map_append, List.map_cons, List.map_nil, HNP.out]
                  exact hall
                case done2 =>
                  rintro D2 zs W hD2 hS2 hdf hK2
                  have hDne : D ≠ n10 := fun e => by have h1 := HK8.out; rw [e, HR10.out] at h1; cases h1
                  rw [hS2] at hdf
                  obtain ⟨B, bc', hr, hown, hlow, hB8, hsz⟩ := hdf
                  have hKD : W.heap[D]? = some (.deferred (some [])) := (hlow D (by omega) hDne).trans HK8.out
                  have hlowN : Hid (∀ g, g < nx → g ≠ n10 → W.heap[g]? = wc.heap[g]?) := fun g h1 h2 => (hlow g (by omega) h2).trans (HB8.out.block g h1)
                  have hrow : W.heap[n0 + 1 + 1]? = _ := (hlowN.out (n0 + 1 + 1) (by omega) (by omega)).trans (HR.out wc hb0c)
                  have HROW := Lib.hid hrow
                  have hw9 : OwnW encU8 W (nx + 1) (nx + 1) 5 (.slice B (bodyOf lev (numsL es)).length bc') (bodyOf lev (numsL es)) := Own.more hown (fun _ h => h.elim) (fun g e h => h.2 e)
                  obtain ⟨_, f1, f2, f3⟩ := hw9.parts
                  have hBW : Hid (Below w.heap.size w W) := by
                    rw [Hid, HN0.out]
                    exact HB0.out.trans ((hb0c.trans (HB8.out.mono (by omega))).mono (by omega) |>.trans (hB8.mono (by omega)))
                  have hE0 : ansE (y0, y1, l) (13, fr, tt, (k : Int), val, ep, vals, body) = 0 := HE3.out 0 (by rw [if_neg (by simp)])
                  have hAV : Hid (ansV (y0, y1, l) (13, fr, tt, (k : Int), val, ep, vals, body) = (14, tt, fr, (k : Int), 0, 0, vals, bodyOf lev (numsL es))) := by
                    rw [Hid, ansV, if_neg (by rw [hE0]; simp)]
                    simp only
                    rw [HESV.out, hlevT.out]
                  have hE0' := Lib.hid hE0
                  have hMV : Hid (MsgVal W (fun g => w.heap.size ≤ g ∧ g < W.heap.size ∧ g ≠ n0 + 1 + 1) (14, tt, fr, (k : Int), 0, 0, vals, bodyOf lev (numsL es)) (.agg #[.int .i64 14, .int .i64 tt, .int .i64 fr, .int .i64 (k : Int), .int .i64 0, .int .i64 0, .slice VC vals.length vcc, .slice B (bodyOf lev (numsL es)).length bc'])) :=
                    ⟨VC, vcc, B, bc', rfl, ⟨i64_small 14 (by omega), hIm.2.1, hIm.1, hIm.2.2, i64_small 0 (by omega), i64_small 0 (by omega)⟩, ⟨cc1, cc2, (HVCA.out.blk (fun g hg => hlow g (by have := hg.1; omega) hg.2.1)).more (fun g hg => ⟨by have := hg.2.2; have := HN0.out; omega, by have := hg.1; omega, by have := hg.2.2; omega⟩)⟩, f1, f2, f3.more (fun g hg => ⟨by have := hg.1; have := HN0.out; omega, hg.2, by have := hg.1; omega⟩)⟩
                  obtain ⟨m0, m1, m2, m3, m4, m5, m6, m7, _⟩ := blk8 hr
                  obtain ⟨z0, z1, z2, z3, z4, z5, z6, z7, zf⟩ := blk8 hrow
                  have HK2 := Lib.hid hK2
                  have HKD := Lib.hid hKD
                  clear hr hown hlow hB8 hw9 f1 f2 f3 hE0 hrow hK2 hKD
                  gi_wp2_with fail
                  have hend := msg_end (w := w) HROW.out (by have := HN0.out; omega) hBW.out hMV.out 0
                  obtain ⟨hz, hret⟩ := hend
                  change bodyPostM _ _ _ _ _ _ _ (set8 W (n0 + 1 + 1) (.int .i64 14) (.int .i64 tt) (.int .i64 fr) (.int .i64 (k : Int)) (.int .i64 0) (.int .i64 0) (.slice VC vals.length vcc) (.slice B (bodyOf lev (numsL es)).length bc'))
                  have hD2l : nx + 1 ≤ D2 := by rw [← HSZ8.out]; exact hD2
                  have hKa := (set8_other (show D2 ≠ n0 + 1 + 1 by omega) (.int .i64 14) (.int .i64 tt) (.int .i64 fr) (.int .i64 (k : Int)) (.int .i64 0) (.int .i64 0) (.slice VC vals.length vcc) (.slice B (bodyOf lev (numsL es)).length bc')).trans HK2.out
                  have hKb := (set8_other (show D ≠ n0 + 1 + 1 by omega) (.int .i64 14) (.int .i64 tt) (.int .i64 fr) (.int .i64 (k : Int)) (.int .i64 0) (.int .i64 0) (.slice VC vals.length vcc) (.slice B (bodyOf lev (numsL es)).length bc')).trans HKD.out
                  generalize set8 W (n0 + 1 + 1) (.int .i64 14) (.int .i64 tt) (.int .i64 fr) (.int .i64 (k : Int)) (.int .i64 0) (.int .i64 0) (.slice VC vals.length vcc) (.slice B (bodyOf lev (numsL es)).length bc') = W3 at hz hret hKa hKb ⊢
                  have hKb2 : (W3.putObj D2 (.deferred none)).heap[D]? = some (.deferred (some [])) := (World.putObj_heap_other (by omega)).trans hKb
                  have hret2 := (hret.put hKa (by have := HN0.out; omega)).put hKb2 (by have := HN0.out; omega)
                  have hz2 := lkRes' (o' := .deferred none) hKb2 rfl (lkRes' (o' := .deferred none) hKa rfl hz)
                  obtain ⟨z0, z1, z2, z3, z4, z5, z6, z7, _⟩ := blk8 hz2
                  refine ⟨by simp, .inl ⟨_, _, rfl, run_takeDeferred hKa, ?_⟩⟩
                  refine ⟨by simp, .inl ⟨_, _, rfl, run_takeDeferred hKb2, ?_⟩⟩
                  refine ⟨.tuple #[.agg #[.int .i64 14, .int .i64 tt, .int .i64 fr, .int .i64 (k : Int), .int .i64 0, .int .i64 0, .slice VC vals.length vcc, .slice B (bodyOf lev (numsL es)).length bc'], .int .i64 0], ?_, ?_⟩
                  · simp [results, Try.results21, Try.f21, go_sem, z0, z1, z2, z3, z4, z5, z6, z7]
                  · rw [hAV.out, hE0'.out]
                    exact hret2
            · have HE : Hid (ansE (y0, y1, l) (13, fr, tt, (k : Int), val, ep, vals, body) = 3) := HE3.out 3 (by rw [if_pos h20])
              obtain ⟨z0, z1, z2, z3, z4, z5, z6, z7, zf⟩ := blk8 (HR.out w7 hb07)
              have hrow := Lib.hid (HR.out w7 hb07)
              have hBw := Lib.hid (show Below w.heap.size w w7 by rw [HN0.out]; exact HB0.out.trans (hb07.mono (by omega)))
              have hK7 := Lib.hid ((hb7.block D (by omega)).trans HHK6.out)
              gi_wp2_with fail
              rw [(HZ.out 3 (by decide) HE.out).1, ← (HZ.out 3 (by decide) HE.out).2]
              have hend := msg_end (w := w) (u0 := .int .i64 0) (u1 := .int .i64 0) (u2 := .int .i64 0) (u3 := .int .i64 0) (u4 := .int .i64 0) (u5 := .int .i64 0) (u6 := .slice none 0 0) (u7 := .slice none 0 0) hrow.out (by have := HN0.out; omega) hBw.out msgVal_zero 3
              obtain ⟨hz, hret⟩ := hend
              change bodyPostM _ _ _ _ _ _ _ (set8 w7 (n0 + 1 + 1) (.int .i64 0) (.int .i64 0) (.int .i64 0) (.int .i64 0) (.int .i64 0) (.int .i64 0) (.slice none 0 0) (.slice none 0 0))
              have hK8 := (set8_other (show D ≠ n0 + 1 + 1 by omega) (.int .i64 0) (.int .i64 0) (.int .i64 0) (.int .i64 0) (.int .i64 0) (.int .i64 0) (.slice none 0 0) (.slice none 0 0)).trans hK7.out
              generalize set8 w7 (n0 + 1 + 1) (.int .i64 0) (.int .i64 0) (.int .i64 0) (.int .i64 0) (.int .i64 0) (.int .i64 0) (.slice none 0 0) (.slice none 0 0) = W3 at hz hret hK8 ⊢
              have hret2 := hret.put hK8 (by have := HN0.out; omega)
              obtain ⟨z0, z1, z2, z3, z4, z5, z6, z7, _⟩ := blk8 (lkRes' (o' := .deferred none) hK8 rfl hz)
              refine ⟨by simp, .inl ⟨_, _, rfl, run_takeDeferred hK8, ?_⟩⟩
              refine ⟨.tuple #[.agg #[.int .i64 0, .int .i64 0, .int .i64 0, .int .i64 0, .int .i64 0, .int .i64 0, .slice none 0 0, .slice none 0 0], .int .i64 3], ?_, hret2⟩
              simp [results, Try.results21, Try.f21, go_sem, z0, z1, z2, z3, z4, z5, z6, z7]
        · have HE : Hid (ansE (s, lf, l) (13, fr, tt, num, val, ep, vals, body) = 22) := HE1.out 22 (by rw [if_pos (Or.inr h1)])
          have hne : (y1 != lf) = true := by simp [h1]
          have heq : (y0 != s) = false := by simp [h0]
          clear h0
          gi_wp2_with fail
          gi_quiet (fail)
          generalize hWq : w1.drewN _ = w2
          have hd2 : Drew w1 w2 := ⟨_, hWq.symm⟩
          have hb2 : Below n2 W0 w2 := hb1.trans (hd2.below _)
          clear hWq v0 v1 p0 p1 p2 m0 m1 m2 m3 m4 m5 m6 m7
          obtain ⟨z0, z1, z2, z3, z4, z5, z6, z7, zf⟩ := blk8 (HR.out w2 hb2)
          have hrow := Lib.hid (HR.out w2 hb2)
          have hBw := Lib.hid (show Below w.heap.size w w2 by rw [HN0.out]; exact HB0.out.trans (hb2.mono (by omega)))
          gi_wp2_with fail
          rw [(HZ.out 22 (by decide) HE.out).1, ← (HZ.out 22 (by decide) HE.out).2]
          have hend := msg_end (w := w) (u0 := .int .i64 0) (u1 := .int .i64 0) (u2 := .int .i64 0) (u3 := .int .i64 0) (u4 := .int .i64 0) (u5 := .int .i64 0) (u6 := .slice none 0 0) (u7 := .slice none 0 0) hrow.out (by have := HN0.out; omega) hBw.out msgVal_zero 22
          obtain ⟨hz, hret⟩ := hend
          change bodyPostM _ _ _ _ _ _ _ (set8 w2 (n0 + 1 + 1) (.int .i64 0) (.int .i64 0) (.int .i64 0) (.int .i64 0) (.int .i64 0) (.int .i64 0) (.slice none 0 0) (.slice none 0 0))
          generalize set8 w2 (n0 + 1 + 1) (.int .i64 0) (.int .i64 0) (.int .i64 0) (.int .i64 0) (.int .i64 0) (.int .i64 0) (.slice none 0 0) (.slice none 0 0) = W3 at hz hret ⊢
          obtain ⟨z0, z1, z2, z3, z4, z5, z6, z7, _⟩ := blk8 hz
          refine ⟨.tuple #[.agg #[.int .i64 0, .int .i64 0, .int .i64 0, .int .i64 0, .int .i64 0, .int .i64 0, .slice none 0 0, .slice none 0 0], .int .i64 22], ?_, hret⟩
          simp [results, Try.results21, Try.f21, go_sem, z0, z1, z2, z3, z4, z5, z6, z7]
      · have HE : Hid (ansE (s, lf, l) (13, fr, tt, num, val, ep, vals, body) = 22) := HE1.out 22 (by rw [if_pos (Or.inl h0)])
        have hne : (y0 != s) = true := by simp [h0]
        gi_wp2_with fail
        gi_quiet (fail)
        generalize hWq : w1.drewN _ = w2
        have hd2 : Drew w1 w2 := ⟨_, hWq.symm⟩
        have hb2 : Below n2 W0 w2 := hb1.trans (hd2.below _)
        clear hWq v0 v1 p0 p1 p2 m0 m1 m2 m3 m4 m5 m6 m7
        obtain ⟨z0, z1, z2, z3, z4, z5, z6, z7, zf⟩ := blk8 (HR.out w2 hb2)
        have hrow := Lib.hid (HR.out w2 hb2)
        have hBw := Lib.hid (show Below w.heap.size w w2 by rw [HN0.out]; exact HB0.out.trans (hb2.mono (by omega)))
        gi_wp2_with fail
        rw [(HZ.out 22 (by decide) HE.out).1, ← (HZ.out 22 (by decide) HE.out).2]
        have hend := msg_end (w := w) (u0 := .int .i64 0) (u1 := .int .i64 0) (u2 := .int .i64 0) (u3 := .int .i64 0) (u4 := .int .i64 0) (u5 := .int .i64 0) (u6 := .slice none 0 0) (u7 := .slice none 0 0) hrow.out (by have := HN0.out; omega) hBw.out msgVal_zero 22
        obtain ⟨hz, hret⟩ := hend
        change bodyPostM _ _ _ _ _ _ _ (set8 w2 (n0 + 1 + 1) (.int .i64 0) (.int .i64 0) (.int .i64 0) (.int .i64 0) (.int .i64 0) (.int .i64 0) (.slice none 0 0) (.slice none 0 0))
        generalize set8 w2 (n0 + 1 + 1) (.int .i64 0) (.int .i64 0) (.int .i64 0) (.int .i64 0) (.int .i64 0) (.int .i64 0) (.slice none 0 0) (.slice none 0 0) = W3 at hz hret ⊢
        obtain ⟨z0, z1, z2, z3, z4, z5, z6, z7, _⟩ := blk8 hz
        refine ⟨.tuple #[.agg #[.int .i64 0, .int .i64 0, .int .i64 0, .int .i64 0, .int .i64 0, .int .i64 0, .slice none 0 0, .slice none 0 0], .int .i64 22], ?_, hret⟩
        simp [results, Try.results21, Try.f21, go_sem, z0, z1, z2, z3, z4, z5, z6, z7]
    · have HE : Hid (ansE (s, lf, l) (kind, fr, tt, num, val, ep, vals, body) = 1) := by rw [Hid, ansE, if_neg (by rw [HX.out]; simp), if_pos hk]
      obtain ⟨z0, z1, z2, z3, z4, z5, z6, z7, zf⟩ := blk8 (HR.out w1 hb1)
      have hrow := Lib.hid (HR.out w1 hb1)
      have hBw := Lib.hid (show Below w.heap.size w w1 by rw [HN0.out]; exact HB0.out.trans (hb1.mono (by omega)))
      gi_wp2_with fail
      rw [(HZ.out 1 (by decide) HE.out).1, ← (HZ.out 1 (by decide) HE.out).2]
      have hend := msg_end (w := w) (u0 := .int .i64 0) (u1 := .int .i64 0) (u2 := .int .i64 0) (u3 := .int .i64 0) (u4 := .int .i64 0) (u5 := .int .i64 0) (u6 := .slice none 0 0) (u7 := .slice none 0 0) hrow.out (by have := HN0.out; omega) hBw.out msgVal_zero 1
      obtain ⟨hz, hret⟩ := hend
      change bodyPostM _ _ _ _ _ _ _ (set8 w1 (n0 + 1 + 1) (.int .i64 0) (.int .i64 0) (.int .i64 0) (.int .i64 0) (.int .i64 0) (.int .i64 0) (.slice none 0 0) (.slice none 0 0))
      generalize set8 w1 (n0 + 1 + 1) (.int .i64 0) (.int .i64 0) (.int .i64 0) (.int .i64 0) (.int .i64 0) (.int .i64 0) (.slice none 0 0) (.slice none 0 0) = W3 at hz hret ⊢
      obtain ⟨z0, z1, z2, z3, z4, z5, z6, z7, _⟩ := blk8 hz
      refine ⟨.tuple #[.agg #[.int .i64 0, .int .i64 0, .int .i64 0, .int .i64 0, .int .i64 0, .int .i64 0, .slice none 0 0, .slice none 0 0], .int .i64 1], ?_, hret⟩
      simp [results, Try.results21, Try.f21, go_sem, z0, z1, z2, z3, z4, z5, z6, z7]
  · have HE : Hid (ansE (s, lf, l) (kind, fr, tt, num, val, ep, vals, body) = x) := by rw [Hid, ansE, if_pos (by rw [HX.out]; exact hx0), HX.out]
    obtain ⟨z0, z1, z2, z3, z4, z5, z6, z7, zf⟩ := blk8 (HR.out w1 hb1)
    have hrow := Lib.hid (HR.out w1 hb1)
    have hBw := Lib.hid (show Below w.heap.size w w1 by rw [HN0.out]; exact HB0.out.trans (hb1.mono (by omega)))
    gi_wp2_with fail
    rw [(HZ.out x hx0 HE.out).1, ← (HZ.out x hx0 HE.out).2]
    have hend := msg_end (w := w) (u0 := .int .i64 0) (u1 := .int .i64 0) (u2 := .int .i64 0) (u3 := .int .i64 0) (u4 := .int .i64 0) (u5 := .int .i64 0) (u6 := .slice none 0 0) (u7 := .slice none 0 0) hrow.out (by have := HN0.out; omega) hBw.out msgVal_zero x
    obtain ⟨hz, hret⟩ := hend
    change bodyPostM _ _ _ _ _ _ _ (set8 w1 (n0 + 1 + 1) (.int .i64 0) (.int .i64 0) (.int .i64 0) (.int .i64 0) (.int .i64 0) (.int .i64 0) (.slice none 0 0) (.slice none 0 0))
    generalize set8 w1 (n0 + 1 + 1) (.int .i64 0) (.int .i64 0) (.int .i64 0) (.int .i64 0) (.int .i64 0) (.int .i64 0) (.slice none 0 0) (.slice none 0 0) = W3 at hz hret ⊢
    obtain ⟨z0, z1, z2, z3, z4, z5, z6, z7, _⟩ := blk8 hz
    refine ⟨.tuple #[.agg #[.int .i64 0, .int .i64 0, .int .i64 0, .int .i64 0, .int .i64 0, .int .i64 0, .slice none 0 0, .slice none 0 0], .int .i64 x], ?_, hret⟩
    simp [results, Try.results21, Try.f21, go_sem, z0, z1, z2, z3, z4, z5, z6, z7]
end Go.Proofs.Ytjehedfdikdfpaa
