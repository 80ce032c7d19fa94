/-
  snapshot.Revert; results read as data.
-/
import Derived.Test.YtgmeghandjkkcaaGreatSn4
set_option linter.unusedVariables false
set_option linter.unusedSimpArgs false
set_option linter.unusedSectionVars false
set_option linter.unnecessarySimpa false
namespace Go.Proofs.YtgmeghandjkkcaaGreat
open Go.RowKit Go.Shelf
attribute [local go_sem] Oper.semAt_some

/-- snapshots as a call returns them, read as data -/
def SnRdE (s : Sns) (n : Int) (w : World) (e : Ending) (w' : World) : Prop :=
  ∃ B vc D dc, e = .returned (.tuple #[.agg #[.slice B s.1.length vc, .slice D s.2.length dc], .int .i64 n]) ∧ (s.1.length ≤ vc ∧ vc ≤ maxLen ∧ SlAt (encSl encSec) w' (Nw w.heap.size w'.heap.size) B s.1) ∧ (s.2.length ≤ dc ∧ dc ≤ maxLen ∧ SlAt encSnp w' (Nw w.heap.size w'.heap.size) D s.2) ∧ Below w.heap.size w w'
theorem SnRetE.rd {s : Sns} {n : Int} {w : World} {e : Ending} {w' : World} (h : SnRetE s n w e w') : SnRdE s n w e w' := by
  obtain ⟨B, vc, D, dc, mid, he, hs, hb⟩ := h
  obtain ⟨h1, h2⟩ := hs.read
  exact ⟨B, vc, D, dc, he, h1, h2, hb⟩
theorem SlAt.set2 {α : Type} {E : Enc α} {w : World} {S : Nat → Prop} {A : Option Addr} {l : List α} (h : SlAt E w S A l) {b : Nat} (hne : ∀ g, S g → g ≠ b) (u v : Value) : SlAt E ((w.setCell ⟨b, 0, none⟩ u).setCell ⟨b, 1, none⟩ v) S A l :=
  h.blk (fun g hg => (heap_setCell_other _ _ _ _ (hne g hg)).trans (heap_setCell_other _ _ _ _ (hne g hg)))
theorem setLast_take {l : List Snp} {k : Nat} (hk : k < l.length) (f : List Wr → List Wr) : setLast (l.take (k + 1)) f = (l.set k (l[k].1, l[k].2.1, f l[k].2.2)).take (k + 1) := by
  have h1 : (l.take (k + 1)).length = k + 1 := by rw [List.length_take]; omega
  rw [setLast_set (by omega)]
  have e : (l.take (k + 1)).length - 1 = k := by omega
  simp only [e]
  rw [List.take_set]
  simp
set_option maxHeartbeats 4000000 in
set_option maxRecDepth 100000 in
theorem snRevert_any (A A2 : Option Addr) (c c2 n m : Nat) (im : Img) (l : List Snp) (num : Int) (w : World) (hn : im.length = n) (hm : l.length = m) (h1 : SlAt (encSl encSec) w (Bl w.heap.size) A im) (h2 : SlAt encSnp w (Bl w.heap.size) A2 l) (hL : SnLim im l) (hc2 : m ≤ c2) :
    Calls Tryz.prog 17 #[.agg #[.slice A n c, .slice A2 m c2], .int .i64 num] w (SnRdE (sRevert (im, l) num) (findE (im, l) num) w) := by
  subst hn hm
  have H1 : Hid (∀ w', Below w.heap.size w w' → SlAt (encSl encSec) w' (Bl w.heap.size) A im) := fun w' hb => h1.below hb
  have H2 : Hid (∀ w', Below w.heap.size w w' → SlAt encSnp w' (Bl w.heap.size) A2 l) := fun w' hb => h2.below hb
  have HLM := Lib.hid hL
  have hl1 := hL.ims
  have hl2 := hL.its
  clear h1 h2 hL
  obtain ⟨n0, hn0⟩ : ∃ n0, w.heap.size = n0 := ⟨_, rfl⟩
  obtain ⟨W0, hW0⟩ : ∃ W0, (w.alloc (.cells #[.slice A im.length c, .slice A2 l.length c2] 26)).alloc (.cells #[.slice none 0 0, .slice none 0 0] 26) = W0 := ⟨_, rfl⟩
  have hB0 : Below n0 w W0 := by rw [← hW0, ← hn0]; exact ext_alloc (ext_alloc (Below.refl _ _))
  have hs0 : n0 + 1 < W0.heap.size := by rw [← hW0, ← hn0]; simp
  have hr0 : W0.heap[n0]? = some (.cells #[.slice A im.length c, .slice A2 l.length c2] 26 (0, 0)) := by rw [← hW0, ← hn0]; exact (Below.heap_alloc _ _ _ (by simp)).trans (heap_alloc_new _ _)
  have hrz0 : W0.heap[n0 + 1]? = some (.cells #[.slice none 0 0, .slice none 0 0] 26 (0, 0)) := by rw [← hW0, ← hn0]; exact heap_new2 _ _ _
  have hBL : Hid (∀ (W : World) g, Below n0 w W → Bl w.heap.size g → Bl W.heap.size g) := fun W g hb hg => by have := hb.size; have h5 : g < w.heap.size := hg; show g < W.heap.size; omega
  have HCC : Hid (∀ W, Below W0.heap.size W0 W → W.cell? ⟨n0, 0, none⟩ = some (.slice A im.length c) ∧ W.cell? ⟨n0, 1, none⟩ = some (.slice A2 l.length c2)) := fun W hb => by
    obtain ⟨a, b, _⟩ := blk2 ((hb.block n0 (by omega)).trans hr0)
    exact ⟨a, b⟩
  have HRZ : Hid (∀ W, Below W0.heap.size W0 W → W.heap[n0 + 1]? = some (.cells #[.slice none 0 0, .slice none 0 0] 26 (0, 0))) := fun W hb => (hb.block (n0 + 1) hs0).trans hrz0
  obtain ⟨r, hr⟩ : ∃ r, Hid (findE (im, l) num = r) := ⟨_, rfl⟩
  obtain ⟨k, hk⟩ : ∃ k, Hid (findN (im, l) num = k) := ⟨_, rfl⟩
  have HCK := Lib.hid (snFind_any A A2 c c2 im.length l.length im l num W0 rfl rfl ((H1.out W0 (by rw [hn0]; exact hB0)).more (fun g hg => hBL.out W0 g hB0 hg)) ((H2.out W0 (by rw [hn0]; exact hB0)).more (fun g hg => hBL.out W0 g hB0 hg)) hl1 (by omega))
  rw [hr.out, hk.out] at HCK
  obtain ⟨c0, c1⟩ := HCC.out W0 (Below.refl _ _)
  clear hr0 hrz0
  go_enter Tryz.func17, Tryz.ntmps17
  go_wp2_with fail
  refine HCK.out.mono ?_
  rintro e w1 ⟨rfl, hb1⟩
  have hbw1 : Below n0 w w1 := hB0.trans (hb1.mono (by omega))
  have hz1 := hb1.size
  have hrz1 := HRZ.out w1 hb1
  clear HCK hW0 c0 c1
  by_cases hx0 : r = 0
  case neg =>
    have hx0' : (r != 0) = true := by simp [hx0]
    have hS : Hid (sRevert (im, l) num = zSns) := by rw [Hid, sRevert, if_neg (by rw [hr.out]; exact hx0)]
    obtain ⟨q0, q1, qf⟩ := blk2 hrz1
    clear hx0
    go_wp2_with fail
    have hz := blk2_set hrz1 (.slice none 0 0) (.slice none 0 0)
    have hbe := ((hbw1.setCell (p := ⟨n0 + 1, 0, none⟩) (by show n0 ≤ n0 + 1; omega) (.slice none 0 0)).setCell (p := ⟨n0 + 1, 1, none⟩) (by show n0 ≤ n0 + 1; omega) (.slice none 0 0))
    have hse := trivial
    change bodyPost _ _ _ _ _ ((w1.setCell ⟨(n0 + 1), 0, none⟩ (.slice none 0 0)).setCell ⟨(n0 + 1), 1, none⟩ (.slice none 0 0))
    generalize (w1.setCell ⟨(n0 + 1), 0, none⟩ (.slice none 0 0)).setCell ⟨(n0 + 1), 1, none⟩ (.slice none 0 0) = W3 at hz hbe hse ⊢
    obtain ⟨z0, z1, _⟩ := blk2 hz
    refine bodyPost_ret (v := .tuple #[.agg #[(.slice none 0 0), (.slice none 0 0)], .int .i64 r]) ?_ rfl ?_
    · simp [results, Tryz.results17, Tryz.f17, go_sem, z0, z1]
    rw [hr.out, hS.out]
    exact ⟨none, 0, none, 0, rfl, ⟨by simp [zSns], by simp, SlAt.nil_⟩, ⟨by simp [zSns], by simp, SlAt.nil_⟩, by rw [hn0]; exact hbe⟩
  have hx0' : (r != 0) = false := by simp [hx0]
  have hE : Hid (findE (im, l) num = 0) := by rw [Hid, hr.out, hx0]
  obtain ⟨e1, hkl⟩ := findE_ok hE.out
  obtain ⟨e3, e4⟩ := snE_ok e1
  rw [hk.out] at hkl
  obtain ⟨rim, hrim⟩ : ∃ rim, Hid (atL im (l.drop k) = rim) := ⟨_, rfl⟩
  have hS : Hid (sRevert (im, l) num = (rim, (l.set k (l[k].1, l[k].2.1, [])).take (k + 1))) := by rw [Hid, sRevert, if_pos hE.out, hk.out, hrim.out, setLast_take hkl]
  have HAT := Lib.hid (at_any A A2 c c2 im.length l.length k im l w1 rfl rfl ((H1.out w1 (by rw [hn0]; exact hbw1)).more (fun g hg => hBL.out w1 g hbw1 hg)) ((H2.out w1 (by rw [hn0]; exact hbw1)).more (fun g hg => hBL.out w1 g hbw1 hg)) HLM.out hkl hc2 e3 e4 rim hrim.out)
  clear hx0 hr e1 e3 e4
  obtain ⟨c0, c1⟩ := HCC.out w1 hb1
  go_wp2_with fail
  refine HAT.out.mono ?_
  rintro e w2 ⟨Bi, vi, rfl, i1, i2, i3, i4, hb2⟩
  have HI2 := Lib.hid i4
  have HI3 := Lib.hid i3
  have hb02 : Below W0.heap.size W0 w2 := ext_trans hb1 hb2
  have hbw2 : Below n0 w w2 := hB0.trans (hb02.mono (by omega))
  clear HAT c0 c1 hrz1 i4 i3
  have HCP := Lib.hid (copied36_any A A2 c c2 im.length l.length im l w2 rfl rfl ((H1.out w2 (by rw [hn0]; exact hbw2)).more (fun g hg => hBL.out w2 g hbw2 hg)) ((H2.out w2 (by rw [hn0]; exact hbw2)).more (fun g hg => hBL.out w2 g hbw2 hg)) HLM.out)
  obtain ⟨c0, c1⟩ := HCC.out w2 hb02
  go_wp2_with fail
  refine HCP.out.mono ?_
  rintro e w3 ⟨B, vc, D, dc, mid, rfl, hsn, hb3⟩
  clear HCP c0 c1
  go_upto_region 8 with (fail)
  obtain ⟨ob, hob⟩ : ∃ ob, w3.heap.size = ob := ⟨_, rfl⟩
  obtain ⟨w4, hw4⟩ : ∃ w4, w3.alloc (.cells #[.slice B im.length vc, .slice D l.length dc] 26) = w4 := ⟨_, rfl⟩
  rw [hw4, hob]
  have hb4 : Below w3.heap.size w3 w4 := by rw [← hw4]; exact ext_alloc (Below.refl _ _)
  have hr4 : w4.heap[ob]? = some (.cells #[.slice B im.length vc, .slice D l.length dc] 26 (0, 0)) := by rw [← hw4, ← hob]; exact heap_alloc_new _ _
  have hs4 : ob < w4.heap.size := (Array.getElem?_eq_some_iff.1 hr4).1
  have hz3 := hb3.size
  have hz2 := hb2.size
  obtain ⟨k1, k2, k3, k4, k5, k6⟩ := hsn
  have hO4 : Hid (OwnX (fun g => g = ob) encSnp w4 mid 76 (.slice D l.length dc) l) := (k6.var (X' := fun g => g = ob) (fun g hg => Or.inr (by omega))).below hb4
  have hb04 : Below W0.heap.size W0 w4 := ext_trans (ext_trans hb02 hb3) hb4
  have hb24 : Below w2.heap.size w2 w4 := ext_trans hb3 hb4
  have hbw4 : Below n0 w w4 := hB0.trans (hb04.mono (by omega))
  have hmz : mid ≤ ob := by omega
  have hmid : w2.heap.size ≤ mid := k3
  have hdl : l.length ≤ dc ∧ dc ≤ maxLen := hO4.out.parts.2.1 |> fun a => ⟨a, hO4.out.parts.2.2.1⟩
  clear k1 k2 k3 k5 k6 hw4 hb3 hb4
  obtain ⟨g, cs, he, hg1, hg2, hn, hcell, hfz, hrd⟩ := hO4.out.1.elem (i := k) hkl
  subst he
  have hgob : g ≠ ob := fun e => hO4.out.2 g rfl e
  obtain ⟨o0, o1, of⟩ := blk2 hr4
  obtain ⟨x, hx⟩ : ∃ x, l[k] = x := ⟨_, rfl⟩
  rw [hx] at hrd hS
  obtain ⟨num1, tm1, sv1⟩ := x
  obtain ⟨Dx, dx, rfl, j1, j2, j3, j4, j5⟩ := snp_cs hrd
  simp only at j1 j2 hS
  have x2 : w4.cell? ⟨g, k * 3 + 2, none⟩ = some (.slice Dx sv1.length dx) := hcell 2 _ rfl
  have hO5 : Hid (Own encSnp (w4.setCell ⟨g, k * 3 + 2, none⟩ (.slice none 0 0)) mid 76 (fun b => Nw mid w4.heap.size b ∧ ¬ b = ob ∧ (Value.slice (some ⟨g, 0, none⟩) l.length dc).ownBlock ≠ some b) (.slice (some ⟨g, 0, none⟩) l.length dc) (l.set k (num1, tm1, []))) := by
    refine Own.stored (E := encSnp) hO4.out.1 (j := 2) hkl (by decide) (.slice none 0 0) (num1, tm1, []) (fun cs hr => ?_)
    rw [hx] at hr
    obtain ⟨D', c', rfl, m1, m2, m3, m4, m5⟩ := snp_cs hr
    exact snp_mk (x := (num1, tm1, [])) m1 m2 (Nat.le_refl _) (by simp) SlAt.nil_
  obtain ⟨LS, hLS⟩ : ∃ LS, Hid (l.set k (num1, tm1, []) = LS) := ⟨_, rfl⟩
  have hLSl : Hid (LS.length = l.length) := by rw [Hid, ← hLS.out, List.length_set]
  rw [hLS.out] at hO5 hS
  have hIT : Hid (SlAt encSnp (w4.setCell ⟨g, k * 3 + 2, none⟩ (.slice none 0 0)) (fun b => (Nw mid w4.heap.size b) ∧ ¬ b = ob) (some ⟨g, 0, none⟩) LS) := by
    obtain ⟨A', c', he, h1, h2, h3⟩ := hO5.out.reads (S' := fun b => (Nw mid w4.heap.size b) ∧ ¬ b = ob) (fun b hb => ⟨hb.1, hb.2.1⟩) (fun b hb => by
      have : g = b := by simpa [Value.ownBlock] using hb
      subst this
      exact ⟨⟨hg1, hg2⟩, hgob⟩)
    simp only [List.cons.injEq, Value.slice.injEq, and_true] at he
    obtain ⟨rfl, e2, rfl⟩ := he
    exact h3
  have hfg := hfz (k * 3 + 2)
  have hk1 : (k : Int) + 1 ≤ dc := by omega
  have hkn : (0 : Int) ≤ k := by omega
  have hkl2 : (k : Int) < k + 1 := by omega
  have hRZ4 := HRZ.out w4 hb04
  clear hrd hcell hO5 j3 j4 j5 hx hn hfz
  go_upto_region 11 with (fail)
  obtain ⟨w5, hw5⟩ : ∃ w5, (((w4.setCell ⟨ob, 0, none⟩ (.slice Bi im.length vi)).setCell ⟨ob, 1, none⟩ (.slice (some ⟨g, 0, none⟩) (k + 1) dc)).setCell ⟨g, k * 3 + 2, none⟩ (.slice none 0 0)) = w5 := ⟨_, rfl⟩
  rw [hw5]
  have hs5 : w5.heap.size = w4.heap.size := by rw [← hw5]; simp [World.setCell]
  have hgo : ob ≠ g := fun e => hgob e.symm
  have hr5 : w5.heap[ob]? = some (.cells #[.slice Bi im.length vi, .slice (some ⟨g, 0, none⟩) (k + 1) dc] 26 (0, 0)) := by
    rw [← hw5]
    exact (heap_setCell_other _ ⟨g, k * 3 + 2, none⟩ ob _ hgo).trans (blk2_set hr4 _ _)
  have hne5 : ∀ b, b ≠ ob → b ≠ g → w5.heap[b]? = w4.heap[b]? := fun b h1 h2 => by
    rw [← hw5]
    exact (heap_setCell_other _ ⟨g, k * 3 + 2, none⟩ b _ h2).trans ((heap_setCell_other _ ⟨ob, 1, none⟩ b _ h1).trans (heap_setCell_other _ ⟨ob, 0, none⟩ b _ h1))
  have hrz5 : w5.heap[n0 + 1]? = some (.cells #[.slice none 0 0, .slice none 0 0] 26 (0, 0)) := (hne5 (n0 + 1) (by omega) (by omega)).trans hRZ4
  have hI5 : SlAt (encSl encSec) w5 (Nw w1.heap.size w5.heap.size) Bi rim := (HI2.out.blk (w' := w5) (fun b hb => (hne5 b (by have := hb.2; omega) (by have := hb.2; omega)).trans (hb24.block b hb.2))).more (fun b hb => ⟨hb.1, by have := hb.2; omega⟩)
  have hT5 : SlAt encSnp w5 (Nw w1.heap.size w5.heap.size) (some ⟨g, 0, none⟩) LS := (hIT.out.blk (w' := w5) (fun b hb => by
    have hbo : ob ≠ b := fun e => hb.2 e.symm
    rw [← hw5]
    simp [World.setCell, Array.getElem?_modify, hbo])).more (fun b hb => ⟨by have := hb.1.1; omega, by have := hb.1.2; omega⟩)
  have hB5 : Below n0 w w5 := by
    rw [← hw5]
    exact ((hbw4.setCell (p := ⟨ob, 0, none⟩) (by show n0 ≤ ob; omega) _).setCell (p := ⟨ob, 1, none⟩) (by show n0 ≤ ob; omega) _).setCell (p := ⟨g, k * 3 + 2, none⟩) (by show n0 ≤ g; omega) _
  have hT6 := hT5.take (n := k + 1)
  have HI5 := Lib.hid hI5
  have HT5 := Lib.hid hT6
  have hrl : Hid (rim.length = im.length) := HI3.out
  have hll : Hid ((LS.take (k + 1)).length = k + 1) := by rw [Hid, List.length_take, hLSl.out]; omega
  clear hw5 o0 o1 of x2 hfg hT5 hT6 hI5 hIT
  obtain ⟨o0, o1, _⟩ := blk2 hr5
  obtain ⟨q0, q1, qf⟩ := blk2 hrz5
  go_wp2_with fail
  have hz := blk2_set hrz5 (.slice Bi im.length vi) (.slice (some ⟨g, 0, none⟩) (k + 1) dc)
  have hbe := ((hB5.setCell (p := ⟨n0 + 1, 0, none⟩) (by show n0 ≤ n0 + 1; omega) (.slice Bi im.length vi)).setCell (p := ⟨n0 + 1, 1, none⟩) (by show n0 ≤ n0 + 1; omega) (.slice (some ⟨g, 0, none⟩) (k + 1) dc))
  have hse := And.intro (And.intro (HI5.out.set2 (b := n0 + 1) (fun g hg => by have := hg.1; omega) (.slice Bi im.length vi) (.slice (some ⟨g, 0, none⟩) (k + 1) dc)) (HT5.out.set2 (b := n0 + 1) (fun g hg => by have := hg.1; omega) (.slice Bi im.length vi) (.slice (some ⟨g, 0, none⟩) (k + 1) dc))) (show w5.heap.size ≤ ((w5.setCell ⟨n0 + 1, 0, none⟩ (.slice Bi im.length vi)).setCell ⟨n0 + 1, 1, none⟩ (.slice (some ⟨g, 0, none⟩) (k + 1) dc)).heap.size by simp [World.setCell])
  change bodyPost _ _ _ _ _ ((w5.setCell ⟨(n0 + 1), 0, none⟩ (.slice Bi im.length vi)).setCell ⟨(n0 + 1), 1, none⟩ (.slice (some ⟨g, 0, none⟩) (k + 1) dc))
  generalize (w5.setCell ⟨(n0 + 1), 0, none⟩ (.slice Bi im.length vi)).setCell ⟨(n0 + 1), 1, none⟩ (.slice (some ⟨g, 0, none⟩) (k + 1) dc) = W3 at hz hbe hse ⊢
  obtain ⟨z0, z1, _⟩ := blk2 hz
  refine bodyPost_ret (v := .tuple #[.agg #[(.slice Bi im.length vi), (.slice (some ⟨g, 0, none⟩) (k + 1) dc)], .int .i64 0]) ?_ rfl ?_
  · simp [results, Tryz.results17, Tryz.f17, go_sem, z0, z1]
  rw [hE.out, hS.out]
  obtain ⟨⟨v1, v2⟩, v3⟩ := hse
  refine ⟨Bi, vi, some ⟨g, 0, none⟩, dc, by simp only [hrl.out, hll.out], ⟨by simp only [hrl.out]; exact i1, i2, v1.more (fun b hb => ⟨by have := hb.1; omega, by have := hb.2; omega⟩)⟩, ⟨by simp only [hll.out]; omega, hdl.2, v2.more (fun b hb => ⟨by have := hb.1; omega, by have := hb.2; omega⟩)⟩, by rw [hn0]; exact hbe⟩
end Go.Proofs.YtgmeghandjkkcaaGreat
