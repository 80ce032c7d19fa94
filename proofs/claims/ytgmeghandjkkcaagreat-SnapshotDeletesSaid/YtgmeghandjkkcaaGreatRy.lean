/-
  The reference's Apply of snapshots.
-/
import Derived.Test.YtgmeghandjkkcaaGreatRv
import Derived.Test.YtgmeghandjkkcaaGreatRw
import Derived.Test.YtgmeghandjkkcaaGreatKw
import Derived.Test.YtgmeghandjkkcaaGreatKj
set_option linter.unusedVariables false
set_option linter.unusedSimpArgs false
set_option linter.unusedSectionVars false
set_option linter.unnecessarySimpa false
namespace Go.Proofs.YtgmeghandjkkcaaGreat
open Go.RowKit Go.Shelf
attribute [local go_sem] Oper.semAt_some

theorem setLast_at {l : List Snp} {j : Nat} (h : l.length = j + 1) (f : List Wr → List Wr) : setLast l f = l.set j ((l[j]'(by omega)).1, (l[j]'(by omega)).2.1, f (l[j]'(by omega)).2.2) := by
  obtain rfl : j = l.length - 1 := by omega
  exact setLast_set (by omega) f
theorem OwnX.storeSv {X : Nat → Prop} {w : World} {lo g n c : Nat} {T : TypeId} {l : List Snp} (h : OwnX X encSnp w lo T (.slice (some ⟨g, 0, none⟩) n c) l) {i : Nat} (hi : i < l.length) {d : List Wr} {D : Option Addr} {dc : Nat}
    (h3 : d.length ≤ dc) (h4 : dc ≤ maxLen) (h5 : SlAt encWr w (fun b => Nw lo w.heap.size b ∧ ¬ X b ∧ b ≠ g) D d) :
    OwnX X encSnp (w.setCell ⟨g, i * 3 + 2, none⟩ (.slice D d.length dc)) lo T (.slice (some ⟨g, 0, none⟩) n c) (l.set i (l[i].1, l[i].2.1, d)) := by
  have hg : (Value.slice (some ⟨g, 0, none⟩) n c).ownBlock = some g := rfl
  refine ⟨?_, h.2⟩
  have h6 := h5.more (S' := fun b => Nw lo w.heap.size b ∧ ¬ X b ∧ (Value.slice (some ⟨g, 0, none⟩) n c).ownBlock ≠ some b) (fun b hb => ⟨hb.1, hb.2.1, by rw [hg]; intro e; injection e with e; exact hb.2.2 e.symm⟩)
  have := Own.stored (E := encSnp) h.1 (j := 2) hi (by decide) (.slice D d.length dc) (l[i].1, l[i].2.1, d) (fun cs hr => by
    obtain ⟨D', c', rfl, k1, k2, _, _, _⟩ := snp_cs hr
    exact snp_mk (x := (l[i].1, l[i].2.1, d)) k1 k2 h3 h4 h6)
  rw [show (w.setCell ⟨g, i * 3 + 2, none⟩ (.slice D d.length dc)).heap.size = w.heap.size by simp [World.setCell]]
  exact this
theorem OwnX.noX {α : Type} {X : Nat → Prop} {E : Enc α} {w : World} {lo n c : Nat} {T : TypeId} {A : Option Addr} {l : List α} (h : OwnX X E w lo T (.slice A n c) l) (hn : l.length = n) : OwnX (fun _ => False) E w lo T (.slice A l.length c) l := by
  rw [hn]; exact h.var (fun _ h => h.elim)
theorem contL_len {im : Img} {ws : List Wr} : (contL im ws).length = ws.length := by simp [contL]
theorem contL_data {im : Img} {ws : List Wr} (hz : sizesN (lens im) = 0) (hf : ∀ x ∈ ws, fitsN (lens im) x = 0) : ∀ x ∈ contL im ws, 0 < x.2.2.length ∧ x.2.2.length ≤ 1000000 := by
  intro x hx
  obtain ⟨y, hy, rfl⟩ := List.mem_map.1 hx
  have h1 := fits_ok hz (hf y hy)
  have h2 : (contW im y).2.2.length = y.2.2.length := contW_len (hf y hy)
  rw [h2]
  exact ⟨h1.2.2.1, by have := h1.2.2.2; omega⟩
theorem WrsOwn.sl {w : World} {lo : Nat} {B : Option Addr} {vc : Nat} {xs : List WB} {l : List Wr} (h : WrsOwn w lo B vc xs l) : SlAt encWr w (Bl w.heap.size) B l := by
  have hl := h.own.lt
  obtain ⟨A', c', he, k1, k2, k3⟩ := h.own.reads (S' := Bl w.heap.size) (fun g hg => hg.1.2) (fun g hg => (hl g hg).2)
  simp only [List.cons.injEq, Value.slice.injEq, and_true] at he
  obtain ⟨rfl, _, rfl⟩ := he
  exact k3
set_option maxHeartbeats 4000000 in
set_option maxRecDepth 100000 in
theorem refSnApply_any (A A2 A3 : Option Addr) (c c2 c3 n m p : Nat) (im : Img) (l : List Snp) (ws : List Wr) (w : World) (hn : im.length = n) (hm : l.length = m) (hp : ws.length = p) (h1 : SlAt (encSl encSec) w (Bl w.heap.size) A im) (h2 : SlAt encSnp w (Bl w.heap.size) A2 l) (h3 : SlAt encWr w (Bl w.heap.size) A3 ws) (hL : SnLim im l) (hwl : p ≤ 1000) (hsv : ∀ x ∈ l, x.2.2.length ≤ 99000) :
    Calls Tryz.prog 11 #[.agg #[.slice A n c, .slice A2 m c2], .slice A3 p c3] w (SnRetE (sApply (im, l) ws) (sApplyE (im, l) ws) w) := by
  subst hn hm hp
  have H1 : Hid (∀ w', Below w.heap.size w w' → SlAt (encSl encSec) w' (Bl w.heap.size) A im) := fun w' hb => h1.below hb
  have H2 : Hid (∀ w', Below w.heap.size w w' → SlAt encSnp w' (Bl w.heap.size) A2 l) := fun w' hb => h2.below hb
  have H3 : Hid (∀ w', Below w.heap.size w w' → SlAt encWr w' (Bl w.heap.size) A3 ws) := fun w' hb => h3.below hb
  have HLM := Lib.hid hL
  have HSV := Lib.hid hsv
  have hl1 := hL.ims
  have hl2 := hL.its
  clear h1 h2 h3 hL hsv
  obtain ⟨n0, hn0⟩ : ∃ n0, w.heap.size = n0 := ⟨_, rfl⟩
  obtain ⟨W0, hW0⟩ : ∃ W0, (w.alloc (.cells #[.slice A im.length c, .slice A2 l.length c2] 26)).alloc (.cells #[.slice none 0 0, .slice none 0 0] 26) = W0 := ⟨_, rfl⟩
  have hB0 : Below n0 w W0 := by rw [← hW0, ← hn0]; exact ext_alloc (ext_alloc (Below.refl _ _))
  have hs0 : n0 + 1 < W0.heap.size := by rw [← hW0, ← hn0]; simp
  have hr0 : W0.heap[n0]? = some (.cells #[.slice A im.length c, .slice A2 l.length c2] 26 (0, 0)) := by rw [← hW0, ← hn0]; exact (Below.heap_alloc _ _ _ (by simp)).trans (heap_alloc_new _ _)
  have hrz0 : W0.heap[n0 + 1]? = some (.cells #[.slice none 0 0, .slice none 0 0] 26 (0, 0)) := by rw [← hW0, ← hn0]; exact heap_new2 _ _ _
  have hBL : Hid (∀ (W : World) g, Below n0 w W → Bl w.heap.size g → Bl W.heap.size g) := fun W g hb hg => by have := hb.size; have h5 : g < w.heap.size := hg; show g < W.heap.size; omega
  have HCC : Hid (∀ W, Below W0.heap.size W0 W → W.cell? ⟨n0, 0, none⟩ = some (.slice A im.length c) ∧ W.cell? ⟨n0, 1, none⟩ = some (.slice A2 l.length c2)) := fun W hb => by
    obtain ⟨a, b, _⟩ := blk2 ((hb.block n0 (by omega)).trans hr0)
    exact ⟨a, b⟩
  have HRZ : Hid (∀ W, Below W0.heap.size W0 W → W.heap[n0 + 1]? = some (.cells #[.slice none 0 0, .slice none 0 0] 26 (0, 0))) := fun W hb => (hb.block (n0 + 1) hs0).trans hrz0
  obtain ⟨r, hr⟩ : ∃ r, Hid (snE (im, l) = r) := ⟨_, rfl⟩
  have HCK := Lib.hid (refSnCheck_any A A2 c c2 im.length l.length im l r W0 rfl rfl hr.out ((H1.out W0 (by rw [hn0]; exact hB0)).more (fun g hg => hBL.out W0 g hB0 hg)) ((H2.out W0 (by rw [hn0]; exact hB0)).more (fun g hg => hBL.out W0 g hB0 hg)) hl1 (by omega))
  obtain ⟨c0, c1⟩ := HCC.out W0 (Below.refl _ _)
  clear hr0 hrz0
  go_enter Tryz.func11, Tryz.ntmps11
  go_wp2_with fail
  refine HCK.out.mono ?_
  rintro e w1 ⟨rfl, hb1⟩
  have hbw1 : Below n0 w w1 := hB0.trans (hb1.mono (by omega))
  have hz1 := hb1.size
  have hrz1 := HRZ.out w1 hb1
  clear HCK hW0 c0 c1
  by_cases hx0 : r = 0
  case neg =>
    have hx0' : (r != 0) = true := by simp [hx0]
    have hne : r ≠ 0 := hx0
    have hre : Hid (sApplyE (im, l) ws = r) := by rw [Hid, sApplyE, hr.out, if_pos hx0]
    clear hx0
    have hE : Hid (sApplyE (im, l) ws = r) := hre.out
    have hS : Hid (sApply (im, l) ws = zSns) := by rw [Hid, sApply, if_neg (by rw [hE.out]; exact hne)]
    obtain ⟨q0, q1, qf⟩ := blk2 hrz1
    clear hne
    go_wp2_with fail
    have hz := blk2_set hrz1 (.slice none 0 0) (.slice none 0 0)
    have hbe := ((hbw1.setCell (p := ⟨n0 + 1, 0, none⟩) (by show n0 ≤ n0 + 1; omega) (.slice none 0 0)).setCell (p := ⟨n0 + 1, 1, none⟩) (by show n0 ≤ n0 + 1; omega) (.slice none 0 0))
    have hse := (SnRet.zero (w := (w1.setCell ⟨n0 + 1, 0, none⟩ (.slice none 0 0)).setCell ⟨n0 + 1, 1, none⟩ (.slice none 0 0)) (lo := n0) (by simp [World.setCell]; omega))
    change bodyPost _ _ _ _ _ ((w1.setCell ⟨(n0 + 1), 0, none⟩ (.slice none 0 0)).setCell ⟨(n0 + 1), 1, none⟩ (.slice none 0 0))
    generalize (w1.setCell ⟨(n0 + 1), 0, none⟩ (.slice none 0 0)).setCell ⟨(n0 + 1), 1, none⟩ (.slice none 0 0) = W3 at hz hbe hse ⊢
    obtain ⟨z0, z1, _⟩ := blk2 hz
    refine bodyPost_ret (v := .tuple #[.agg #[(.slice none 0 0), (.slice none 0 0)], .int .i64 r]) ?_ rfl ?_
    · simp [results, Tryz.results11, Tryz.f11, go_sem, z0, z1]
    rw [hE.out, hS.out]
    exact ⟨none, 0, none, 0, n0, rfl, by rw [hn0]; exact hse, by rw [hn0]; exact hbe⟩
  have hx0' : (r != 0) = false := by simp [hx0]
  have HOK : Hid (snE (im, l) = 0) := by rw [Hid, hr.out, hx0]
  clear hx0 hr
  obtain ⟨en, hen⟩ : ∃ en, Hid (applyErr im ws = en) := ⟨_, rfl⟩
  have hsE : Hid (sApplyE (im, l) ws = en) := by rw [Hid, sApplyE, HOK.out, if_neg (by decide)]; exact hen.out
  have HAP := Lib.hid (refApply07_any A A3 c c3 im.length ws.length im ws w1 rfl rfl ((H1.out w1 (by rw [hn0]; exact hbw1)).more (fun g hg => hBL.out w1 g hbw1 hg)) hl1 ((H3.out w1 (by rw [hn0]; exact hbw1)).more (fun g hg => hBL.out w1 g hbw1 hg)) (by omega))
  rw [hen.out] at HAP
  obtain ⟨c0, c1⟩ := HCC.out w1 hb1
  go_wp2_with fail
  refine HAP.out.mono ?_
  rintro e w2 ⟨A4, c4, ix, rfl, a1, a2, a3, hb2⟩
  have hb02 : Below W0.heap.size W0 w2 := ext_trans hb1 hb2
  have hbw2 : Below n0 w w2 := hB0.trans (hb02.mono (by omega))
  have hrz2 := HRZ.out w2 hb02
  have hz2 := hb2.size
  have HA3 := Lib.hid a3
  clear HAP c0 c1 hrz1 a3
  by_cases hx0 : en = 0
  case neg =>
    have hx0' : (en != 0) = true := by simp [hx0]
    have hne : en ≠ 0 := hx0
    clear hx0
    have hE : Hid (sApplyE (im, l) ws = en) := hsE.out
    have hS : Hid (sApply (im, l) ws = zSns) := by rw [Hid, sApply, if_neg (by rw [hE.out]; exact hne)]
    obtain ⟨q0, q1, qf⟩ := blk2 hrz2
    clear hne
    go_wp2_with fail
    have hz := blk2_set hrz2 (.slice none 0 0) (.slice none 0 0)
    have hbe := ((hbw2.setCell (p := ⟨n0 + 1, 0, none⟩) (by show n0 ≤ n0 + 1; omega) (.slice none 0 0)).setCell (p := ⟨n0 + 1, 1, none⟩) (by show n0 ≤ n0 + 1; omega) (.slice none 0 0))
    have hse := (SnRet.zero (w := (w2.setCell ⟨n0 + 1, 0, none⟩ (.slice none 0 0)).setCell ⟨n0 + 1, 1, none⟩ (.slice none 0 0)) (lo := n0) (by simp [World.setCell]; omega))
    change bodyPost _ _ _ _ _ ((w2.setCell ⟨(n0 + 1), 0, none⟩ (.slice none 0 0)).setCell ⟨(n0 + 1), 1, none⟩ (.slice none 0 0))
    generalize (w2.setCell ⟨(n0 + 1), 0, none⟩ (.slice none 0 0)).setCell ⟨(n0 + 1), 1, none⟩ (.slice none 0 0) = W3 at hz hbe hse ⊢
    obtain ⟨z0, z1, _⟩ := blk2 hz
    refine bodyPost_ret (v := .tuple #[.agg #[(.slice none 0 0), (.slice none 0 0)], .int .i64 en]) ?_ rfl ?_
    · simp [results, Tryz.results11, Tryz.f11, go_sem, z0, z1]
    rw [hE.out, hS.out]
    exact ⟨none, 0, none, 0, n0, rfl, by rw [hn0]; exact hse, by rw [hn0]; exact hbe⟩
  have hx0' : (en != 0) = false := by simp [hx0]
  have hE : Hid (sApplyE (im, l) ws = 0) := by rw [Hid, hsE.out, hx0]
  have hfit : Hid (sizesN (lens im) = 0 ∧ ∀ x ∈ ws, fitsN (lens im) x = 0) := applyErr_ok (by rw [hen.out, hx0])
  have hapl : Hid (applyL im ws = putAll im ws) := by rw [Hid, applyL, if_pos (by rw [hen.out, hx0])]
  have hS : Hid (sApply (im, l) ws = (putAll im ws, setLast l fun d => foldL (contL im ws ++ d))) := by rw [Hid, sApply, if_pos hE.out]
  rw [hapl.out] at HA3 a1 ⊢
  clear hx0 hsE hapl
  have hpl : (putAll im ws).length = im.length := putAll_length im ws
  obtain ⟨im2, him2⟩ : ∃ im2, putAll im ws = im2 := ⟨_, rfl⟩
  rw [him2] at HA3 a1 hS hpl ⊢
  clear him2
  have HPL := Lib.hid hpl
  rw [hpl] at a1 ⊢
  clear hpl
  have HCP := Lib.hid (refCopy36_any A A2 c c2 im.length l.length im l w2 rfl rfl ((H1.out w2 (by rw [hn0]; exact hbw2)).more (fun g hg => hBL.out w2 g hbw2 hg)) ((H2.out w2 (by rw [hn0]; exact hbw2)).more (fun g hg => hBL.out w2 g hbw2 hg)) HLM.out (snE_full HOK.out))
  obtain ⟨c0, c1⟩ := HCC.out w2 hb02
  go_wp2_with fail
  refine HCP.out.mono ?_
  rintro e w3 ⟨B, vc, D, dc, mid, rfl, hsn, hb3⟩
  clear HCP c0 c1 hrz2
  go_upto_region 8 with (fail)
  obtain ⟨ob, hob⟩ : ∃ ob, w3.heap.size = ob := ⟨_, rfl⟩
  obtain ⟨w4, hw4⟩ : ∃ w4, w3.alloc (.cells #[.slice B im.length vc, .slice D l.length dc] 26) = w4 := ⟨_, rfl⟩
  rw [hw4, hob]
  have hb4 : Below w3.heap.size w3 w4 := by rw [← hw4]; exact ext_alloc (Below.refl _ _)
  have hr4 : w4.heap[ob]? = some (.cells #[.slice B im.length vc, .slice D l.length dc] 26 (0, 0)) := by rw [← hw4, ← hob]; exact heap_alloc_new _ _
  have hs4 : ob < w4.heap.size := (Array.getElem?_eq_some_iff.1 hr4).1
  have hz3 := hb3.size
  obtain ⟨k1, k2, k3, k4, k5, k6⟩ := hsn
  have hO4 : Hid (OwnX (fun g => g = ob) encSnp w4 mid 76 (.slice D l.length dc) l) := (k6.var (X' := fun g => g = ob) (fun g hg => Or.inr (by omega))).below hb4
  have hb04 : Below W0.heap.size W0 w4 := ext_trans (ext_trans hb02 hb3) hb4
  have hbw4 : Below n0 w w4 := hB0.trans (hb04.mono (by omega))
  have HA4 : Hid (SlAt (encSl encSec) w4 (Nw w1.heap.size mid) A4 im2) := (HA3.out.blk (w' := w4) (fun g hg => (hb4.block g (by have := hg.2; omega)).trans (hb3.block g hg.2))).more (fun g hg => hg.mono (Nat.le_refl _) (by omega))
  have hmz : mid ≤ ob := by omega
  have hwm : w1.heap.size ≤ mid := by omega
  have hz02 := hb02.size
  obtain ⟨o0, o1, of⟩ := blk2 hr4
  have HR5 := Lib.hid (blk2_0 hr4 (.slice A4 im.length c4))
  have HO5 := Lib.hid (hO4.out.set (p := ⟨ob, 0, none⟩) rfl (.slice A4 im.length c4))
  have HA5 : Hid (SlAt (encSl encSec) (w4.setCell ⟨ob, 0, none⟩ (.slice A4 im.length c4)) (Nw w1.heap.size mid) A4 im2) := HA4.out.blk (fun g hg => heap_setCell_other _ _ _ _ (by have := hg.2; show g ≠ ob; omega))
  have HB5 := Lib.hid (hbw4.setCell (p := ⟨ob, 0, none⟩) (by show n0 ≤ ob; omega) (.slice A4 im.length c4))
  have HB05 := Lib.hid (hb04.setCell (p := ⟨ob, 0, none⟩) (by show W0.heap.size ≤ ob; omega) (.slice A4 im.length c4))
  clear k1 k2 k3 k4 k5 k6 hw4 HA3 hb3 hb4 hen hO4 HA4
  go_upto_region 9 with (fail)
  generalize w4.setCell ⟨ob, 0, none⟩ (.slice A4 im.length c4) = w5 at HR5 HO5 HA5 HB5 HB05 ⊢
  clear o0 o1 of hr4 hs4 hb04 hbw4
  have hB5 := HB5.out
  have hB05 := HB05.out
  have hr5 := HR5.out
  clear HB5 HB05 HR5
  obtain ⟨o0, o1, _⟩ := blk2 hr5
  by_cases h0 : l.length = 0
  · have HL0 : Hid (l = []) := List.eq_nil_of_length_eq_zero h0
    have hg0 : decide (0 < l.length) = false := decide_eq_false (by omega)
    clear h0
    go_upto_region 12 with (fail)
    clear o0 o1
    obtain ⟨o0, o1, _⟩ := blk2 hr5
    have hrz6 := HRZ.out w5 hB05
    obtain ⟨q0, q1, qf⟩ := blk2 hrz6
    have hz6 : mid ≤ (w5).heap.size := by have := (Array.getElem?_eq_some_iff.1 hr5).1; omega
    go_wp2_with fail
    have hz := blk2_set hrz6 (.slice A4 im.length c4) (.slice D l.length dc)
    have hbe := ((hB5.setCell (p := ⟨n0 + 1, 0, none⟩) (by show n0 ≤ n0 + 1; omega) (.slice A4 im.length c4)).setCell (p := ⟨n0 + 1, 1, none⟩) (by show n0 ≤ n0 + 1; omega) (.slice D l.length dc))
    have hse := (((show SnRet im2 l A4 c4 D dc mid w1.heap.size w5 from ⟨by rw [HPL.out]; exact a1, a2, by omega, hz6, (HA5.out), (HO5.out).noX (by simp)⟩).set (p := ⟨n0 + 1, 0, none⟩) (by show n0 + 1 < w1.heap.size; omega) (.slice A4 im.length c4)).set (p := ⟨n0 + 1, 1, none⟩) (by show n0 + 1 < w1.heap.size; omega) (.slice D l.length dc))
    change bodyPost _ _ _ _ _ ((w5.setCell ⟨(n0 + 1), 0, none⟩ (.slice A4 im.length c4)).setCell ⟨(n0 + 1), 1, none⟩ (.slice D l.length dc))
    generalize (w5.setCell ⟨(n0 + 1), 0, none⟩ (.slice A4 im.length c4)).setCell ⟨(n0 + 1), 1, none⟩ (.slice D l.length dc) = W3 at hz hbe hse ⊢
    obtain ⟨z0, z1, _⟩ := blk2 hz
    refine bodyPost_ret (v := .tuple #[.agg #[(.slice A4 im.length c4), (.slice D l.length dc)], .int .i64 0]) ?_ rfl ?_
    · simp [results, Tryz.results11, Tryz.f11, go_sem, z0, z1]
    rw [hE.out, hS.out]
    have e : setLast l (fun d => foldL (contL im ws ++ d)) = l := by rw [HL0.out]; rfl
    rw [e]
    exact ⟨A4, c4, D, dc, mid, by rw [HPL.out], hse.low (by omega), by rw [hn0]; exact hbe⟩
  · have hg0 : decide (0 < l.length) = true := decide_eq_true (by omega)
    go_upto_region 11 with (fail)
    have hjj : ∃ j : Nat, Hid (l.length = j + 1) := ⟨l.length - 1, by show l.length = _; omega⟩
    obtain ⟨j, hj⟩ := hjj
    have hjl : j < l.length := by rw [hj.out]; omega
    have e5 : (l.length : Int) - 1 = j := by have := hj.out; omega
    have hji : (j : Int) < l.length := by omega
    have hnn : (0 : Int) ≤ j := by omega
    have hwj : IntKind.i64.wrap (j : Int) = (j : Int) := IntWalk.i64_in _ (by omega)
    have hset := setLast_at hj.out (fun d => foldL (contL im ws ++ d))
    have hsvl := HSV.out l[j] (List.getElem_mem hjl)
    obtain ⟨g, cs, rfl, hg1, hg2, hg3, hcell, hfz, hrd⟩ := HO5.out.1.elem (i := j) hjl
    have hgob : Hid (g ≠ ob) := fun e => HO5.out.2 g rfl e
    obtain ⟨_, _, rfl, _, _, _, _, _⟩ := snp_cs hrd
    have dg := hcell 2 _ rfl
    simp only [show encSnp.size = 3 from rfl] at dg
    generalize Value.slice _ _ _ = ug at dg
    have hfg := hfz (j * 3 + 2)
    have HST := Lib.hid (fun (W : World) (d : List Wr) (D : Option Addr) (dcc : Nat) (h : OwnX (fun g => g = ob) encSnp W mid 76 (.slice (some ⟨g, 0, none⟩) l.length dc) l) => OwnX.storeSv h hjl (d := d) (D := D) (dc := dcc))
    obtain ⟨b, off, Dx, dx, rfl, hb, g0, g1, g2, hD, hd1, hd2, _, _⟩ := (H2.out w5 (by rw [hn0]; exact hB5)).snp hjl
    obtain ⟨x, hx⟩ : ∃ x, l[j] = x := ⟨_, rfl⟩
    rw [hx] at hset hsvl g2 hD HST
    obtain ⟨num, tm, sv⟩ := x
    simp only at hset hsvl g2 hD HST
    have HSET := Lib.hid hset
    have hg2' : g < w5.heap.size := hg2
    have hbw : b < w5.heap.size := by have h1 := hb; have h2 := hB5.size; have h3 : b < w.heap.size := h1; omega
    have hz5 := hB5.size
    have HDS : Hid (∀ W, Below w5.heap.size w5 W → SlAt encWr W (Bl W.heap.size) Dx sv) := fun W hb => hD.belowUp (hb.mono hz5) (by have := hb.size; omega)
    have hobl : ob < w5.heap.size := (Array.getElem?_eq_some_iff.1 hr5).1
    have HSX : Hid (∀ W, Below w5.heap.size w5 W → W.cell? ⟨ob, 1, none⟩ = some (.slice (some ⟨g, 0, none⟩) l.length dc) ∧ W.cell? ⟨n0, 0, none⟩ = some (.slice A im.length c) ∧ W.cell? ⟨n0, 1, none⟩ = some (.slice (some ⟨b, off, none⟩) l.length c2) ∧ W.cell? ⟨b, off + j * 3 + 2, none⟩ = some (.slice Dx sv.length dx)) := fun W hb => by
      obtain ⟨a1', a2'⟩ := HCC.out W (ext_trans hB05 hb)
      exact ⟨(World.cell?_of_block (a := ⟨ob, 1, none⟩) (hb.block ob hobl)).trans o1, a1', a2', (World.cell?_of_block (a := ⟨b, off + j * 3 + 2, none⟩) (hb.block b hbw)).trans g2⟩
    have HSG : Hid (∀ W, Below w5.heap.size w5 W → W.cell? ⟨g, j * 3 + 2, none⟩ = some ug ∧ W.frozen? ⟨g, j * 3 + 2, none⟩ = false) := fun W hb => by
      have hkg := hb.block g hg2'
      exact ⟨(World.cell?_of_block (a := ⟨g, j * 3 + 2, none⟩) hkg).trans dg, (World.frozen?_of_block (a := ⟨g, j * 3 + 2, none⟩) hkg).trans hfg⟩
    have hbg : b ≠ g := by have h1 : b < w.heap.size := hb; have := hg1; omega
    have hng : n0 ≠ g := by have := hg1; omega
    have HSK : Hid (∀ W u, Below w5.heap.size w5 W → (W.setCell ⟨g, j * 3 + 2, none⟩ u).cell? ⟨ob, 1, none⟩ = some (.slice (some ⟨g, 0, none⟩) l.length dc) ∧ (W.setCell ⟨g, j * 3 + 2, none⟩ u).cell? ⟨n0, 0, none⟩ = some (.slice A im.length c) ∧ (W.setCell ⟨g, j * 3 + 2, none⟩ u).cell? ⟨n0, 1, none⟩ = some (.slice (some ⟨b, off, none⟩) l.length c2) ∧ (W.setCell ⟨g, j * 3 + 2, none⟩ u).cell? ⟨b, off + j * 3 + 2, none⟩ = some (.slice Dx sv.length dx)) := fun W u hb' => by
      obtain ⟨y1, y2, y3, y4⟩ := HSX.out W hb'
      exact ⟨(World.cell?_of_block (a := ⟨ob, 1, none⟩) (heap_setCell_other W ⟨g, j * 3 + 2, none⟩ ob u (fun e => hgob.out e.symm))).trans y1, (World.cell?_of_block (a := ⟨n0, 0, none⟩) (heap_setCell_other W ⟨g, j * 3 + 2, none⟩ n0 u hng)).trans y2, (World.cell?_of_block (a := ⟨n0, 1, none⟩) (heap_setCell_other W ⟨g, j * 3 + 2, none⟩ n0 u hng)).trans y3, (World.cell?_of_block (a := ⟨b, off + j * 3 + 2, none⟩) (heap_setCell_other W ⟨g, j * 3 + 2, none⟩ b u hbg)).trans y4⟩
    obtain ⟨cl, hcl⟩ : ∃ cl, Hid (contL im ws = cl) := ⟨_, rfl⟩
    have hcll : Hid (cl.length = ws.length) := by rw [Hid, ← hcl.out]; exact contL_len
    have hcd : Hid (∀ x ∈ cl, 0 < x.2.2.length ∧ x.2.2.length ≤ 1000000) := by rw [← hcl.out]; exact contL_data hfit.out.1 hfit.out.2
    obtain ⟨rr, hrr⟩ : ∃ rr, Hid (foldL (cl ++ sv) = rr) := ⟨_, rfl⟩
    have hlen9 : Hid (cl.length + sv.length ≤ 100000) := by rw [Hid, hcll.out]; have : sv.length ≤ 99000 := hsvl; omega
    have hbd : Below w5.heap.size w5 w5.drew := (Below.refl _ _).drew
    have HKP := Lib.hid (refKept_any A A3 c c3 im.length ws.length im ws w5.drew rfl rfl ((H1.out w5.drew (by rw [hn0]; exact hB5.drew)).more (fun g hg => hBL.out w5.drew g hB5.drew hg)) hl1 ((H3.out w5.drew (by rw [hn0]; exact hB5.drew)).more (fun g hg => hBL.out w5.drew g hB5.drew hg)) (by omega) hfit.out.1 hfit.out.2)
    rw [hcl.out] at HKP HSET
    rw [hrr.out] at HSET
    clear hset hsvl hrd hcell hfz dg hfg g0 g1 g2 hD hd1 hd2 hx o0 o1 hg3 h0
    have hs0 := HSX.out w5.drew hbd
    go_region_held3 (fun W => W.cell? ⟨ob, 1, none⟩ = some (.slice (some ⟨g, 0, none⟩) l.length dc) ∧ W.cell? ⟨n0, 0, none⟩ = some (.slice A im.length c) ∧ W.cell? ⟨n0, 1, none⟩ = some (.slice (some ⟨b, off, none⟩) l.length c2) ∧ W.cell? ⟨b, off + j * 3 + 2, none⟩ = some (.slice Dx sv.length dx)) (first | exact hs0 | exact HSX.out _ hx7 | exact HSX.out _ hx6 | exact HSK.out _ _ hx7) (first | (go_at_call 42; refine (refOver_any B6 Dx v6 dx cl.length sv.length cl sv w6 rfl rfl ho6.out.sl (HDS.out w6 hx6) hlen9.out hcd.out).mono ?_; rintro e w7 ⟨A8, c8, rfl, u1, u2, u3, hb7⟩; have hx7 : Below w5.heap.size w5 w7 := ext_trans hx6 hb7; obtain ⟨z7, f7⟩ := HSG.out w7 hx7) | (go_at_call 43; refine HKP.out.mono ?_; rintro e w6 ⟨B6, v6, xs, rfl, ho, hb6⟩; have ho6 := Lib.hid ho; have hx6 : Below w5.heap.size w5 w6 := ext_trans hbd hb6))
    rw [hrr.out] at u1 u3 ⊢
    have HU := Lib.hid (And.intro u1 (And.intro u2 u3))
    have hz6 := hx6.size
    have hz7 := hx7.size
    have hO7 := HST.out w7 rr A8 c8 (HO5.out.below hx7) u1 u2 (u3.more (fun b' hb' => ⟨⟨by have := hb'.1; omega, hb'.2⟩, by have := hb'.1; omega, by have := hb'.1; omega⟩))
    have HO7 := Lib.hid hO7
    have hr7 := (heap_setCell_other w7 ⟨g, j * 3 + 2, none⟩ ob (.slice A8 rr.length c8) (fun e => hgob.out e.symm)).trans ((hx7.block ob hobl).trans hr5)
    have HR7 := Lib.hid hr7
    have HA7 : Hid (SlAt (encSl encSec) (w7.setCell ⟨g, j * 3 + 2, none⟩ (.slice A8 rr.length c8)) (Nw w1.heap.size mid) A4 im2) := HA5.out.blk (fun b' hb' => (heap_setCell_other w7 ⟨g, j * 3 + 2, none⟩ b' (.slice A8 rr.length c8) (by have := hb'.2; show b' ≠ g; omega)).trans (hx7.block b' (by have := hb'.2; omega)))
    have HB7 : Hid (Below n0 w (w7.setCell ⟨g, j * 3 + 2, none⟩ (.slice A8 rr.length c8))) := (hB5.trans (hx7.mono (by omega))).setCell (p := ⟨g, j * 3 + 2, none⟩) (by show n0 ≤ g; omega) _
    have HB07 : Hid (Below W0.heap.size W0 (w7.setCell ⟨g, j * 3 + 2, none⟩ (.slice A8 rr.length c8))) := (ext_trans hB05 hx7).setCell (p := ⟨g, j * 3 + 2, none⟩) (by show W0.heap.size ≤ g; omega) _
    clear hO7 hr7 u1 u2 u3 z7 f7 hr5 hB5 hB05 hs0 HO5 HA5
    generalize w7.setCell ⟨g, j * 3 + 2, none⟩ (.slice A8 rr.length c8) = w8 at HO7 HR7 HA7 HB7 HB07 ⊢
    have hr8 := HR7.out
    have hB8 := HB7.out
    have hB08 := HB07.out
    clear HR7 HB7 HB07 hb6 hb7 hx6 hx7 hz6 hz7 ho e5 hg1 hg2 hg2' hbw hb
    obtain ⟨o0, o1, _⟩ := blk2 hr8
    have hrz6 := HRZ.out w8 hB08
    obtain ⟨q0, q1, qf⟩ := blk2 hrz6
    have hz6 : mid ≤ (w8).heap.size := by have := (Array.getElem?_eq_some_iff.1 hr8).1; omega
    go_wp2_with fail
    have hz := blk2_set hrz6 (.slice A4 im.length c4) (.slice (some ⟨g, 0, none⟩) l.length dc)
    have hbe := ((hB8.setCell (p := ⟨n0 + 1, 0, none⟩) (by show n0 ≤ n0 + 1; omega) (.slice A4 im.length c4)).setCell (p := ⟨n0 + 1, 1, none⟩) (by show n0 ≤ n0 + 1; omega) (.slice (some ⟨g, 0, none⟩) l.length dc))
    have hse := (((show SnRet im2 (l.set j (num, tm, rr)) A4 c4 (some ⟨g, 0, none⟩) dc mid w1.heap.size w8 from ⟨by rw [HPL.out]; exact a1, a2, by omega, hz6, (HA7.out), (HO7.out).noX (by simp)⟩).set (p := ⟨n0 + 1, 0, none⟩) (by show n0 + 1 < w1.heap.size; omega) (.slice A4 im.length c4)).set (p := ⟨n0 + 1, 1, none⟩) (by show n0 + 1 < w1.heap.size; omega) (.slice (some ⟨g, 0, none⟩) l.length dc))
    change bodyPost _ _ _ _ _ ((w8.setCell ⟨(n0 + 1), 0, none⟩ (.slice A4 im.length c4)).setCell ⟨(n0 + 1), 1, none⟩ (.slice (some ⟨g, 0, none⟩) l.length dc))
    generalize (w8.setCell ⟨(n0 + 1), 0, none⟩ (.slice A4 im.length c4)).setCell ⟨(n0 + 1), 1, none⟩ (.slice (some ⟨g, 0, none⟩) l.length dc) = W3 at hz hbe hse ⊢
    obtain ⟨z0, z1, _⟩ := blk2 hz
    refine bodyPost_ret (v := .tuple #[.agg #[(.slice A4 im.length c4), (.slice (some ⟨g, 0, none⟩) l.length dc)], .int .i64 0]) ?_ rfl ?_
    · simp [results, Tryz.results11, Tryz.f11, go_sem, z0, z1]
    rw [hE.out, hS.out]
    rw [hcl.out, HSET.out]
    exact ⟨A4, c4, some ⟨g, 0, none⟩, dc, mid, by rw [HPL.out, List.length_set], hse.low (by omega), by rw [hn0]; exact hbe⟩
end Go.Proofs.YtgmeghandjkkcaaGreat
